/- Counting as far as some more: where it comes to no more, it is how many there are. -/
import Derived.Test.YtbmedfjmccnclaaGreatLogicC
import Derived.Laws.StandIn
import Derived.Lib.Bytealg
set_option linter.unusedVariables false
set_option linter.unusedSimpArgs false
set_option linter.unusedSectionVars false
namespace Go.Proofs.YtbmedfjmccnclaaGreat.AWP
open Go
inductive Re where
 | mk (k:Int) (a b c d:Int) (ks:List Re)
instance:Inhabited Re:=⟨.mk 0 0 0 0 0 []⟩
mutual
def Re.c:Re→List D
 | .mk k a b c d ks=>[.v (.int .u8 k),.v (.int .u64 a),.v (.int .u64 b),.v (.int .u64 c),.v (.int .u64 d),.sl 6 (Re.cs ks)]
def Re.cs:List Re→List (List D)
 | []=>[]
 | r :: l=>r.c :: Re.cs l
end
abbrev Re.d (r:Re):D:=.agg r.c
@[go_sem] theorem Re.c_mk (k a b c d:Int) (ks:List Re):(Re.mk k a b c d ks).c=[.v (.int .u8 k),.v (.int .u64 a),.v (.int .u64 b),.v (.int .u64 c),.v (.int .u64 d),.sl 6 (Re.cs ks)]:=by rw [Re.c]
@[go_sem] theorem Re.cs_eq:∀ (l:List Re),Re.cs l=l.map Re.c
 | []=>by rw [Re.cs]; rfl
 | r :: l=>by rw [Re.cs,Re.cs_eq l]; rfl
@[go_sem,simp] theorem Re.c_len (r:Re):r.c.length=6:=by cases r; rw [Re.c_mk]; rfl
@[go_sem,simp] theorem Re.c_take (r:Re):r.c.take 6=r.c:=List.take_of_length_le (by simp)
mutual
theorem Re.c_bl:∀ (r:Re),∀ d∈r.c,Bl 0 d
 | .mk k a b c d ks=>by
  have h:=Re.cs_bl ks
  rw [Re.c_mk]
  intro x hx
  simp only [List.mem_cons,List.not_mem_nil,or_false] at hx
  rcases hx with rfl | rfl | rfl | rfl | rfl | rfl
  ·simp
  ·simp
  ·simp
  ·simp
  ·simp
  ·exact .sl h
theorem Re.cs_bl:∀ (l:List Re),∀ r∈Re.cs l,∀ d∈r,Bl 0 d
 | []=>by rw [Re.cs]; simp
 | r :: l=>by
  have h1:=Re.c_bl r
  have h2:=Re.cs_bl l
  rw [Re.cs]
  intro x hx
  rcases List.mem_cons.1 hx with rfl | hx
  ·exact h1
  ·exact h2 x hx
end
@[simp] theorem Re.c_blT (r:Re):(∀ d∈r.c,Bl 0 d)=True:=eq_true r.c_bl
@[simp] theorem Re.cs_blT (l:List Re):(∀ r∈Re.cs l,∀ d∈r,Bl 0 d)=True:=eq_true (Re.cs_bl l)
theorem Re.map_bl (l:List Re):∀ r∈l.map Re.c,∀ d∈r,Bl 0 d:=by rw [← Re.cs_eq]; exact Re.cs_bl l
@[simp] theorem Re.d_bl (r:Re):Bl 0 (.agg r.c):=.agg r.c_bl
@[simp] theorem Re.pel_bl (r:Re):Bl 0 (.pel r.c):=.pel r.c_bl
@[simp] theorem Res_bl (l:List Re):Bl 0 (.sl 6 (l.map Re.c)):=by rw [← Re.cs_eq]; exact .sl (Re.cs_bl l)
@[simp] theorem Res_bl' (l:List Re):Bl 0 (.sl 6 (Re.cs l)):=.sl (Re.cs_bl l)
mutual
def Re.Ok:Re→Prop
 | .mk _ _ _ _ _ ks=>Re.Oks ks∧ks.length≤9223372036854775807
def Re.Oks:List Re→Prop
 | []=>True
 | r :: l=>r.Ok∧Re.Oks l
end
mutual
theorem Re.ok_of:∀ (r:Re),(∀ d∈r.c,Wf d)→r.Ok
 | .mk k a b c d ks,h=>by
  rw [Re.c_mk] at h
  have h':=h (.sl 6 (Re.cs ks)) (by simp)
  rw [Re.Ok]
  exact ⟨Re.oks_of ks h'.sl_mem,by have:=h'.sl_len; rw [Re.cs_eq,List.length_map] at this; exact this⟩
theorem Re.oks_of:∀ (l:List Re),(∀ r∈Re.cs l,∀ d∈r,Wf d)→Re.Oks l
 | [],h=>by rw [Re.Oks]; trivial
 | r :: l,h=>by
  rw [Re.cs] at h
  rw [Re.Oks]
  exact ⟨Re.ok_of r (h r.c (by simp)),Re.oks_of l fun x hx=>h x (by simp [hx])⟩
end
theorem Re.ok_agg {r:Re} (h:Wf (.agg r.c)):r.Ok:=Re.ok_of r h.agg_mem
def cmpI (x y:Int):Int:=if x<y then -1 else if y<x then 1 else 0
def orI (x y:Int):Int:=if x=0 then y else x
def setCmp (a b c d a' b' c' d':Int):Int:=orI (cmpI a a') (orI (cmpI b b') (orI (cmpI c c') (cmpI d d')))
mutual
def Re.cmp:Re→Re→Int
 | .mk k a b c d ks,.mk k' a' b' c' d' ks'=>orI (cmpI k k') (orI (setCmp a b c d a' b' c' d') (Re.cmps ks ks'))
def Re.cmps:List Re→List Re→Int
 | [],[]=>0
 | [],_ :: _=>-1
 | _ :: _,[]=>1
 | x :: l,y :: m=>orI (x.cmp y) (Re.cmps l m)
end
theorem drop_get {α:Type} {l:List α} {i:Nat} {x:α} (h:l[i]? = some x):l.drop i=x :: l.drop (i+1):=by
 obtain ⟨hi,rfl⟩:=List.getElem?_eq_some_iff.1 h
 exact List.drop_eq_getElem_cons hi
theorem get_ex {α:Type} {l:List α} {i:Nat} (h:i<l.length):∃ x,l[i]? = some x:=⟨_,List.getElem?_eq_getElem h⟩
theorem drop_end {α:Type} {l:List α} {i:Nat} (h:¬ i<l.length):l.drop i=[]:=List.drop_of_length_le (by omega)
@[simp] theorem orI_zero (x:Int):orI x 0=x:=by unfold orI; split <;> simp_all
@[simp] theorem zero_orI (x:Int):orI 0 x=x:=by simp [orI]
theorem orI_ne {x y:Int} (h:x≠0):orI x y=x:=by simp [orI,h]
section
variable {p:Re→Prop} (h:∀ (k a b c d:Int) (ks:List Re),(∀ x∈ks,p x)→p (.mk k a b c d ks))
include h
mutual
theorem Re.ind:∀ r:Re,p r
 | .mk k a b c d ks=>h k a b c d ks (Re.inds ks)
theorem Re.inds:∀ (l:List Re),∀ x∈l,p x
 | [],_,hx=>absurd hx (by simp)
 | r :: l,x,hx=>(List.mem_cons.1 hx).elim (fun e=>e ▸ Re.ind r) (Re.inds l x)
end
end
end Go.Proofs.YtbmedfjmccnclaaGreat.AWP
namespace Go.Proofs.YtbmedfjmccnclaaGreat.AWP
open Go
theorem cmpI_neg (x y:Int):cmpI y x = - cmpI x y:=by unfold cmpI; split <;> split <;> (try split) <;> omega
theorem orI_neg (x y:Int):orI (-x) (-y) = - orI x y:=by unfold orI; split <;> split <;> omega
theorem setCmp_neg (a b c d a' b' c' d':Int):setCmp a' b' c' d' a b c d = - setCmp a b c d a' b' c' d':=by
 simp only [setCmp,cmpI_neg a a',cmpI_neg b b',cmpI_neg c c',cmpI_neg d d',orI_neg]
mutual
theorem Re.cmp_neg:∀ (x y:Re),y.cmp x = - x.cmp y
 | .mk k a b c d ks,.mk k' a' b' c' d' ks'=>by
  rw [Re.cmp,Re.cmp,cmpI_neg k k',setCmp_neg a b c d,Re.cmps_neg ks ks',orI_neg,orI_neg]
theorem Re.cmps_neg:∀ (l m:List Re),Re.cmps m l = - Re.cmps l m
 | [],[]=>by simp [Re.cmps]
 | [],_ :: _=>by simp [Re.cmps]
 | _ :: _,[]=>by simp [Re.cmps]
 | x :: l,y :: m=>by rw [Re.cmps,Re.cmps,Re.cmp_neg x y,Re.cmps_neg l m,orI_neg]
end
def Rng (x:Int):Prop:=-1≤x∧x≤1
theorem Rng.orI {x y:Int} (h:Rng x) (h':Rng y):Rng (orI x y):=by unfold Rng AWP.orI at *; split <;> omega
theorem Rng.cmpI (x y:Int):Rng (cmpI x y):=by unfold Rng AWP.cmpI; split <;> (try split) <;> omega
mutual
theorem Re.rng:∀ (x y:Re),Rng (x.cmp y)
 | .mk k a b c d ks,.mk k' a' b' c' d' ks'=>by
  rw [Re.cmp]
  exact (Rng.cmpI _ _).orI (((Rng.cmpI _ _).orI ((Rng.cmpI _ _).orI ((Rng.cmpI _ _).orI (Rng.cmpI _ _)))).orI (Re.rngs ks ks'))
theorem Re.rngs:∀ (x y:List Re),Rng (Re.cmps x y)
 | [],[]=>by simp [Re.cmps,Rng]
 | [],_ :: _=>by simp [Re.cmps,Rng]
 | _ :: _,[]=>by simp [Re.cmps,Rng]
 | x :: l,y :: m=>by
  rw [Re.cmps]
  exact (Re.rng x y).orI (Re.rngs l m)
end
def Tri (p q r:Int):Prop:=(p=0→r=q)∧(q=0→r=p)∧(p<0→q<0→r<0)∧(0<p→0<q→0<r)
theorem Tri.orI {p q r p' q' r':Int} (h:Tri p q r) (h':Tri p' q' r'):Tri (orI p p') (orI q q') (orI r r'):=by
 unfold Tri AWP.orI at *
 split <;> split <;> split <;> omega
theorem Tri.cmpI (x y z:Int):Tri (cmpI x y) (cmpI y z) (cmpI x z):=by
 unfold Tri AWP.cmpI
 split <;> split <;> split <;> (try split) <;> (try split) <;> (try split) <;> omega
theorem Tri.set (a b c d a' b' c' d' a2 b2 c2 d2:Int):Tri (setCmp a b c d a' b' c' d') (setCmp a' b' c' d' a2 b2 c2 d2) (setCmp a b c d a2 b2 c2 d2):=
 (Tri.cmpI _ _ _).orI ((Tri.cmpI _ _ _).orI ((Tri.cmpI _ _ _).orI (Tri.cmpI _ _ _)))
mutual
theorem Re.tri:∀ (x y z:Re),Tri (x.cmp y) (y.cmp z) (x.cmp z)
 | .mk k a b c d ks,.mk k' a' b' c' d' ks',.mk k2 a2 b2 c2 d2 ks2=>by
  rw [Re.cmp,Re.cmp,Re.cmp]
  exact (Tri.cmpI _ _ _).orI ((Tri.set ..).orI (Re.tris ks ks' ks2))
theorem Re.tris:∀ (x y z:List Re),Tri (Re.cmps x y) (Re.cmps y z) (Re.cmps x z)
 | [],[],[]=>by simp [Re.cmps,Tri]
 | [],[],_ :: _=>by simp [Re.cmps,Tri]
 | [],_ :: _,[]=>by simp [Re.cmps,Tri]
 | [],y :: m,z :: n=>by rw [Re.cmps,Re.cmps,Re.cmps]; unfold Tri; omega
 | _ :: _,[],[]=>by simp [Re.cmps,Tri]
 | _ :: _,[],_ :: _=>by simp [Re.cmps,Tri]
 | x :: l,y :: m,[]=>by rw [Re.cmps,Re.cmps,Re.cmps]; unfold Tri; omega
 | x :: l,y :: m,z :: n=>by
  rw [Re.cmps,Re.cmps,Re.cmps]
  exact (Re.tri x y z).orI (Re.tris l m n)
end
mutual
def Re.same:Re→Re→Bool
 | .mk k a b c d ks,.mk k' a' b' c' d' ks'=>decide (k=k'∧a=a'∧b=b'∧c=c'∧d=d') && Re.sames ks ks'
def Re.sames:List Re→List Re→Bool
 | [],[]=>true
 | x :: l,y :: m=>x.same y && Re.sames l m
 | _,_=>false
end
theorem cmpI_zero (x y:Int):cmpI x y=0↔x=y:=by unfold cmpI; split <;> (try split) <;> omega
theorem orI_eq_zero (x y:Int):orI x y=0↔x=0∧y=0:=by unfold orI; split <;> simp_all
mutual
theorem Re.same_cmp:∀ (x y:Re),x.same y=decide (x.cmp y=0)
 | .mk k a b c d ks,.mk k' a' b' c' d' ks'=>by
  rw [Re.same,Re.cmp,Re.sames_cmp ks ks']
  simp only [orI_eq_zero,cmpI_zero,setCmp]
  rw [Bool.eq_iff_iff]
  simp only [Bool.and_eq_true,decide_eq_true_eq]
  constructor
  ·rintro ⟨⟨h1,h2,h3,h4,h5⟩,h6⟩; exact ⟨h1,⟨h2,h3,h4,h5⟩,h6⟩
  ·rintro ⟨h1,⟨h2,h3,h4,h5⟩,h6⟩; exact ⟨⟨h1,h2,h3,h4,h5⟩,h6⟩
theorem Re.sames_cmp:∀ (x y:List Re),Re.sames x y=decide (Re.cmps x y=0)
 | [],[]=>by simp [Re.sames,Re.cmps]
 | [],_ :: _=>by simp [Re.sames,Re.cmps]
 | _ :: _,[]=>by simp [Re.sames,Re.cmps]
 | x :: l,y :: m=>by
  rw [Re.sames,Re.cmps,Re.same_cmp x y,Re.sames_cmp l m]
  simp only [orI_eq_zero,Bool.decide_and]
end
mutual
def Re.cnt (most:Int):Re→Int
 | .mk _ _ _ _ _ ks=>Re.cnts most ks 1
def Re.cnts (most:Int):List Re→Int→Int
 | [],t=>t
 | x :: l,t=>if most<t then t else Re.cnts most l (IntKind.wrap .i64 (t+Re.cnt most x))
end
end Go.Proofs.YtbmedfjmccnclaaGreat.AWP
namespace Go.Proofs.YtbmedfjmccnclaaGreat.AWP
open Go
mutual
theorem Re.same_eq:∀ (x y:Re),x.same y=true→x=y
 | .mk k a b c d ks,.mk k' a' b' c' d' ks',h=>by
  rw [Re.same] at h
  simp only [Bool.and_eq_true,decide_eq_true_eq] at h
  obtain ⟨⟨rfl,rfl,rfl,rfl,rfl⟩,h⟩:=h
  rw [Re.sames_eq ks ks' h]
theorem Re.sames_eq:∀ (x y:List Re),Re.sames x y=true→x=y
 | [],[],_=>rfl
 | [],_ :: _,h=>by simp [Re.sames] at h
 | _ :: _,[],h=>by simp [Re.sames] at h
 | x :: l,y :: m,h=>by
  rw [Re.sames,Bool.and_eq_true] at h
  rw [Re.same_eq x y h.1,Re.sames_eq l m h.2]
end
theorem Re.cmp_zero {x y:Re}:x.cmp y=0↔x=y:=by
 constructor
 ·intro h; exact Re.same_eq x y (by rw [Re.same_cmp]; simpa using h)
 ·rintro rfl
  have:=Re.cmp_neg x x
  omega
def Re.le (x y:Re):Prop:=x.cmp y≤0
theorem Re.le_refl (x:Re):x.le x:=by unfold Re.le; rw [Re.cmp_zero.2 rfl]; omega
theorem Re.le_total (x y:Re):x.le y∨y.le x:=by unfold Re.le; have:=Re.cmp_neg x y; omega
theorem Re.le_trans {x y z:Re} (h:x.le y) (h':y.le z):x.le z:=by
 have t:=x.tri y z
 unfold Re.le Tri at *
 omega
theorem Re.le_antisymm {x y:Re} (h:x.le y) (h':y.le x):x=y:=by
 have:=Re.cmp_neg x y
 unfold Re.le at *
 exact Re.cmp_zero.1 (by omega)
def Sorted (l:List Re):Prop:=l.Pairwise Re.le
end Go.Proofs.YtbmedfjmccnclaaGreat.AWP
set_option maxRecDepth 100000
namespace Go.Proofs.YtbmedfjmccnclaaGreat.AWP
open Go
abbrev D.y (b:UInt8):D:=.v (.int .u8 b.toNat)
theorem all_ofNat {p:UInt8→Prop} (h:∀ n:_root_.Fin 256,p (UInt8.ofNat n.val)) (b:UInt8):p b:=by
 have:=h ⟨b.toNat,b.toNat_lt⟩
 simpa using this
def hexS:ByteArray:=⟨#[48,49,50,51,52,53,54,55,56,57,97,98,99,100,101,102]⟩
def hexD (n:Nat):UInt8:=hexS.data.getD (n % 16) 0
def hexB (b:UInt8):List UInt8:=[hexD (b.toNat / 16),hexD b.toNat]
@[go_sem,simp] theorem byteRows_len (l:List UInt8):(byteRows l).length=l.length:=by simp [byteRows]
theorem byteRows_app (l m:List UInt8):byteRows l++byteRows m=byteRows (l++m):=by simp [byteRows]
@[simp] theorem byteRows_bl (l:List UInt8):(∀ r∈byteRows l,∀ d∈r,Bl 0 d)=True:=by
 apply eq_true
 intro r hr d hd
 simp only [byteRows,List.mem_map] at hr
 obtain ⟨b,_,rfl⟩:=hr
 simp at hd
 subst hd
 exact .v _
def spec1:ByteArray:=⟨#[92,124,42,40,41,91,93,46,45]⟩
def plain (b:UInt8):Bool:=!(decide (b.toNat<33) || decide (126<b.toNat) || decide (0≤firstIdx spec1 b))
def signB (b:UInt8):List UInt8:=if plain b then [b] else 92 :: hexB b
def wD (w:Int):D:=.v (.int .u64 w)
@[simp] theorem Bl_wD {n:Nat} {w:Int}:Bl n (wD w):=.v _
def bit (n:Nat):Int:=IntKind.wrap .u64 (1 * 2 ^ (min n 64))
def setBit (ws:List Int) (n:Nat):List Int:=ws.set (n / 64) (bits .or .u64 (ws.getD (n / 64) 0) (bit (n % 64)))
def noneS:List Int:=[0,0,0,0]
def ofS (l:List UInt8):List Int:=l.foldl (fun ws b=>setBit ws b.toNat) noneS
def rangeS (low:Nat):Nat→List Int
 | 0=>noneS
 | n+1=>setBit (rangeS low n) (low+n)
def joinW (a b:List Int):List Int:=List.zipWith (fun x y=>bits .or .u64 x y) a b
theorem ws_get {ws:List Int} {i:Nat} (h:i<ws.length):ws[i]? = some (ws.getD i 0):=by simp [List.getD_eq_getElem?_getD,h]
def reS (ws:List Int):Re:=if ws=noneS then .mk 1 0 0 0 0 [] else .mk 3 (ws.getD 0 0) (ws.getD 1 0) (ws.getD 2 0) (ws.getD 3 0) []
theorem splc_all {α:Type} {c d:List α} (h:d.length=c.length):splc c 0 d=d:=by
 simp [splc,List.drop_eq_nil_of_le (show c.length≤d.length by omega)]
theorem four {ws:List Int} (h:ws.length=4):∃ a b c d,ws=[a,b,c,d]:=by
 match ws,h with
 | [a,b,c,d],_=>exact ⟨a,b,c,d,rfl⟩
theorem joinW_len {a b:List Int} (h:a.length=4) (h':b.length=4):(joinW a b).length=4:=by simp [joinW,h,h']
def jn (a b:List Int) (k:Nat):List Int:=(joinW a b).take k++a.drop k
def joinAll (l:List (List Int)):List Int:=l.foldl joinW noneS
def isB (s:ByteArray) (p:Nat) (l:ByteArray):Bool:=
 match s.data[p]? with
 | some b=>decide (0≤firstIdx l b)
 | none=>false
theorem isB_lt {s l:ByteArray} {p:Nat} (h:isB s p l=true):p<s.size:=by
 unfold isB at h
 split at h
 ·rename_i b hb; exact (Array.getElem?_eq_some_iff.1 hb).1
 ·cases h
def begB (s:ByteArray) (p:Nat):Bool:=isB s p ⟨#[92]⟩ ||
 match s.data[p]? with
 | some b=>plain b
 | none=>false
theorem begB_lt {s:ByteArray} {p:Nat} (h:begB s p=true):p<s.size:=by
 unfold begB at h
 rw [Bool.or_eq_true] at h
 rcases h with h | h
 ·exact isB_lt h
 ·split at h
  ·rename_i b hb; exact (Array.getElem?_eq_some_iff.1 hb).1
  ·cases h
end Go.Proofs.YtbmedfjmccnclaaGreat.AWP
set_option maxRecDepth 100000
namespace Go.Proofs.YtbmedfjmccnclaaGreat.AWP
open Go
open _root_.Nat renaming le_refl → za
theorem Fin.mvp {om0 om om':List Ob} {d d':D} {R:Out→List Ob→Prop} (ks:List (Option Nat)) (hk:ksOk om0.length ks=true) (hob:MvL om (kF ks) ks ks om') (hd:Cv om (kF ks) ks d d') (hr:R (.panic d') om'):Fin om0 om (.panic d) R:=by
 intro E0 E e hR0 hx hR ho
 obtain ⟨E',h1,h2,h3,ok⟩:=mv_ok' (base:=om0.length) ks hk hob hR
 refine ⟨E',.panic d',om',hr,h1,?_,h3,?_⟩
 ·have:=(hx.toB (base:=om0.length) (Nat.le_of_eq hR0.len)).trans h2
  rw [hR0.len] at this
  exact this.toExt
 ·cases e <;> simp only [OutR] at ho ⊢
  obtain ⟨y,h1,h2⟩:=ho
  exact ⟨y,h1,hd.rd hR ok h2⟩
def foldR (kind:Int) (l:List Re) (x:Re):Re:=l.foldr (fun y acc=>.mk kind 0 0 0 0 [y,acc]) x
def foldL (kind none:Int) (l:List Re):Re:=
 match l.getLast? with
 | Option.none=>.mk none 0 0 0 0 []
 | some x=>foldR kind l.dropLast x
theorem at_of {s:ByteArray} {p:Nat} {b:UInt8} (h:s.data[p]? = some b):s.data.getD p 0=b:=by
 simp [Array.getD_eq_getD_getElem?,h]
theorem get_lt {s:ByteArray} {p:Nat} (h:p<s.size):∃ b,s.data[p]? = some b:=⟨_,Array.getElem?_eq_getElem h⟩
theorem isB_at {s l:ByteArray} {p:Nat} {b:UInt8} (hb:s.data[p]? = some b):isB s p l=decide (0≤firstIdx l b):=by unfold isB; rw [hb]
theorem isB_end {s l:ByteArray} {p:Nat} (h:¬ p<s.size):isB s p l=false:=by unfold isB; rw [Array.getElem?_eq_none (by exact Nat.le_of_not_lt h)]
theorem begB_end {s:ByteArray} {p:Nat} (h:¬ p<s.size):begB s p=false:=by unfold begB; rw [isB_end h,Array.getElem?_eq_none (by exact Nat.le_of_not_lt h)]; rfl
inductive PR where
 | ok (r:Re) (p:Nat)
 | bad (p:Nat)
inductive PB where
 | ok (b:UInt8) (p:Nat)
 | bad (p:Nat)
def hexAt (s:ByteArray) (p:Nat):Nat:=(firstIdx hexS (s.data.getD p 0)).toNat
def pSign (s:ByteArray) (p:Nat):PB:=
 if begB s p=true then
  if (s.data.getD p 0).toNat=92 then
   if isB s (p+1) hexS=true then
    if isB s (p+2) hexS=true then .ok (UInt8.ofNat (16 * hexAt s (p+1)+hexAt s (p+2))) (p+3) else .bad (p+2)
   else .bad (p+1)
  else .ok (s.data.getD p 0) (p+1)
 else .bad p
theorem pSign_lt {s:ByteArray} {p:Nat} {b:UInt8} {q:Nat} (h:pSign s p=.ok b q):p<q∧q≤s.size:=by
 unfold pSign at h
 split at h
 case isFalse=>cases h
 rename_i h0
 have:=begB_lt h0
 split at h
 ·split at h
  ·split at h
   ·rename_i h2
    have:=isB_lt h2
    cases h
    omega
   ·cases h
  ·cases h
 ·cases h
  omega
abbrev cRb:ByteArray:=⟨#[93]⟩
abbrev cDash:ByteArray:=⟨#[45]⟩
abbrev cDot:ByteArray:=⟨#[46]⟩
abbrev cLb:ByteArray:=⟨#[91]⟩
abbrev cLp:ByteArray:=⟨#[40]⟩
abbrev cRp:ByteArray:=⟨#[41]⟩
abbrev cStar:ByteArray:=⟨#[42]⟩
abbrev cBar:ByteArray:=⟨#[124]⟩
abbrev cAtom:ByteArray:=⟨#[46,91,40]⟩
def clsGo (s:ByteArray) (ws:List Int) (p:Nat):PR:=
 if isB s p cRb=true then .ok (reS ws) (p+1) else
 match pSign s p with
 | .bad e=>.bad e
 | .ok lo q=>
  if hq:p<q∧q≤s.size then
   if isB s q cDash=true then
    match pSign s (q+1) with
    | .bad e=>.bad e
    | .ok hi q'=>
     if hi.toNat<lo.toNat then .bad (q+1) else
     if hq':p<q'∧q'≤s.size then clsGo s (joinAll [ws,rangeS lo.toNat (hi.toNat+1 - lo.toNat)]) q' else .bad 0
   else clsGo s (joinAll [ws,rangeS lo.toNat (lo.toNat+1 - lo.toNat)]) q
  else .bad 0
termination_by s.size - p
def starGo (s:ByteArray) (r:Re) (p:Nat):Re × Nat:=
 if h:isB s p cStar=true then starGo s (.mk 6 0 0 0 0 [r]) (p+1) else (r,p)
termination_by s.size - p
decreasing_by have:=isB_lt h; omega
section
variable (A:Nat→PR) (s:ByteArray)
def pAtom (p:Nat):PR:=
 if isB s p cDot=true then .ok (reS (rangeS 0 256)) (p+1)
 else if isB s p cLb=true then clsGo s noneS (p+1)
 else if isB s p cLp=true then
  if isB s (p+1) cRp=true then .ok (.mk 2 0 0 0 0 []) (p+2)
  else match A (p+1) with
   | .bad e=>.bad e
   | .ok r q=>if isB s q cRp=true then .ok r (q+1) else .bad q
 else match pSign s p with
  | .bad e=>.bad e
  | .ok b q=>.ok (reS (ofS [b])) q
def pPart (p:Nat):PR:=
 match pAtom A s p with
 | .bad e=>.bad e
 | .ok r q=>.ok (starGo s r q).1 (starGo s r q).2
def rowGo (l:List Re) (p:Nat):PR:=
 if (isB s p cAtom || begB s p)=true then
  match pPart A s p with
  | .bad e=>.bad e
  | .ok r q=>if hq:p<q∧q≤s.size then rowGo (l++[r]) q else .bad 0
 else .ok (foldL 4 2 l) p
termination_by s.size - p
def pRow (p:Nat):PR:=
 match pPart A s p with
 | .bad e=>.bad e
 | .ok r q=>rowGo A s [r] q
def altGo (l:List Re) (p:Nat):PR:=
 if isB s p cBar=true then
  match pRow A s (p+1) with
  | .bad e=>.bad e
  | .ok r q=>if hq:p<q∧q≤s.size then altGo (l++[r]) q else .bad 0
 else .ok (foldL 5 1 l) p
termination_by s.size - p
def pAlt (p:Nat):PR:=
 match pRow A s p with
 | .bad e=>.bad e
 | .ok r q=>altGo A s [r] q
end
def altF (s:ByteArray) (p:Nat):PR:=pAlt (fun q=>if h:p<q∧q≤s.size then altF s q else .bad 0) s p
termination_by s.size - p
theorem clsGo_lt {s:ByteArray}:∀ (n:Nat) (ws:List Int) (p:Nat) {r:Re} {q:Nat},s.size - p≤n→clsGo s ws p=.ok r q→p<q∧q≤s.size:=by
 intro n
 induction n with
 | zero=>
  intro ws p r q hn h
  rw [clsGo] at h
  split at h
  ·rename_i h0; have:=isB_lt h0; omega
  ·split at h
   ·cases h
   ·rename_i lo q1 hs
    have:=pSign_lt hs
    omega
 | succ n ih=>
  intro ws p r q hn h
  rw [clsGo] at h
  split at h
  ·rename_i h0; have:=isB_lt h0; cases h; omega
  ·split at h
   ·cases h
   ·rename_i lo q1 hs
    split at h
    case isFalse=>cases h
    split at h
    ·split at h
     ·cases h
     ·split at h
      ·cases h
      ·split at h
       case isFalse=>cases h
       have:=ih _ _ (by omega) h
       omega
    ·have:=ih _ _ (by omega) h
     omega
theorem starGo_le {s:ByteArray}:∀ (n:Nat) (r:Re) (p:Nat),s.size - p≤n→p≤s.size→p≤(starGo s r p).2∧(starGo s r p).2≤s.size:=by
 intro n
 induction n with
 | zero=>
  intro r p hn hp
  rw [starGo]
  split
  ·rename_i h; have:=isB_lt h; omega
  ·exact ⟨za _,hp⟩
 | succ n ih=>
  intro r p hn hp
  rw [starGo]
  split
  ·rename_i h; have:=isB_lt h
   have:=ih (.mk 6 0 0 0 0 [r]) (p+1) (by omega) (by omega)
   omega
  ·exact ⟨za _,hp⟩
def Fwd (A:Nat→PR) (s:ByteArray):Prop:=∀ {p r q},A p=.ok r q→p≤q∧q≤s.size
section
variable {A:Nat→PR} {s:ByteArray}
theorem pAtom_lt (hA:Fwd A s) {p:Nat} {r:Re} {q:Nat} (h:pAtom A s p=.ok r q):p<q∧q≤s.size:=by
 unfold pAtom at h
 split at h
 ·rename_i h0; have:=isB_lt h0; cases h; omega
 split at h
 ·have:=clsGo_lt _ _ _ (za _) h; omega
 split at h
 ·split at h
  ·rename_i h0; have:=isB_lt h0; cases h; omega
  ·split at h
   ·cases h
   ·rename_i h1
    have:=hA h1
    split at h
    ·rename_i h0; have:=isB_lt h0; cases h; omega
    ·cases h
 ·split at h
  ·cases h
  ·rename_i h1
   have:=pSign_lt h1
   cases h; exact this
theorem pPart_lt (hA:Fwd A s) {p:Nat} {r:Re} {q:Nat} (h:pPart A s p=.ok r q):p<q∧q≤s.size:=by
 unfold pPart at h
 split at h
 ·cases h
 ·rename_i r1 q1 h1
  have h2:=pAtom_lt hA h1
  have:=starGo_le _ r1 q1 (za _) h2.2
  cases h
  omega
theorem rowGo_le (hA:Fwd A s):∀ (n:Nat) (l:List Re) (p:Nat) {r:Re} {q:Nat},s.size - p≤n→p≤s.size→rowGo A s l p=.ok r q→p≤q∧q≤s.size:=by
 intro n
 induction n with
 | zero=>
  intro l p r q hn hp h
  rw [rowGo] at h
  split at h
  ·split at h
   ·cases h
   ·rename_i h1
    have:=pPart_lt hA h1
    omega
  ·cases h; exact ⟨za _,hp⟩
 | succ n ih=>
  intro l p r q hn hp h
  rw [rowGo] at h
  split at h
  ·split at h
   ·cases h
   ·split at h
    case isFalse=>cases h
    have:=ih _ _ (by omega) (by omega) h
    omega
  ·cases h; exact ⟨za _,hp⟩
theorem pRow_lt (hA:Fwd A s) {p:Nat} {r:Re} {q:Nat} (h:pRow A s p=.ok r q):p<q∧q≤s.size:=by
 unfold pRow at h
 split at h
 ·cases h
 ·rename_i h1
  have h2:=pPart_lt hA h1
  have:=rowGo_le hA _ _ _ (za _) h2.2 h
  omega
end
def altA (s:ByteArray) (p q:Nat):PR:=if p<q∧q≤s.size then altF s q else .bad 0
theorem altF_eq (s:ByteArray) (p:Nat):altF s p=pAlt (altA s p) s p:=by
 rw [altF]
 rfl
end Go.Proofs.YtbmedfjmccnclaaGreat.AWP
set_option maxRecDepth 100000
namespace Go.Proofs.YtbmedfjmccnclaaGreat.AWP
open Go
open _root_.Nat renaming or_lt_two_pow → za
theorem u64_wrap (n:Nat) (h:n<2 ^ 64):IntKind.wrap .u64 (n:Int)=(n:Int):=by
 rw [IntKind.wrap_u64]; omega
theorem orW (m n:Nat) (hm:m<2 ^ 64) (hn:n<2 ^ 64):bits .or .u64 (m:Int) (n:Int)=((m ||| n:Nat):Int):=by
 have h:m ||| n<2 ^ 64:=za hm hn
 show IntKind.wrap .u64 ((BitVec.ofInt 64 (m:Int) ||| BitVec.ofInt 64 (n:Int)).toNat:Int)=_
 have e1:(BitVec.ofInt 64 (m:Int)).toNat=m:=by simp [BitVec.toNat_ofInt]; omega
 have e2:(BitVec.ofInt 64 (n:Int)).toNat=n:=by simp [BitVec.toNat_ofInt]; omega
 rw [BitVec.toNat_or,e1,e2,u64_wrap _ h]
theorem bit_eq (n:Nat) (h:n<64):bit n=((2 ^ n:Nat):Int):=by
 unfold bit
 rw [Nat.min_eq_left (by omega),Int.one_mul]
 have:(2:Int) ^ n=((2 ^ n:Nat):Int):=by simp
 rw [this,u64_wrap]
 exact Nat.pow_lt_pow_right (by omega) h
def W64 (ws:List Int):Prop:=∃ ms:List Nat,ws=ms.map (fun m:Nat=>(m:Int))∧ms.length=4∧∀ m∈ms,m<2 ^ 64
def hasB (ws:List Int) (n:Nat):Bool:=((ws.getD (n / 64) 0).toNat).testBit (n % 64)
theorem W64.len {ws:List Int} (h:W64 ws):ws.length=4:=by obtain ⟨ms,rfl,h,_⟩:=h; simpa using h
theorem W64.getD {ws:List Int} (h:W64 ws) {j:Nat} (hj:j<4):∃ m:Nat,ws.getD j 0=(m:Int)∧m<2 ^ 64:=by
 obtain ⟨ms,rfl,hl,hb⟩:=h
 have hj':j<ms.length:=by omega
 refine ⟨ms[j],by simp [List.getD_eq_getElem?_getD,hj'],hb _ (List.getElem_mem hj')⟩
theorem W64.of {ws:List Int} (hl:ws.length=4) (h:∀ j,j<4→∃ m:Nat,ws.getD j 0=(m:Int)∧m<2 ^ 64):W64 ws:=by
 obtain ⟨a,b,c,d,rfl⟩:=four hl
 obtain ⟨m0,e0,h0⟩:=h 0 (by omega)
 obtain ⟨m1,e1,h1⟩:=h 1 (by omega)
 obtain ⟨m2,e2,h2⟩:=h 2 (by omega)
 obtain ⟨m3,e3,h3⟩:=h 3 (by omega)
 simp at e0 e1 e2 e3
 subst e0 e1 e2 e3
 refine ⟨[m0,m1,m2,m3],rfl,rfl,?_⟩
 intro m hm
 simp only [List.mem_cons,List.not_mem_nil,or_false] at hm
 rcases hm with rfl | rfl | rfl | rfl <;> assumption
theorem W64.ext {a b:List Int} (ha:W64 a) (hb:W64 b) (h:∀ n,n<256→hasB a n=hasB b n):a=b:=by
 refine List.ext_getElem? fun j=>?_
 by_cases hj:j<4
 case neg=>rw [List.getElem?_eq_none (by rw [ha.len]; omega),List.getElem?_eq_none (by rw [hb.len]; omega)]
 obtain ⟨m,e1,h1⟩:=ha.getD hj
 obtain ⟨n,e2,h2⟩:=hb.getD hj
 have hmn:m=n:=by
  refine Nat.eq_of_testBit_eq fun i=>?_
  by_cases hi:i<64
  ·have:=h (64 * j+i) (by omega)
   unfold hasB at this
   rw [show (64 * j+i) / 64=j by omega,show (64 * j+i) % 64=i by omega,e1,e2] at this
   simpa using this
  ·have p1:m<2 ^ i:=Nat.lt_of_lt_of_le h1 (Nat.pow_le_pow_right (by omega) (by omega))
   have p2:n<2 ^ i:=Nat.lt_of_lt_of_le h2 (Nat.pow_le_pow_right (by omega) (by omega))
   rw [Nat.testBit_lt_two_pow p1,Nat.testBit_lt_two_pow p2]
 subst hmn
 rw [ws_get (by rw [ha.len]; exact hj),ws_get (by rw [hb.len]; exact hj),e1,e2]
theorem W64.none:W64 noneS:=⟨[0,0,0,0],rfl,rfl,by simp⟩
theorem W64.set {ws:List Int} (h:W64 ws) {j m:Nat} (hm:m<2 ^ 64):W64 (ws.set j (m:Int)):=by
 obtain ⟨ms,rfl,hl,hb⟩:=h
 refine ⟨ms.set j m,by rw [List.map_set],by simpa using hl,fun x hx=>?_⟩
 rcases List.mem_or_eq_of_mem_set hx with h | h
 ·exact hb x h
 ·exact h ▸ hm
theorem setBit_w {ws:List Int} (h:W64 ws) {n:Nat} (hn:n<256):∃ m:Nat,ws.getD (n / 64) 0=(m:Int)∧m<2 ^ 64∧setBit ws n=ws.set (n / 64) ((m ||| 2 ^ (n % 64):Nat):Int)∧m ||| 2 ^ (n % 64)<2 ^ 64:=by
 obtain ⟨m,e,hm⟩:=h.getD (j:=n / 64) (by omega)
 have hk:2 ^ (n % 64)<2 ^ 64:=Nat.pow_lt_pow_right (by omega) (Nat.mod_lt _ (by omega))
 exact ⟨m,e,hm,by unfold setBit; rw [e,bit_eq _ (Nat.mod_lt _ (by omega)),orW m _ hm hk],za hm hk⟩
theorem W64.setBit {ws:List Int} (h:W64 ws) {n:Nat} (hn:n<256):W64 (setBit ws n):=by
 obtain ⟨m,_,_,e,hm⟩:=setBit_w h hn
 rw [e]
 exact h.set hm
theorem joinW_get {a b:List Int} (ha:W64 a) (hb:W64 b) {j:Nat} (hj:j<4):∃ m n:Nat,a.getD j 0=(m:Int)∧b.getD j 0=(n:Int)∧(joinW a b).getD j 0=((m ||| n:Nat):Int)∧m ||| n<2 ^ 64:=by
 obtain ⟨m,e1,h1⟩:=ha.getD hj
 obtain ⟨n,e2,h2⟩:=hb.getD hj
 refine ⟨m,n,e1,e2,?_,za h1 h2⟩
 have ga:=ws_get (ws:=a) (i:=j) (by rw [ha.len]; exact hj)
 have gb:=ws_get (ws:=b) (i:=j) (by rw [hb.len]; exact hj)
 rw [e1] at ga
 rw [e2] at gb
 have:(joinW a b)[j]? = some (bits .or .u64 (m:Int) (n:Int)):=by
  unfold joinW
  rw [List.getElem?_zipWith,ga,gb]
 rw [List.getD_eq_getElem?_getD,this,Option.getD_some,orW m n h1 h2]
theorem W64.joinW {a b:List Int} (ha:W64 a) (hb:W64 b):W64 (joinW a b):=
 W64.of (joinW_len ha.len hb.len) fun j hj=>let ⟨m,n,_,_,h1,h2⟩:=joinW_get ha hb hj; ⟨_,h1,h2⟩
end Go.Proofs.YtbmedfjmccnclaaGreat.AWP
set_option maxRecDepth 100000
namespace Go.Proofs.YtbmedfjmccnclaaGreat.AWP
open Go
mutual
def Re.sz:Re→Nat
 | .mk _ _ _ _ _ ks=>1+Re.szs ks
def Re.szs:List Re→Nat
 | []=>0
 | r :: l=>r.sz+Re.szs l
end
theorem Re.szs_app (l m:List Re):Re.szs (l++m)=Re.szs l+Re.szs m:=by
 induction l with
 | nil=>simp [Re.szs]
 | cons r l ih=>simp only [List.cons_append,Re.szs,ih]; omega
theorem Re.sz_pos (r:Re):1≤r.sz:=by cases r; rw [Re.sz]; omega
def Re.kids:Re→List Re
 | .mk _ _ _ _ _ ks=>ks
theorem Re.sz_kids (r:Re):r.sz=1+Re.szs r.kids:=by cases r; rw [Re.sz]; rfl
def Re.nodeOk:Re→Bool
 | .mk k a b c d ks=>
  let bare:=decide (a=0∧b=0∧c=0∧d=0)
  if k=1∨k=2 then decide (ks.length=0) && bare
  else if k=3 then decide (ks.length=0) && !bare
  else if k=4∨k=5 then decide (ks.length=2) && bare
  else if k=6 then decide (ks.length=1) && bare
  else false
mutual
def Re.nodesOk:Re→Bool
 | .mk k a b c d ks=>Re.nodeOk (.mk k a b c d ks) && Re.nodesOks ks
def Re.nodesOks:List Re→Bool
 | []=>true
 | r :: l=>r.nodesOk && Re.nodesOks l
end
theorem Re.szs_take {l:List Re} {i:Nat} {x:Re} (h:l[i]? = some x):Re.szs (l.take (i+1))=Re.szs (l.take i)+1+Re.szs x.kids:=by
 rw [List.take_add_one,h,Re.szs_app]
 have:=x.sz_kids
 simp [Re.szs]; omega
theorem Re.szs_take_le (l:List Re) (i:Nat):Re.szs (l.take i)≤Re.szs l:=by
 have:=Re.szs_app (l.take i) (l.drop i)
 rw [List.take_append_drop] at this
 omega
mutual
def Re.pre:Re→List Re
 | .mk k a b c d ks=>.mk k a b c d ks :: Re.pres ks
def Re.pres:List Re→List Re
 | []=>[]
 | r :: l=>r.pre++Re.pres l
end
section
variable {A:Nat→PR} {s:ByteArray}
end
end Go.Proofs.YtbmedfjmccnclaaGreat.AWP
namespace Go.Proofs.YtbmedfjmccnclaaGreat.AWP
open Go
end Go.Proofs.YtbmedfjmccnclaaGreat.AWP
set_option maxRecDepth 100000
namespace Go.Proofs.YtbmedfjmccnclaaGreat.AWP
open Go
open _root_.Bool renaming and_eq_true → za
def Re.nul:Re→Bool
 | .mk k _ _ _ _ [x,y]=>if k=4 then x.nul && y.nul else if k=5 then x.nul || y.nul else decide (k=2∨k=6)
 | .mk k _ _ _ _ _=>decide (k=2∨k=6)
def Re.fit:Re→Bool
 | .mk k _ _ _ _ [x,y]=>if k=4 then x.fit && y.fit else if k=5 then x.fit || y.fit else decide (k≠1)
 | .mk k _ _ _ _ _=>decide (k≠1)
def Re.fst:Re→List Int
 | .mk k _ _ _ _ [x,y]=>if k=4 then (if x.fit && y.fit then (if x.nul then joinAll [x.fst,y.fst] else x.fst) else noneS) else joinAll [x.fst,y.fst]
 | .mk _ _ _ _ _ [x]=>x.fst
 | .mk k a b c d _=>if k=3 then [a,b,c,d] else noneS
theorem Re.ok_cases {r:Re} (h:r.nodesOk=true):(∃ k,(k=1∨k=2)∧r=.mk k 0 0 0 0 [])∨(∃ a b c d,¬ (a=0∧b=0∧c=0∧d=0)∧r=.mk 3 a b c d []) ∨
  (∃ k x y,(k=4∨k=5)∧r=.mk k 0 0 0 0 [x,y]∧x.nodesOk=true∧y.nodesOk=true)∨∃ x,r=.mk 6 0 0 0 0 [x]∧x.nodesOk=true:=by
 obtain ⟨k,a,b,c,d,ks⟩:=r
 rw [Re.nodesOk,za] at h
 obtain ⟨h1,h2⟩:=h
 unfold Re.nodeOk at h1
 dsimp only at h1
 split at h1
 ·rename_i hk
  simp only [za,decide_eq_true_eq] at h1
  obtain ⟨e,rfl,rfl,rfl,rfl⟩:=h1
  exact .inl ⟨k,hk,by rw [List.eq_nil_of_length_eq_zero e]⟩
 split at h1
 ·rename_i hk
  subst hk
  simp only [za,decide_eq_true_eq,Bool.not_eq_true',decide_eq_false_iff_not] at h1
  exact .inr (.inl ⟨a,b,c,d,h1.2,by rw [List.eq_nil_of_length_eq_zero h1.1]⟩)
 split at h1
 ·rename_i hk
  simp only [za,decide_eq_true_eq] at h1
  obtain ⟨e,rfl,rfl,rfl,rfl⟩:=h1
  match ks,e with
  | [x,y],_=>
   rw [Re.nodesOks,Re.nodesOks,Re.nodesOks] at h2
   simp only [za,and_true] at h2
   exact .inr (.inr (.inl ⟨k,x,y,hk,rfl,h2.1,h2.2⟩))
 split at h1
 ·rename_i hk
  subst hk
  simp only [za,decide_eq_true_eq] at h1
  obtain ⟨e,rfl,rfl,rfl,rfl⟩:=h1
  match ks,e with
  | [x],_=>
   rw [Re.nodesOks,Re.nodesOks] at h2
   simp only [za,and_true] at h2
   exact .inr (.inr (.inr ⟨x,rfl,h2⟩))
 ·cases h1
theorem Re.indOk {p:Re→Prop} (h12:∀ k,(k=1∨k=2)→p (.mk k 0 0 0 0 [])) (h3:∀ a b c d,¬ (a=0∧b=0∧c=0∧d=0)→p (.mk 3 a b c d []))
  (h45:∀ k x y,(k=4∨k=5)→x.nodesOk=true→y.nodesOk=true→p x→p y→p (.mk k 0 0 0 0 [x,y])) (h6:∀ x,x.nodesOk=true→p x→p (.mk 6 0 0 0 0 [x])) (r:Re):r.nodesOk=true→p r:=by
 refine Re.ind (p:=fun r=>r.nodesOk=true→p r) ?_ r
 intro k a b c d ks ih h
 rcases Re.ok_cases h with ⟨k',hk,e⟩ | ⟨a',b',c',d',hn,e⟩ | ⟨k',x,y,hk,e,hx,hy⟩ | ⟨x,e,hx⟩
 ·cases e; exact h12 k hk
 ·cases e; exact h3 a b c d hn
 ·cases e; exact h45 k x y hk hx hy (ih x (by simp) hx) (ih y (by simp) hy)
 ·cases e; exact h6 x hx (ih x (by simp) hx)
mutual
def Re.wd:Re→Prop
 | .mk _ a b c d ks=>W64 [a,b,c,d]∧Re.wds ks
def Re.wds:List Re→Prop
 | []=>True
 | r :: l=>r.wd∧Re.wds l
end
end Go.Proofs.YtbmedfjmccnclaaGreat.AWP
set_option maxRecDepth 100000
namespace Go.Proofs.YtbmedfjmccnclaaGreat.AWP
open Go
def Re.kd:Re→Int
 | .mk k _ _ _ _ _=>k
def Re.set:Re→List Int
 | .mk _ a b c d _=>[a,b,c,d]
def Re.fl:Re→List Re
 | .mk k a b c d [x,y]=>if k=1 then [] else if k=5 then x.fl++y.fl else [.mk k a b c d [x,y]]
 | .mk k a b c d ks=>if k=1 then [] else [.mk k a b c d ks]
end Go.Proofs.YtbmedfjmccnclaaGreat.AWP
set_option maxRecDepth 100000
namespace Go.Proofs.YtbmedfjmccnclaaGreat.AWP
open Go
open _root_.Nat renaming le_refl → za
structure Sh (s s':ByteArray) (k:Nat):Prop where
 get:∀ i,i<s.size→s'.data[k+i]? = s.data[i]?
 stop:s'.data[k+s.size]? = some 41
section
variable {s s':ByteArray} {k:Nat}
theorem Sh.lt (h:Sh s s' k):k+s.size<s'.size:=(Array.getElem?_eq_some_iff.1 h.stop).1
theorem Sh.isI (h:Sh s s' k) {p:Nat} (hp:p<s.size) (l:ByteArray):isB s' (k+p) l=isB s p l:=by
 unfold isB
 rw [h.get p hp]
theorem Sh.isE (h:Sh s s' k) {p:Nat} (hp:p≤s.size) {l:ByteArray} (hl:decide (0≤firstIdx l 41)=false):isB s' (k+p) l=isB s p l:=by
 by_cases h1:p<s.size
 ·exact h.isI h1 l
 ·have e:p=s.size:=by omega
  subst e
  rw [isB_end h1,isB_at h.stop,hl]
theorem Sh.beg (h:Sh s s' k) {p:Nat} (hp:p≤s.size):begB s' (k+p)=begB s p:=by
 unfold begB
 rw [h.isE hp (by decide +kernel)]
 by_cases h1:p<s.size
 ·rw [h.get p h1]
 ·have e:p=s.size:=by omega
  subst e
  rw [h.stop,Array.getElem?_eq_none (by exact Nat.le_of_not_lt h1)]
  simp only [show plain 41=false from by decide +kernel]
theorem Sh.getD (h:Sh s s' k) {p:Nat} (hp:p<s.size):s'.data.getD (k+p) 0=s.data.getD p 0:=by
 rw [Array.getD_eq_getD_getElem?,Array.getD_eq_getD_getElem?,h.get p hp]
theorem Sh.sign (h:Sh s s' k) {p:Nat} {b:UInt8} {q:Nat} (hs:pSign s p=.ok b q):pSign s' (k+p)=.ok b (k+q):=by
 unfold pSign at hs ⊢
 split at hs
 case isFalse=>cases hs
 rename_i h0
 have hp:=begB_lt h0
 rw [h.beg (by omega),if_pos h0,h.getD hp]
 split at hs
 case isFalse hn=>
  rw [if_neg hn]
  cases hs; rfl
 rename_i h92
 rw [if_pos h92]
 split at hs
 case isFalse=>cases hs
 rename_i h1
 have hp1:=isB_lt h1
 split at hs
 case isFalse=>cases hs
 rename_i h2
 have hp2:=isB_lt h2
 rw [show k+p+1=k+(p+1) from by omega,show k+p+2=k+(p+2) from by omega,h.isI hp1,h.isI hp2,if_pos h1,if_pos h2]
 unfold hexAt
 rw [h.getD hp1,h.getD hp2]
 cases hs; rfl
theorem Sh.cls (h:Sh s s' k):∀ (n:Nat) (ws:List Int) (p:Nat) {r:Re} {q:Nat},s.size - p≤n→p≤s.size→clsGo s ws p=.ok r q→clsGo s' ws (k+p)=.ok r (k+q):=by
 intro n
 induction n with
 | zero=>
  intro ws p r q hn hp h'
  have:=clsGo_lt _ _ _ (za _) h'
  omega
 | succ n ih=>
  intro ws p r q hn hp h'
  have hsz:=h.lt
  rw [clsGo] at h' ⊢
  rw [h.isE hp (by decide +kernel)]
  split at h'
  ·rename_i h0
   rw [if_pos h0]; cases h'; rfl
  rename_i h0
  rw [if_neg h0]
  split at h'
  ·cases h'
  rename_i lo q1 hs
  have hq:=pSign_lt hs
  rw [h.sign hs]
  dsimp only
  rw [dif_pos (by omega)]
  rw [dif_pos hq] at h'
  rw [h.isE hq.2 (by decide +kernel)]
  split at h'
  ·rename_i hd
   have hd':=isB_lt hd
   rw [if_pos hd]
   split at h'
   ·cases h'
   rename_i hi q2 hs2
   have hq2:=pSign_lt hs2
   rw [show k+q1+1=k+(q1+1) from by omega,h.sign hs2]
   dsimp only
   split at h'
   ·cases h'
   rename_i hlt
   rw [if_neg hlt,dif_pos (by omega)]
   rw [dif_pos (by omega)] at h'
   exact ih _ _ (by omega) (by omega) h'
  ·rename_i hd
   rw [if_neg hd]
   exact ih _ _ (by omega) (by omega) h'
theorem Sh.star (h:Sh s s' k):∀ (n:Nat) (r:Re) (p:Nat),s.size - p≤n→p≤s.size→starGo s' r (k+p)=((starGo s r p).1,k+(starGo s r p).2):=by
 intro n
 induction n with
 | zero=>
  intro r p hn hp
  have e:=h.isE (l:=cStar) hp (by decide +kernel)
  have e2:isB s p cStar=false:=isB_end (by omega)
  have e1:isB s' (k+p) cStar=false:=by rw [e,e2]
  rw [starGo,dif_neg (by rw [e1]; simp)]
  conv=>rhs; rw [starGo,dif_neg (by rw [e2]; simp)]
 | succ n ih=>
  intro r p hn hp
  have e:=h.isE (l:=cStar) hp (by decide +kernel)
  rw [starGo]
  conv=>rhs; rw [starGo]
  by_cases hb:isB s p cStar=true
  ·have:=isB_lt hb
   rw [dif_pos (by rw [e]; exact hb),dif_pos hb]
   exact ih _ (p+1) (by omega) (by omega)
  ·rw [dif_neg (by rw [e]; exact hb),dif_neg hb]
variable {A A':Nat→PR}
theorem Sh.atom (h:Sh s s' k) (hA:Fwd A s) (hh:∀ {p r q},A p=.ok r q→A' (k+p)=.ok r (k+q)) {p:Nat} {r:Re} {q:Nat} (hp:p≤s.size) (h':pAtom A s p=.ok r q):pAtom A' s' (k+p)=.ok r (k+q):=by
 unfold pAtom at h' ⊢
 rw [h.isE hp (by decide +kernel),h.isE hp (by decide +kernel),h.isE hp (by decide +kernel)]
 split at h'
 ·rename_i h0
  rw [if_pos h0]; cases h'; rfl
 rename_i h0
 rw [if_neg h0]
 split at h'
 ·rename_i h1
  have:=isB_lt h1
  rw [if_pos h1]
  exact h.cls _ _ (p+1) (za _) (by omega) h'
 rename_i h1
 rw [if_neg h1]
 split at h'
 ·rename_i h2
  have hlt:=isB_lt h2
  rw [if_pos h2,show k+p+1=k+(p+1) from by omega]
  split at h'
  ·rename_i h3
   have hlt3:=isB_lt h3
   rw [h.isI hlt3,if_pos h3]
   cases h'; rfl
  rename_i h3
  split at h'
  ·cases h'
  rename_i r1 q1 ha
  have hf:=hA ha
  split at h'
  case isFalse=>cases h'
  rename_i h4
  have hlt4:=isB_lt h4
  rw [h.isI (by omega),if_neg h3,hh ha]
  dsimp only
  rw [h.isI hlt4,if_pos h4]
  cases h'; rfl
 rename_i h2
 rw [if_neg h2]
 split at h'
 ·cases h'
 rename_i b q1 hs
 rw [h.sign hs]
 cases h'; rfl
theorem Sh.part (h:Sh s s' k) (hA:Fwd A s) (hh:∀ {p r q},A p=.ok r q→A' (k+p)=.ok r (k+q)) {p:Nat} {r:Re} {q:Nat} (hp:p≤s.size) (h':pPart A s p=.ok r q):pPart A' s' (k+p)=.ok r (k+q):=by
 unfold pPart at h' ⊢
 split at h'
 ·cases h'
 rename_i r1 q1 h1
 have hlt:=pAtom_lt hA h1
 rw [h.atom hA hh hp h1]
 dsimp only
 rw [h.star _ _ q1 (za _) hlt.2]
 cases h'; rfl
theorem Sh.rowG (h:Sh s s' k) (hA:Fwd A s) (hh:∀ {p r q},A p=.ok r q→A' (k+p)=.ok r (k+q)):∀ (n:Nat) (l:List Re) (p:Nat) {r:Re} {q:Nat},s.size - p≤n→p≤s.size→rowGo A s l p=.ok r q→rowGo A' s' l (k+p)=.ok r (k+q):=by
 intro n
 induction n with
 | zero=>
  intro l p r q hn hp h'
  have e:(isB s p cAtom || begB s p)=false:=by rw [isB_end (by omega),begB_end (by omega)]; rfl
  rw [rowGo] at h' ⊢
  rw [h.isE hp (by decide +kernel),h.beg hp,e]
  rw [e] at h'
  rw [if_neg (by simp)] at h' ⊢
  cases h'; rfl
 | succ n ih=>
  intro l p r q hn hp h'
  have hsz:=h.lt
  rw [rowGo] at h' ⊢
  rw [h.isE hp (by decide +kernel),h.beg hp]
  split at h'
  ·rename_i h0
   rw [if_pos h0]
   split at h'
   ·cases h'
   rename_i r1 q1 h1
   have hlt:=pPart_lt hA h1
   rw [h.part hA hh hp h1]
   dsimp only
   rw [dif_pos (by omega)] at h' ⊢
   exact ih _ _ (by omega) (by omega) h'
  ·rename_i h0
   rw [if_neg h0]
   cases h'; rfl
theorem Sh.row (h:Sh s s' k) (hA:Fwd A s) (hh:∀ {p r q},A p=.ok r q→A' (k+p)=.ok r (k+q)) {p:Nat} {r:Re} {q:Nat} (hp:p≤s.size) (h':pRow A s p=.ok r q):pRow A' s' (k+p)=.ok r (k+q):=by
 unfold pRow at h' ⊢
 split at h'
 ·cases h'
 rename_i r1 q1 h1
 have hlt:=pPart_lt hA h1
 rw [h.part hA hh hp h1]
 exact h.rowG hA hh _ _ q1 (za _) hlt.2 h'
theorem Sh.altG (h:Sh s s' k) (hA:Fwd A s) (hh:∀ {p r q},A p=.ok r q→A' (k+p)=.ok r (k+q)):∀ (n:Nat) (l:List Re) (p:Nat) {r:Re} {q:Nat},s.size - p≤n→p≤s.size→altGo A s l p=.ok r q→altGo A' s' l (k+p)=.ok r (k+q):=by
 intro n
 induction n with
 | zero=>
  intro l p r q hn hp h'
  have e:isB s p cBar=false:=isB_end (by omega)
  rw [altGo] at h' ⊢
  rw [h.isE hp (by decide +kernel),e]
  rw [e] at h'
  rw [if_neg (by simp)] at h' ⊢
  cases h'; rfl
 | succ n ih=>
  intro l p r q hn hp h'
  have hsz:=h.lt
  rw [altGo] at h' ⊢
  rw [h.isE hp (by decide +kernel)]
  split at h'
  ·rename_i h0
   have hb:=isB_lt h0
   rw [if_pos h0]
   split at h'
   ·cases h'
   rename_i r1 q1 h1
   have hlt:=pRow_lt hA h1
   rw [show k+p+1=k+(p+1) from by omega,h.row hA hh (by omega) h1]
   dsimp only
   rw [dif_pos (by omega)] at h' ⊢
   exact ih _ _ (by omega) (by omega) h'
  ·rename_i h0
   rw [if_neg h0]
   cases h'; rfl
theorem Sh.alt (h:Sh s s' k) (hA:Fwd A s) (hh:∀ {p r q},A p=.ok r q→A' (k+p)=.ok r (k+q)) {p:Nat} {r:Re} {q:Nat} (hp:p≤s.size) (h':pAlt A s p=.ok r q):pAlt A' s' (k+p)=.ok r (k+q):=by
 unfold pAlt at h' ⊢
 split at h'
 ·cases h'
 rename_i r1 q1 h1
 have hlt:=pRow_lt hA h1
 rw [h.row hA hh hp h1]
 exact h.altG hA hh _ _ q1 (za _) hlt.2 h'
end
theorem starGo_no {s:ByteArray} {r:Re} {p:Nat} (h:isB s p cStar=false):starGo s r p=(r,p):=by
 rw [starGo,dif_neg (by rw [h]; simp)]
end Go.Proofs.YtbmedfjmccnclaaGreat.AWP
set_option maxRecDepth 100000
namespace Go.Proofs.YtbmedfjmccnclaaGreat.AWP
open Go
inductive StarR (R:Nat→Nat→Prop):Nat→Nat→Prop where
 | refl (i:Nat):StarR R i i
 | step {i j k:Nat} (h:StarR R i j) (h':R j k):StarR R i k
theorem StarR.one {R:Nat→Nat→Prop} {i j:Nat} (h:R i j):StarR R i j:=.step (.refl i) h
theorem StarR.trans {R:Nat→Nat→Prop} {i j k:Nat} (h:StarR R i j) (h':StarR R j k):StarR R i k:=by
 induction h' with
 | refl=>exact h
 | step _ h2 ih=>exact .step ih h2
theorem StarR.mono {R R':Nat→Nat→Prop} (hr:∀ i j,R i j→R' i j) {i j:Nat} (h:StarR R i j):StarR R' i j:=by
 induction h with
 | refl=>exact .refl _
 | step _ h2 ih=>exact .step ih (hr _ _ h2)
abbrev On (p:List Bool) (i:Nat):Prop:=p[i]? = some true
theorem On.lt {p:List Bool} {i:Nat} (h:On p i):i<p.length:=(List.getElem?_eq_some_iff.1 h).1
open Classical in
theorem StarR.shift {R R':Nat→Nat→Prop} {k:Nat} (h:∀ i j,R' i j↔R (k+i) (k+j)) (hR:∀ i j,R i j→i≤j) {i j:Nat}:StarR R' i j↔StarR R (k+i) (k+j):=by
  constructor
  · intro hs
    induction hs with
    | refl=>exact .refl _
    | step _ h2 ih=>exact .step ih ((h _ _).1 h2)
  · intro hs
    generalize ha:k+i=a at hs
    generalize hb:k+j=b at hs
    induction hs generalizing j with
    | refl => have:i=j:=by omega
              rw [this]; exact .refl _
    | step hs1 h2 ih=>
      rename_i m b'
      have hle:a≤m:=by
        clear ih h2
        induction hs1 with
        | refl=>exact Nat.le_refl _
        | step _ h2 ih2=>exact Nat.le_trans (ih2) (hR _ _ h2)
      obtain ⟨m',hm'⟩:∃ m',m=k+m':=⟨m - k,by omega⟩
      subst hm'
      subst hb
      exact .step (ih rfl) ((h _ _).2 h2)
end Go.Proofs.YtbmedfjmccnclaaGreat.AWP
set_option maxRecDepth 100000
namespace Go.Proofs.YtbmedfjmccnclaaGreat.AWP
open Go
end Go.Proofs.YtbmedfjmccnclaaGreat.AWP
set_option maxRecDepth 100000
namespace Go.Proofs.YtbmedfjmccnclaaGreat.AWP
open Go
def hasL (ws:List Int) (n:Nat):List Nat:=(List.range n).filter fun b=>hasB ws b
def runLen:Nat→List Nat→Nat
 | _,[]=>0
 | b,c :: l=>if c=b+1 then runLen c l+1 else 0
def ub (n:Nat):UInt8:=UInt8.ofNat n
def rng (b n:Nat):List UInt8:=signB (ub b)++((if 1<n then [45] else [])++(if 0<n then signB (ub (b+n)) else []))
def runsL:List Nat→List UInt8
 | []=>[]
 | b :: l=>rng b (runLen b l)++runsL (l.drop (runLen b l))
termination_by l=>l.length
decreasing_by simp; omega
def setT (ws:List Int):List UInt8:=
 if (hasL ws 256).length=256 then [46] else
 match hasL ws 256 with
 | [b]=>signB (ub b)
 | l=>91 :: (runsL l++[93])
def At (s:ByteArray):Nat→List UInt8→Prop
 | _,[]=>True
 | p,c :: l=>s.data[p]? = some c∧At s (p+1) l
theorem At_app {s:ByteArray}:∀ (l m:List UInt8) (p:Nat),At s p (l++m)↔At s p l∧At s (p+l.length) m
 | [],m,p=>by simp [At]
 | c :: l,m,p=>by
  rw [List.cons_append,At,At,At_app l m (p+1),List.length_cons,show p+1+l.length=p+(l.length+1) from by omega,and_assoc]
theorem At_le {s:ByteArray}:∀ (l:List UInt8) (p:Nat),At s p l→l≠[]→p+l.length≤s.size
 | [],p,_,h=>absurd rfl h
 | [c],p,h,_=>by
  have:=(Array.getElem?_eq_some_iff.1 h.1).1
  have h2:s.data.size=s.size:=rfl
  simp; omega
 | c :: d :: l,p,h,_=>by
  have:=At_le (d :: l) (p+1) h.2 (by simp)
  simp at this ⊢; omega
theorem isB_of {s l:ByteArray} {p:Nat} {b:UInt8} (hb:s.data[p]? = some b) {v:Bool} (h:decide (0≤firstIdx l b)=v):isB s p l=v:=by rw [isB_at hb,h]
def begC (c:UInt8):Bool:=plain c || c == 92
theorem signB_cons (b:UInt8):∃ c l,signB b=c :: l∧begC c=true:=by
 unfold signB
 split
 ·rename_i h; exact ⟨b,[],rfl,by simp [begC,h]⟩
 ·exact ⟨92,hexB b,rfl,by decide⟩
end Go.Proofs.YtbmedfjmccnclaaGreat.AWP
set_option maxRecDepth 100000
namespace Go.Proofs.YtbmedfjmccnclaaGreat.AWP
open Go
def brk (b:Bool) (l:List UInt8):List UInt8:=if b then 40 :: (l++[41]) else l
def Re.is5 (x:Re):Bool:=decide (x.kd=5)
def Re.is45 (x:Re):Bool:=decide (x.kd=4) || decide (x.kd=5)
def Re.txt:Re→List UInt8
 | .mk k _ _ _ _ [x,y]=>if k=4 then brk x.is45 x.txt++brk y.is5 y.txt else brk x.is5 x.txt++124 :: y.txt
 | .mk _ _ _ _ _ [x]=>brk x.is45 x.txt++[42]
 | .mk k a b c d _=>if k=1 then [91,93] else if k=2 then [40,41] else setT [a,b,c,d]
theorem txt_1:(Re.mk 1 0 0 0 0 []).txt=[91,93]:=by simp [Re.txt]
theorem txt_2:(Re.mk 2 0 0 0 0 []).txt=[40,41]:=by simp [Re.txt]
theorem txt_3 {a b c d:Int}:(Re.mk 3 a b c d []).txt=setT [a,b,c,d]:=by simp [Re.txt]
theorem txt_4 {x y:Re}:(Re.mk 4 0 0 0 0 [x,y]).txt=brk x.is45 x.txt++brk y.is5 y.txt:=by simp [Re.txt]
theorem txt_5 {x y:Re}:(Re.mk 5 0 0 0 0 [x,y]).txt=brk x.is5 x.txt++124 :: y.txt:=by simp [Re.txt]
theorem txt_6 {x:Re}:(Re.mk 6 0 0 0 0 [x]).txt=brk x.is45 x.txt++[42]:=by simp [Re.txt]
def begE (c:UInt8):Bool:=begC c || decide (0≤firstIdx cAtom c)
theorem begE_not (c:UInt8) (h:begE c=true):decide (0≤firstIdx cRp c)=false∧decide (0≤firstIdx cStar c)=false∧decide (0≤firstIdx cBar c)=false:=by
 revert h
 exact all_ofNat (p:=fun c=>begE c=true→decide (0≤firstIdx cRp c)=false∧decide (0≤firstIdx cStar c)=false∧decide (0≤firstIdx cBar c)=false) (by decide +kernel) c
theorem setT_cons (ws:List Int):∃ c l,setT ws=c :: l∧begE c=true:=by
 unfold setT
 split
 ·exact ⟨46,[],rfl,by decide +kernel⟩
 split
 ·rename_i b _
  obtain ⟨c,l,h1,h2⟩:=signB_cons (ub b)
  exact ⟨c,l,h1,by simp [begE,h2]⟩
 ·exact ⟨91,_,rfl,by decide +kernel⟩
theorem brk_cons {b:Bool} {l:List UInt8} (h:∃ c m,l=c :: m∧begE c=true):∃ c m,brk b l=c :: m∧begE c=true:=by
 unfold brk
 split
 ·exact ⟨40,_,rfl,by decide +kernel⟩
 ·exact h
theorem app_cons {l n:List UInt8} (h:∃ c m,l=c :: m∧begE c=true):∃ c m,l++n=c :: m∧begE c=true:=by
 obtain ⟨c,m,rfl,h⟩:=h
 exact ⟨c,m++n,rfl,h⟩
theorem txt_cons (r:Re):r.nodesOk=true→∃ c l,r.txt=c :: l∧begE c=true:=by
 refine Re.indOk (p:=fun r=>∃ c l,r.txt=c :: l∧begE c=true) ?_ ?_ ?_ ?_ r
 ·intro k hk
  rcases hk with rfl | rfl
  ·rw [txt_1]; exact ⟨91,_,rfl,by decide +kernel⟩
  ·rw [txt_2]; exact ⟨40,_,rfl,by decide +kernel⟩
 ·intro a b c d _
  rw [txt_3]; exact setT_cons _
 ·intro k x y hk _ _ hx hy
  rcases hk with rfl | rfl
  ·rw [txt_4]; exact app_cons (brk_cons hx)
  ·rw [txt_5]; exact app_cons (brk_cons hx)
 ·intro x _ hx
  rw [txt_6]; exact app_cons (brk_cons hx)
theorem at_beg {s:ByteArray} {p:Nat} {l m:List UInt8} (hl:∃ c m,l=c :: m∧begE c=true) (h:At s p (l++m)):∃ c,s.data[p]? = some c∧begE c=true:=by
 obtain ⟨c,n,rfl,hc⟩:=hl
 exact ⟨c,h.1,hc⟩
structure StopR (s:ByteArray) (q:Nat):Prop where
 star:isB s q cStar=false
 beg:(isB s q cAtom || begB s q)=false
def rowSt (A:Nat→PR) (s:ByteArray) (l:List Re) (p:Nat):PR:=
 match pPart A s p with
 | .bad e=>.bad e
 | .ok x q=>rowGo A s (l++[x]) q
def altSt (A:Nat→PR) (s:ByteArray) (l:List Re) (p:Nat):PR:=
 match pRow A s p with
 | .bad e=>.bad e
 | .ok x q=>altGo A s (l++[x]) q
theorem pAlt_st (A:Nat→PR) (s:ByteArray) (p:Nat):pAlt A s p=altSt A s [] p:=rfl
theorem foldL_add (k n:Int) (l:List Re) (x:Re):foldL k n (l++[x])=foldR k l x:=by simp [foldL]
theorem rowGo_stop {A:Nat→PR} {s:ByteArray} {l:List Re} {x:Re} {q:Nat} (h:(isB s q cAtom || begB s q)=false):rowGo A s (l++[x]) q=.ok (foldR 4 l x) q:=by
 rw [rowGo,if_neg (by rw [h]; simp),foldL_add]
structure StopA (s:ByteArray) (q:Nat):Prop extends StopR s q where
 bar:isB s q cBar=false
theorem stop_rp {s:ByteArray} {q:Nat} (h:s.data[q]? = some 41):StopA s q:=
 ⟨⟨isB_of h (by decide +kernel),by unfold begB; rw [isB_of h (v:=false) (by decide +kernel),isB_of h (v:=false) (by decide +kernel),h]; decide +kernel⟩,isB_of h (by decide +kernel)⟩
structure Rdb (r:Re):Prop where
 part:r.is45=false→∀ s p0 p,p0≤p→At s p r.txt→∃ core q,pAtom (altA s p0) s p=.ok core q∧starGo s core q=starGo s r (p+r.txt.length)
 row:r.is5=false→∀ s p0 p l,p0≤p→At s p r.txt→StopR s (p+r.txt.length)→rowSt (altA s p0) s l p=.ok (foldR 4 l r) (p+r.txt.length)
 alt:∀ s p0 p l,p0≤p→At s p r.txt→StopA s (p+r.txt.length)→altSt (altA s p0) s l p=.ok (foldR 5 l r) (p+r.txt.length)
theorem Rdb.whole {r:Re} (h:Rdb r) {s:ByteArray} {p:Nat} (ha:At s p r.txt) (hs:StopA s (p+r.txt.length)):altF s p=.ok r (p+r.txt.length):=by
 rw [altF_eq,pAlt_st]
 exact h.alt s p p [] (Nat.le_refl _) ha hs
theorem Rdb.atom {r:Re} (h:Rdb r) (hok:r.nodesOk=true) {b:Bool} (hb:b=true∨r.is45=false) {s:ByteArray} {p0 p:Nat} (hp:p0≤p) (ha:At s p (brk b r.txt)) :
  ∃ core q,pAtom (altA s p0) s p=.ok core q∧starGo s core q=starGo s r (p+(brk b r.txt).length):=by
 unfold brk at ha ⊢
 split at ha
 case isFalse hf=>
  rw [if_neg hf]
  exact h.part (hb.resolve_left hf) s p0 p hp ha
 rename_i ht
 rw [if_pos ht]
 have hle:=At_le _ _ ha (by simp)
 have ha0:=ha
 obtain ⟨h1,h2⟩:=ha
 have h3:=(At_app _ _ _).1 h2
 obtain ⟨c,hc,hcb⟩:=at_beg (txt_cons r hok) h2
 have h4:=h3.2.1
 simp only [List.length_cons,List.length_append,List.length_nil] at hle
 refine ⟨r,p+r.txt.length+2,?_,?_⟩
 ·unfold pAtom
  rw [isB_of h1 (v:=false) (by decide +kernel),isB_of h1 (v:=false) (by decide +kernel),isB_of h1 (v:=true) (by decide +kernel),if_neg (by simp),if_neg (by simp),if_pos rfl,isB_of hc (begE_not c hcb).1,if_neg (by simp)]
  have e:altA s p0 (p+1)=.ok r (p+1+r.txt.length):=by
   unfold altA
   rw [if_pos (by omega)]
   exact h.whole h3.1 (stop_rp h4)
  rw [e]
  dsimp only
  rw [isB_of h4 (v:=true) (by decide +kernel),if_pos rfl]
  congr 1; omega
 ·congr 1
  simp; omega
theorem Rdb.pt {r:Re} (h:Rdb r) (hok:r.nodesOk=true) {b:Bool} (hb:b=true∨r.is45=false) {s:ByteArray} {p0 p:Nat} (hp:p0≤p) (ha:At s p (brk b r.txt)) (hs:isB s (p+(brk b r.txt).length) cStar=false) :
  pPart (altA s p0) s p=.ok r (p+(brk b r.txt).length):=by
 obtain ⟨core,q,h1,h2⟩:=h.atom hok hb hp ha
 unfold pPart
 rw [h1]
 dsimp only
 rw [h2,starGo_no hs]
theorem row_of_part {r:Re} {s:ByteArray} {p0 p:Nat} {l:List Re} {q:Nat} (h:pPart (altA s p0) s p=.ok r q) (hs:StopR s q):rowSt (altA s p0) s l p=.ok (foldR 4 l r) q:=by
 unfold rowSt
 rw [h]
 exact rowGo_stop hs.beg
theorem Rdb.rest {y:Re} (h:Rdb y) (hok:y.nodesOk=true) {s:ByteArray} {p0 p:Nat} {l:List Re} (hp:p0≤p) (ha:At s p (brk y.is5 y.txt)) (hs:StopR s (p+(brk y.is5 y.txt).length)) :
  rowSt (altA s p0) s l p=.ok (foldR 4 l y) (p+(brk y.is5 y.txt).length):=by
 by_cases h5:y.is5=true
 ·exact row_of_part (h.pt hok (.inl h5) hp ha hs.star) hs
 ·have h5':y.is5=false:=by simpa using h5
  rw [h5'] at ha hs ⊢
  exact h.row h5' s p0 p l hp ha hs
abbrev Re.text (r:Re):ByteArray:=⟨r.txt.toArray⟩
end Go.Proofs.YtbmedfjmccnclaaGreat.AWP
set_option maxRecDepth 100000
namespace Go.Proofs.YtbmedfjmccnclaaGreat.AWP
open Go
def Short (r:Re) (n:Nat):Prop:=r.txt.length+4≤20 * n∧r.wd
def tls:List Re→Nat
 | []=>0
 | r :: l=>r.txt.length+4+tls l
theorem tls_app:∀ (l m:List Re),tls (l++m)=tls l+tls m
 | [],m=>by simp [tls]
 | r :: l,m=>by rw [List.cons_append,tls,tls,tls_app l m]; omega
def ShortL (l:List Re) (n:Nat):Prop:=tls l≤20 * n∧∀ x∈l,x.wd
theorem Short.mono {r:Re} {n m:Nat} (h:Short r n) (hnm:n≤m):Short r m:=⟨by have:=h.1; omega,h.2⟩
theorem ShortL.add {l:List Re} {x:Re} {n m k:Nat} (h:ShortL l n) (hx:Short x m) (hk:n+m≤k):ShortL (l++[x]) k:=by
 have h1:=h.1
 have h2:=hx.1
 refine ⟨by rw [tls_app,tls,tls]; omega,fun y hy=>?_⟩
 rcases List.mem_append.1 hy with hy | hy
 ·exact h.2 y hy
 ·rw [List.mem_singleton.1 hy]; exact hx.2
theorem ShortL.one {x:Re} {n:Nat} (hx:Short x n):ShortL [x] n:=by
 have h2:=hx.1
 exact ⟨by rw [tls,tls]; omega,fun y hy=>by rw [List.mem_singleton.1 hy]; exact hx.2⟩
section
variable {A:Nat→PR} {s:ByteArray}
end
end Go.Proofs.YtbmedfjmccnclaaGreat.AWP
set_option maxRecDepth 100000
namespace Go.Proofs.YtbmedfjmccnclaaGreat.AWP
open Go
def ixN (c:UInt8):List UInt8→Nat
 | []=>0
 | b :: l=>if b=c then 0 else ixN c l+1
theorem ixN_le (c:UInt8):∀ l:List UInt8,ixN c l≤l.length
 | []=>Nat.le_refl _
 | b :: l=>by
  rw [ixN]; split
  ·exact Nat.zero_le _
  ·have:=ixN_le c l; simp only [List.length_cons]; omega
theorem get!_of {s:ByteArray} {i:Nat} (h:i<s.size) {b:UInt8} (hb:s.data.toList[i]? = some b):s.get! i=b:=by
 cases s with | mk d=>
 show d[i]! = b
 have hi:i<d.size:=h
 rw [getElem!_pos d i hi]
 have:d.toList[i]? = some d[i]:=by simp [hi]
 simp only at hb
 rw [this] at hb
 exact Option.some.inj hb
theorem dec_lt {s:ByteArray} {i:Nat} (h:i<s.size) {b:UInt8} (hb:s.data.toList[i]? = some b) (hl:b.toNat<128):Utf8.decode s i=(b.toNat,1):=by
 have:=get!_of h hb
 unfold Utf8.decode
 simp only [Nat.add_zero,this]
 rw [if_pos hl]
theorem dec_ge {s:ByteArray} {i:Nat} (h:i<s.size) {b:UInt8} (hb:s.data.toList[i]? = some b) (hl:¬ b.toNat<128):128≤(Utf8.decode s i).1:=by
 have:=get!_of h hb
 unfold Utf8.decode
 simp only [Nat.add_zero,this]
 rw [if_neg hl]
 split
 ·split
  ·assumption
  ·simp [Utf8.runeError]
 ·split
  ·split
   ·rename_i h2
    simp only [Bool.and_eq_true,decide_eq_true_eq] at h2
    have:=h2.1
    simp only
    omega
   ·simp [Utf8.runeError]
  ·split
   ·split
    ·rename_i h2
     simp only [Bool.and_eq_true,decide_eq_true_eq] at h2
     have:=h2.1
     simp only
     omega
    ·simp [Utf8.runeError]
   ·simp [Utf8.runeError]
def okB (i:Nat) (n:Nat):Bool:=(decide (97≤n) && decide (n≤122)) || (decide (i≠0) && (decide (n=95) || (decide (48≤n) && decide (n≤57))))
def nameL:Nat→List UInt8→Bool
 | _,[]=>true
 | i,b :: l=>okB i b.toNat && nameL (i+1) l
def nameB (s:ByteArray):Bool:=nameL 0 s.data.toList && (decide (1≤s.size) && decide (s.size≤30))
end Go.Proofs.YtbmedfjmccnclaaGreat.AWP
namespace Go.Proofs.YtbmedfjmccnclaaGreat.AWP
open Go
theorem indexByte_ixN (c:UInt8):∀ l:List UInt8,Lib.indexByte l c=if ixN c l<l.length then (ixN c l:Int) else -1
 | []=>by simp [Lib.indexByte,ixN]
 | b :: l=>by
  have hle:=ixN_le c l
  have ih:=indexByte_ixN c l
  rw [Lib.indexByte,ixN]
  by_cases hb:b=c
  ·rw [if_pos hb]; simp [hb]
  ·have hb':(b == c)=false:=by simpa using hb
   rw [if_neg hb,hb']
   simp only [Bool.false_eq_true,if_false,List.length_cons]
   by_cases h:ixN c l<l.length
   ·rw [if_pos h] at ih
    rw [ih,if_pos (show ixN c l+1<l.length+1 by omega)]
    have:(((ixN c l:Nat):Int) == -1)=false:=by rw [beq_eq_false_iff_ne]; omega
    rw [this]
    simp
   ·rw [if_neg h] at ih
    rw [ih,if_neg (show ¬ ixN c l+1<l.length+1 by omega)]
    simp
def ixS (c:UInt8) (s:ByteArray):Int:=if ixN c s.data.toList<s.size then (ixN c s.data.toList:Int) else -1
theorem ixS_lib (c:UInt8) (s:ByteArray):Lib.indexByte s.data.toList c=ixS c s:=by
 rw [indexByte_ixN]
 unfold ixS
 rw [show s.data.toList.length=s.size from Array.length_toList]
theorem nameL_drop:∀ (l:List UInt8) (i:Nat) (b:UInt8),l[i]? = some b→nameL i (l.drop i)=(okB i b.toNat && nameL (i+1) (l.drop (i+1)))
 | l,i,b,h=>by
  have:l.drop i=b :: l.drop (i+1):=by
   obtain ⟨h1,h2⟩:=List.getElem?_eq_some_iff.1 h
   rw [← h2]
   exact List.drop_eq_getElem_cons h1
  rw [this,nameL]
end Go.Proofs.YtbmedfjmccnclaaGreat.AWP
namespace Go.Proofs.YtbmedfjmccnclaaGreat.AWP
open Go
inductive Cf where
 | mk (k n:Int) (ks:List Cf)
instance:Inhabited Cf:=⟨.mk 0 0 []⟩
def Cf.kind:Cf→Int | .mk k _ _=>k
def Cf.num:Cf→Int | .mk _ n _=>n
def Cf.kids:Cf→List Cf | .mk _ _ ks=>ks
@[simp] theorem Cf.kind_mk {k n:Int} {ks:List Cf}:(Cf.mk k n ks).kind=k:=rfl
@[simp] theorem Cf.num_mk {k n:Int} {ks:List Cf}:(Cf.mk k n ks).num=n:=rfl
@[simp] theorem Cf.kids_mk {k n:Int} {ks:List Cf}:(Cf.mk k n ks).kids=ks:=rfl
mutual
def Cf.c:Cf→List D
 | .mk k n ks=>[.v (.int .u8 k),.v (.int .i64 n),.sl 3 (Cf.cs ks)]
def Cf.cs:List Cf→List (List D)
 | []=>[]
 | r :: l=>r.c :: Cf.cs l
end
abbrev Cf.d (r:Cf):D:=.agg r.c
abbrev Cfs (l:List Cf):D:=.sl 3 (Cf.cs l)
@[go_sem] theorem Cf.c_mk (k n:Int) (ks:List Cf):(Cf.mk k n ks).c=[.v (.int .u8 k),.v (.int .i64 n),.sl 3 (Cf.cs ks)]:=by rw [Cf.c]
@[go_sem] theorem Cf.cs_eq:∀ (l:List Cf),Cf.cs l=l.map Cf.c
 | []=>by rw [Cf.cs]; rfl
 | r :: l=>by rw [Cf.cs,Cf.cs_eq l]; rfl
@[go_sem,simp] theorem Cf.c_len (r:Cf):r.c.length=3:=by cases r; rw [Cf.c_mk]; rfl
@[go_sem,simp] theorem Cf.c_take (r:Cf):r.c.take 3=r.c:=List.take_of_length_le (by simp)
mutual
theorem Cf.c_bl:∀ (r:Cf),∀ d∈r.c,Bl 0 d
 | .mk k n ks=>by
  have h:=Cf.cs_bl ks
  rw [Cf.c_mk]
  intro x hx
  simp only [List.mem_cons,List.not_mem_nil,or_false] at hx
  rcases hx with rfl | rfl | rfl
  ·simp
  ·simp
  ·exact .sl h
theorem Cf.cs_bl:∀ (l:List Cf),∀ r∈Cf.cs l,∀ d∈r,Bl 0 d
 | []=>by rw [Cf.cs]; simp
 | r :: l=>by
  have h1:=Cf.c_bl r
  have h2:=Cf.cs_bl l
  rw [Cf.cs]
  intro x hx
  rcases List.mem_cons.1 hx with rfl | hx
  ·exact h1
  ·exact h2 x hx
end
@[simp] theorem Cf.c_blT (r:Cf):(∀ d∈r.c,Bl 0 d)=True:=eq_true r.c_bl
@[simp] theorem Cf.cs_blT (l:List Cf):(∀ r∈Cf.cs l,∀ d∈r,Bl 0 d)=True:=eq_true (Cf.cs_bl l)
theorem Cf.map_bl (l:List Cf):∀ r∈l.map Cf.c,∀ d∈r,Bl 0 d:=by rw [← Cf.cs_eq]; exact Cf.cs_bl l
@[simp] theorem Cf.d_bl (r:Cf):Bl 0 (.agg r.c):=.agg r.c_bl
@[simp] theorem Cf.pel_bl (r:Cf):Bl 0 (.pel r.c):=.pel r.c_bl
@[simp] theorem Cfs_bl (l:List Cf):Bl 0 (.sl 3 (l.map Cf.c)):=by rw [← Cf.cs_eq]; exact .sl (Cf.cs_bl l)
@[simp] theorem Cfs_bl' (l:List Cf):Bl 0 (.sl 3 (Cf.cs l)):=.sl (Cf.cs_bl l)
mutual
def Cf.Ok:Cf→Prop
 | .mk _ _ ks=>Cf.Oks ks∧ks.length≤9223372036854775807
def Cf.Oks:List Cf→Prop
 | []=>True
 | r :: l=>r.Ok∧Cf.Oks l
end
mutual
theorem Cf.ok_of:∀ (r:Cf),(∀ d∈r.c,Wf d)→r.Ok
 | .mk k n ks,h=>by
  rw [Cf.c_mk] at h
  have h':=h (.sl 3 (Cf.cs ks)) (by simp)
  rw [Cf.Ok]
  exact ⟨Cf.oks_of ks h'.sl_mem,by have:=h'.sl_len; rw [Cf.cs_eq,List.length_map] at this; exact this⟩
theorem Cf.oks_of:∀ (l:List Cf),(∀ r∈Cf.cs l,∀ d∈r,Wf d)→Cf.Oks l
 | [],h=>by rw [Cf.Oks]; trivial
 | r :: l,h=>by
  rw [Cf.cs] at h
  rw [Cf.Oks]
  exact ⟨Cf.ok_of r (h r.c (by simp)),Cf.oks_of l fun x hx=>h x (by simp [hx])⟩
end
theorem Cf.ok_agg {r:Cf} (h:Wf (.agg r.c)):r.Ok:=Cf.ok_of r h.agg_mem
section
variable {p:Cf→Prop} (h:∀ (k n:Int) (ks:List Cf),(∀ x∈ks,p x)→p (.mk k n ks))
include h
mutual
theorem Cf.ind:∀ r:Cf,p r
 | .mk k n ks=>h k n ks (Cf.inds ks)
theorem Cf.inds:∀ (l:List Cf),∀ x∈l,p x
 | [],_,hx=>absurd hx (by simp)
 | r :: l,x,hx=>(List.mem_cons.1 hx).elim (fun e=>e ▸ Cf.ind r) (Cf.inds l x)
end
end
abbrev strR (l:List ByteArray):List (List D):=l.map fun s=>[.s s]
abbrev Strs (l:List ByteArray):D:=.sl 1 (strR l)
@[simp] theorem strR_bl (l:List ByteArray):∀ r∈strR l,∀ d∈r,Bl 0 d:=by
 intro r hr d hd
 obtain ⟨s,_,rfl⟩:=List.mem_map.1 hr
 simp only [List.mem_singleton] at hd
 subst hd
 exact .v _
@[simp] theorem Strs_bl (l:List ByteArray):Bl 0 (Strs l):=.sl (strR_bl l)
abbrev Df:Type:=ByteArray × Cf
abbrev dfC (d:Df):List D:=.s d.1 :: d.2.c
abbrev dfR (l:List Df):List (List D):=l.map dfC
abbrev Defs (l:List Df):D:=.sl 4 (dfR l)
@[simp] theorem dfC_bl (d:Df):∀ x∈dfC d,Bl 0 x:=by
 intro x hx
 rcases List.mem_cons.1 hx with rfl | hx
 ·exact .v _
 ·exact d.2.c_bl x hx
@[simp] theorem dfR_bl (l:List Df):∀ r∈dfR l,∀ d∈r,Bl 0 d:=by
 intro r hr
 obtain ⟨x,_,rfl⟩:=List.mem_map.1 hr
 exact dfC_bl x
@[simp] theorem Defs_bl (l:List Df):Bl 0 (Defs l):=.sl (dfR_bl l)
structure Gr where
 kinds:List ByteArray
 defs:List Df
instance:Inhabited Gr:=⟨⟨[],[]⟩⟩
abbrev Gr.c (g:Gr):List D:=[Strs g.kinds,Defs g.defs]
@[simp] theorem Gr.c_bl (g:Gr):∀ d∈g.c,Bl 0 d:=by
 intro d hd
 simp only [Gr.c,List.mem_cons,List.not_mem_nil,or_false] at hd
 rcases hd with rfl | rfl
 ·exact Strs_bl _
 ·exact Defs_bl _
@[simp] theorem Gr.d_bl (g:Gr):Bl 0 (.agg g.c):=.agg g.c_bl
@[simp] theorem Gr.pel_bl (g:Gr):Bl 0 (.pel g.c):=.pel g.c_bl
mutual
def Cf.sz:Cf→Nat
 | .mk _ _ ks=>1+Cf.szs ks
def Cf.szs:List Cf→Nat
 | []=>0
 | r :: l=>r.sz+Cf.szs l
end
theorem Cf.sz_mk (k n:Int) (ks:List Cf):(Cf.mk k n ks).sz=1+Cf.szs ks:=by rw [Cf.sz]
theorem Cf.szs_nil:Cf.szs []=0:=by rw [Cf.szs]
theorem Cf.szs_cons (r:Cf) (l:List Cf):Cf.szs (r :: l)=r.sz+Cf.szs l:=by rw [Cf.szs]
theorem Cf.szs_append:∀ (l m:List Cf),Cf.szs (l++m)=Cf.szs l+Cf.szs m
 | [],m=>by simp [Cf.szs_nil]
 | r :: l,m=>by rw [List.cons_append,Cf.szs_cons,Cf.szs_cons,Cf.szs_append l m]; omega
theorem Cf.sz_pos (r:Cf):1≤r.sz:=by cases r; rw [Cf.sz_mk]; omega
theorem Cf.szs_len:∀ l:List Cf,l.length≤Cf.szs l
 | []=>Nat.zero_le _
 | r :: l=>by have:=Cf.sz_pos r; have:=Cf.szs_len l; rw [Cf.szs_cons,List.length_cons]; omega
theorem Cf.szs_mem:∀ {l:List Cf} {r:Cf},r∈l→r.sz≤Cf.szs l
 | x :: l,r,h=>by
  rw [Cf.szs_cons]
  rcases List.mem_cons.1 h with rfl | h
  ·omega
  ·have:=Cf.szs_mem h; omega
mutual
def Cf.same:Cf→Cf→Bool
 | .mk k n ks,.mk k' n' ks'=>decide (k=k'∧n=n') && Cf.sames ks ks'
def Cf.sames:List Cf→List Cf→Bool
 | [],[]=>true
 | x :: l,y :: m=>x.same y && Cf.sames l m
 | _,_=>false
end
mutual
theorem Cf.same_eq:∀ (x y:Cf),x.same y=true↔x=y
 | .mk k n ks,.mk k' n' ks'=>by
  rw [Cf.same,Bool.and_eq_true,decide_eq_true_eq,Cf.sames_eq ks ks']
  constructor
  ·rintro ⟨⟨rfl,rfl⟩,rfl⟩; rfl
  ·intro h; cases h; exact ⟨⟨rfl,rfl⟩,rfl⟩
theorem Cf.sames_eq:∀ (x y:List Cf),Cf.sames x y=true↔x=y
 | [],[]=>by simp [Cf.sames]
 | [],_ :: _=>by simp [Cf.sames]
 | _ :: _,[]=>by simp [Cf.sames]
 | x :: l,y :: m=>by
  rw [Cf.sames,Bool.and_eq_true,Cf.same_eq x y,Cf.sames_eq l m,List.cons.injEq]
end
mutual
def Cf.all:Cf→List Cf
 | .mk k n ks=>.mk k n ks :: Cf.alls ks
def Cf.alls:List Cf→List Cf
 | []=>[]
 | r :: l=>r.all++Cf.alls l
end
theorem Cf.all_mk (k n:Int) (ks:List Cf):(Cf.mk k n ks).all=.mk k n ks :: Cf.alls ks:=by rw [Cf.all]
theorem Cf.alls_nil:Cf.alls []=[]:=by rw [Cf.alls]
theorem Cf.alls_cons (r:Cf) (l:List Cf):Cf.alls (r :: l)=r.all++Cf.alls l:=by rw [Cf.alls]
theorem Cf.alls_append:∀ (l m:List Cf),Cf.alls (l++m)=Cf.alls l++Cf.alls m
 | [],m=>by simp [Cf.alls_nil]
 | r :: l,m=>by rw [List.cons_append,Cf.alls_cons,Cf.alls_cons,Cf.alls_append l m,List.append_assoc]
mutual
theorem Cf.all_len:∀ r:Cf,r.all.length=r.sz
 | .mk k n ks=>by rw [Cf.all,Cf.sz,List.length_cons,Cf.alls_len ks]; omega
theorem Cf.alls_len:∀ l:List Cf,(Cf.alls l).length=Cf.szs l
 | []=>by rw [Cf.alls,Cf.szs]; rfl
 | r :: l=>by rw [Cf.alls,Cf.szs,List.length_append,Cf.all_len r,Cf.alls_len l]
end
def nodeOk (kinds defs:Nat):Cf→Bool
 | .mk k n ks=>
  if k=1∨k=2 then decide (n=0) && decide (ks.length=0)
  else if k=3 then decide (0≤n∧n<kinds) && decide (ks.length=0)
  else if k=6 then decide (0≤n∧n<defs) && decide (ks.length=0)
  else if k=4∨k=5 then decide (n=0) && decide (ks.length=2)
  else false
mutual
def Cf.may (kinds defs:Nat):Cf→Bool
 | .mk k n ks=>nodeOk kinds defs (.mk k n ks) && Cf.mays kinds defs ks
def Cf.mays (kinds defs:Nat):List Cf→Bool
 | []=>true
 | r :: l=>r.may kinds defs && Cf.mays kinds defs l
end
theorem Cf.may_mk (a b:Nat) (k n:Int) (ks:List Cf):(Cf.mk k n ks).may a b=(nodeOk a b (.mk k n ks) && Cf.mays a b ks):=by rw [Cf.may]
theorem Cf.mays_all (a b:Nat):∀ l:List Cf,Cf.mays a b l=l.all (fun x=>x.may a b)
 | []=>by rw [Cf.mays]; rfl
 | r :: l=>by rw [Cf.mays,Cf.mays_all a b l]; rfl
mutual
theorem Cf.may_all (a b:Nat):∀ r:Cf,r.may a b=r.all.all (nodeOk a b)
 | .mk k n ks=>by rw [Cf.may,Cf.all,List.all_cons,Cf.mays_alls a b ks]
theorem Cf.mays_alls (a b:Nat):∀ l:List Cf,Cf.mays a b l=(Cf.alls l).all (nodeOk a b)
 | []=>by rw [Cf.mays,Cf.alls]; rfl
 | r :: l=>by rw [Cf.mays,Cf.alls,List.all_append,Cf.may_all a b r,Cf.mays_alls a b l]
end
end Go.Proofs.YtbmedfjmccnclaaGreat.AWP
namespace Go.Proofs.YtbmedfjmccnclaaGreat.AWP
open Go
mutual
def Cf.cnt (most:Int):Cf→Int
 | .mk _ _ ks=>Cf.cnts most ks 1
def Cf.cnts (most:Int):List Cf→Int→Int
 | [],t=>t
 | x :: l,t=>if most<t then t else Cf.cnts most l (IntKind.wrap .i64 (t+Cf.cnt most x))
end
theorem Cf.cnt_mk (most:Int) (k n:Int) (ks:List Cf):(Cf.mk k n ks).cnt most=Cf.cnts most ks 1:=by rw [Cf.cnt]
theorem Cf.cnts_nil (most t:Int):Cf.cnts most [] t=t:=by rw [Cf.cnts]
theorem Cf.cnts_cons (most t:Int) (x:Cf) (l:List Cf):Cf.cnts most (x :: l) t=if most<t then t else Cf.cnts most l (IntKind.wrap .i64 (t+Cf.cnt most x)):=by rw [Cf.cnts]
theorem Cf.c_2 (r:Cf):r.c[2]? = some (Cfs r.kids):=by cases r; rw [Cf.c_mk]; rfl
theorem Cf.put0 (ty:Nat) (a:List D) (ha:a.length=3) (b:Cf):obPut (.var ty a) 0 b.c=some (.var ty b.c):=by
 rw [obPut_var (by simp [ha]),splc_all (by simp [ha])]
theorem Cf.szs_take {l:List Cf} {i:Nat} {x:Cf} (h:l[i]? = some x):Cf.szs (l.take (i+1))=Cf.szs (l.take i)+x.sz:=by
 rw [List.take_add_one,h,Cf.szs_append]
 simp [Cf.szs_cons,Cf.szs_nil]
theorem Cf.szs_take_le:∀ (l:List Cf) (i:Nat),Cf.szs (l.take i)≤Cf.szs l
 | [],i=>by simp
 | x :: l,0=>by simp [Cf.szs_nil]
 | x :: l,i+1=>by rw [List.take_succ_cons,Cf.szs_cons,Cf.szs_cons]; have:=Cf.szs_take_le l i; omega
theorem Cf.sz_kids (r:Cf):r.sz=1+Cf.szs r.kids:=by cases r; rw [Cf.sz_mk]; rfl
theorem Cf.alls_take {l:List Cf} {i:Nat} {x:Cf} (h:l[i]? = some x):Cf.alls (l.take (i+1))=Cf.alls (l.take i)++x.all:=by
 rw [List.take_add_one,h,Cf.alls_append]
 simp [Cf.alls_cons,Cf.alls_nil]
end Go.Proofs.YtbmedfjmccnclaaGreat.AWP
namespace Go.Proofs.YtbmedfjmccnclaaGreat.AWP
theorem nodeOk_mk (kinds defs:Nat) (k n:Int) (ks:List Cf):nodeOk kinds defs (.mk k n ks) =
  if k=1∨k=2 then decide (n=0) && decide (ks.length=0)
  else if k=3 then decide (0≤n∧n<kinds) && decide (ks.length=0)
  else if k=6 then decide (0≤n∧n<defs) && decide (ks.length=0)
  else if k=4∨k=5 then decide (n=0) && decide (ks.length=2)
  else false:=rfl
end Go.Proofs.YtbmedfjmccnclaaGreat.AWP
namespace Go.Proofs.YtbmedfjmccnclaaGreat.AWP
open Go
theorem cnts_ok (most:Int) (l:List Cf) (ih:∀ x∈l,x.sz≤1099511627776→(x.cnt most≤most→x.cnt most=x.sz)∧1≤x.cnt most∧x.cnt most≤x.sz) :
  ∀ t:Int,1≤t→t+Cf.szs l≤2199023255552→Cf.szs l≤1099511627776→(Cf.cnts most l t≤most→Cf.cnts most l t=t+Cf.szs l)∧t≤Cf.cnts most l t∧Cf.cnts most l t≤t+Cf.szs l:=by
 induction l with
 | nil=>intro t _ _ _; rw [Cf.cnts_nil,Cf.szs_nil]; exact ⟨fun _=>by omega,by omega,by omega⟩
 | cons x l ihl=>
  intro t ht hs hz
  rw [Cf.szs_cons] at hs hz
  have hx:=ih x (by simp) (by omega)
  rw [Cf.cnts_cons,Cf.szs_cons]
  split
  ·exact ⟨fun h=>by omega,by omega,by omega⟩
  ·have hw:IntKind.wrap .i64 (t+x.cnt most)=t+x.cnt most:=wrap_int _ (by omega) (by omega)
   rw [hw]
   have h2:=ihl (fun y hy=>ih y (by simp [hy])) (t+x.cnt most) (by omega) (by omega) (by omega)
   refine ⟨fun h=>?_,by omega,by omega⟩
   have h3:=h2.1 h
   have h4:=hx.1 (by omega)
   omega
theorem Cf.cnt_ok (most:Int) (r:Cf):r.sz≤1099511627776→(r.cnt most≤most→r.cnt most=r.sz)∧1≤r.cnt most∧r.cnt most≤r.sz:=by
 refine Cf.ind (p:=fun r=>r.sz≤1099511627776→(r.cnt most≤most→r.cnt most=r.sz)∧1≤r.cnt most∧r.cnt most≤r.sz) (fun k n ks ih hz=>?_) r
 rw [Cf.sz_mk] at hz
 have:=cnts_ok most ks ih 1 (by omega) (by omega) (by omega)
 rw [Cf.cnt_mk,Cf.sz_mk]
 refine ⟨fun h=>?_,by omega,by omega⟩
 have:=this.1 h
 omega
end Go.Proofs.YtbmedfjmccnclaaGreat.AWP
