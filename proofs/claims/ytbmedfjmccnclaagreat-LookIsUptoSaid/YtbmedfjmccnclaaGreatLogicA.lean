/- The built-in copy into a row of one's own. -/
import Derived.WalkKit
import Derived.ProofKit
import Derived.OrdersIn
import Derived.RangeFuncRecord
import Derived.RangeFuncSeq
import Derived.Maps.AppendAt
import Derived.Lib.AppendStr
import Derived.Laws.CopyRow
import Derived.Laws.IdiomCopy
import Derived.Laws.IdiomStrings
set_option linter.unusedVariables false
set_option linter.unusedSimpArgs false
set_option linter.unusedSectionVars false
namespace Go.Proofs.YtbmedfjmccnclaaGreat.AWP
open Go
open _root_.Nat renaming lt_of_lt_of_le → za, le_trans → zc
open _root_.List renaming mem_of_getElem? → zb
inductive D where
 | v (x:Value)
 | sl (sz:Nat) (rows:List (List D))
 | pel (row:List D)
 | agg (c:List D)
 | tup (c:List D)
 | ref (k off:Nat)
 | rel (k sz i j:Nat)
 | own (k:Nat)
 | fn (f:FuncId) (cap:List D)
 | ifc (t:TypeId) (d:D)
 | yld (k:Nat)
 | bm (f:FuncId) (d:D)
 | any
 | nt
instance:Inhabited D:=⟨.any⟩
abbrev D.i (n:Int):D:=.v (.int .i64 n)
abbrev D.b (b:Bool):D:=.v (.bool b)
abbrev D.s (s:ByteArray):D:=.v (.string s)
def gnum:Nat:=0
def gbytes:List Int:=[]
def gtbl:List D:=gbytes.map fun n=>.v (.int .u8 n)
def gtab0 (g:Nat):Option (List D):=if gbytes=[] then none else if g=gnum then some gtbl else none
def gint:Option Nat:=some 0
def gtab (g:Nat):Option (List D):=
 match gint with
 | some k=>if g=k then some [.nt] else gtab0 g
 | none=>gtab0 g
theorem gtab0_v (g:Nat) (c:List D) (h:gtab0 g=some c):∀ d∈c,∃ x,d=.v x:=by
 unfold gtab0 at h
 split at h
 ·cases h
 split at h
 ·cases h
  intro d hd
  obtain ⟨n,_,rfl⟩:=List.mem_map.1 hd
  exact ⟨_,rfl⟩
 ·cases h
theorem gtab_v (g:Nat) (c:List D) (h:gtab g=some c):∀ d∈c,(∃ x,d=.v x)∨d=.nt:=by
 have h0:∀ c,gtab0 g=some c→∀ d∈c,(∃ x,d=.v x)∨d=.nt:=fun c h d hd=>.inl (gtab0_v g c h d hd)
 unfold gtab at h
 cases hg:gint with
 | none=>rw [hg] at h; exact h0 c h
 | some k=>
  rw [hg] at h
  simp only at h
  split at h
  ·cases h
   intro d hd
   simp only [List.mem_singleton] at hd
   exact .inr hd
  ·exact h0 c h
def gtD (g:Nat):D:=
 match gtab g with
 | some c=>.pel c
 | none=>.v (.pointer (some ⟨g,0,none⟩))
structure Env where
 n:Nat
 g:Nat→Value
 A:Nat→Prop
 w:World
def hb:Value→Option Nat
 | .pointer (some a)=>some a.block
 | .slice (some a) _ _=>some a.block
 | .map (some r)=>some r
 | _=>none
inductive Rd (E:Env):D→Value→Prop where
 | v (x:Value):Rd E (.v x) x
 | any (y:Value):Rd E .any y
 | nt (n:Int):Rd E .nt (.int .i64 n)
 | sl {sz:Nat} {rows:List (List D)} {a:Option Addr} {cap:Nat} (ad:Addr) (u:Nat→Value)
   (hr:∀ r∈rows,r.length=sz) (hl:rows.length≤cap) (hm:cap≤maxLen)
   (ha:rows=[]∨(a=some ad∧E.A ad.block))
   (hc:∀ (i:Nat) (r:List D) (j:Nat) (d:D),rows[i]? = some r→r[j]? = some d→E.w.cell? (ad.add (i * sz+j))=some (u (i * sz+j))∧(u (i * sz+j)).oneCell'=true)
   (hd:∀ (i:Nat) (r:List D) (j:Nat) (d:D),rows[i]? = some r→r[j]? = some d→Rd E d (u (i * sz+j))) :
   Rd E (.sl sz rows) (.slice a rows.length cap)
 | pel {row:List D} (ad:Addr) (u:Nat→Value) (hA:E.A ad.block)
   (hc:∀ (j:Nat) (d:D),row[j]? = some d→E.w.cell? (ad.add j)=some (u j)∧(u j).oneCell'=true)
   (hd:∀ (j:Nat) (d:D),row[j]? = some d→Rd E d (u j)):Rd E (.pel row) (.pointer (some ad))
 | agg {c:List D} (vs:Array Value) (hs:vs.size=c.length) (h1:∀ j,j<vs.size→(vs.getD j undef).oneCell'=true)
   (hd:∀ (j:Nat) (d:D),c[j]? = some d→Rd E d (vs.getD j undef)):Rd E (.agg c) (.agg vs)
 | tup {c:List D} (vs:Array Value) (hs:vs.size=c.length)
   (hd:∀ (j:Nat) (d:D),c[j]? = some d→Rd E d (vs.getD j undef)):Rd E (.tup c) (.tuple vs)
 | ref {k off b:Nat} (hk:k<E.n) (hg:hb (E.g k)=some b):Rd E (.ref k off) (.pointer (some ⟨b,off,none⟩))
 | rel {k sz i j b:Nat} (hk:k<E.n) (hg:hb (E.g k)=some b):Rd E (.rel k sz i j) (.pointer (some ⟨b,i * sz+j,none⟩))
 | own {k:Nat} (hk:k<E.n):Rd E (.own k) (E.g k)
 | fn {f:FuncId} {cap:List D} (vs:Array Value) (hs:vs.size=cap.length)
   (hd:∀ (j:Nat) (d:D),cap[j]? = some d→Rd E d (vs.getD j undef)):Rd E (.fn f cap) (.func (.func f) #[] vs)
 | ifc {t:TypeId} {d:D} {y:Value} (h:Rd E d y):Rd E (.ifc t d) (.iface t y)
 | yld {k b:Nat} (hk:k<E.n) (hg:hb (E.g k)=some b):Rd E (.yld k) (.func (.yield b) #[] #[])
 | bm {f:FuncId} {d:D} {y:Value} (h:Rd E d y):Rd E (.bm f d) (.func (.func f) #[y] #[])
inductive Bl (n:Nat):D→Prop where
 | v (x:Value):Bl n (.v x)
 | any:Bl n .any
 | nt:Bl n .nt
 | sl {sz:Nat} {rows:List (List D)} (h:∀ r∈rows,∀ d∈r,Bl n d):Bl n (.sl sz rows)
 | pel {row:List D} (h:∀ d∈row,Bl n d):Bl n (.pel row)
 | agg {c:List D} (h:∀ d∈c,Bl n d):Bl n (.agg c)
 | tup {c:List D} (h:∀ d∈c,Bl n d):Bl n (.tup c)
 | ref {k off:Nat} (h:k<n):Bl n (.ref k off)
 | rel {k sz i j:Nat} (h:k<n):Bl n (.rel k sz i j)
 | own {k:Nat} (h:k<n):Bl n (.own k)
 | fn {f:FuncId} {cap:List D} (h:∀ d∈cap,Bl n d):Bl n (.fn f cap)
 | ifc {t:TypeId} {d:D} (h:Bl n d):Bl n (.ifc t d)
 | yld {k:Nat} (h:k<n):Bl n (.yld k)
 | bm {f:FuncId} {d:D} (h:Bl n d):Bl n (.bm f d)
inductive Ob where
 | var (ty:TypeId) (c:List D)
 | slc (ty:TypeId) (sz:Nat) (rows:List (List D))
 | frz (sz:Nat) (rows:List (List D))
 | frv (c:List D)
 | lp (ps:Array Tmp) (assign body:Code) (st:LoopState) (pe:Option Code) (env:List D)
 | mp (es:List (ByteArray × Value))
 | it (s:ByteArray) (pos:Nat)
 | alt (ty:TypeId) (cs:List (List D))
 | dead
instance:Inhabited Ob:=⟨.dead⟩
def Ob.live:Ob→Bool
 | .var .. | .slc .. | .lp .. | .mp .. | .it .. | .alt .. => true
 | _=>false
def CellsR (E:Env) (c:List D) (cs:Array Value):Prop:=∀ (j:Nat) (d:D),c[j]? = some d→∃ y,cs[j]? = some y∧y.oneCell'=true∧Rd E d y
def ObR (E:Env) (k:Nat):Ob→Prop
 | .var ty c=>∃ b cs,E.g k=.pointer (some ⟨b,0,none⟩)∧E.w.heap[b]? = some (.cells cs ty (0,0))∧¬ E.A b∧cs.size=c.length∧CellsR E c cs
 | .slc ty sz rows=>0<sz∧(∀ r∈rows,r.length=sz)∧((E.g k=.slice none 0 0∧rows=[]) ∨
   ∃ b cs cap,E.g k=.slice (some ⟨b,0,none⟩) rows.length cap∧E.w.heap[b]? = some (.cells cs ty (0,0))∧¬ E.A b∧cs.size=cap * sz∧rows.length≤cap∧cap≤maxLen∧CellsR E rows.flatten cs)
 | .frz sz rows=>Rd E (.sl sz rows) (E.g k)∧(rows=[]∨∃ b cap,E.g k=.slice (some ⟨b,0,none⟩) rows.length cap)
 | .frv c=>Rd E (.pel c) (E.g k)∧∃ b,E.g k=.pointer (some ⟨b,0,none⟩)
 | .lp ps as bo st pe env=>∃ b r,E.g k=.pointer (some ⟨b,0,none⟩)∧E.w.heap[b]? = some (.loop r)∧¬ E.A b∧r.params=ps∧r.assign=as∧r.body=bo∧r.state=st∧r.pending=pe∧r.tmps.size=env.length∧∀ t,Rd E (env.getD t .any) (r.tmps.getD t undef)
 | .mp es=>∃ b xs clock,E.g k=.map (some b)∧E.w.heap[b]? = some (.map xs clock)∧¬ E.A b∧xs.toList.map (fun e=>(e.key,e.val))=es.map (fun p=>(Value.string p.1,p.2))
 | .it s pos=>∃ b,E.g k=.pointer (some ⟨b,0,none⟩)∧E.w.heap[b]? = some (.stringIter s pos)∧¬ E.A b
 | .alt ty cs=>∃ c,c∈cs∧(∀ d∈c,Bl 0 d)∧∃ b a,E.g k=.pointer (some ⟨b,0,none⟩)∧E.w.heap[b]? = some (.cells a ty (0,0))∧¬ E.A b∧a.size=c.length∧CellsR E c a
 | .dead=>True
structure Rel (E:Env) (Om:List Ob):Prop where
 len:Om.length=E.n
 ob:∀ k o,Om[k]? = some o→ObR E k o
 inj:∀ k k' o o' b,Om[k]? = some o→Om[k']? = some o'→o.live=true→o'.live=true→hb (E.g k)=some b→hb (E.g k')=some b→k=k'
 old:∀ b,E.A b→b<E.w.heap.size
 one:∀ k,k<E.n→(E.g k).oneCell'=true
 gt:∀ (g:Nat) (c:List D),gtab g=some c→Rd E (.pel c) (.pointer (some ⟨g,0,none⟩))
def Live (E:Env) (Om:List Ob) (b:Nat):Prop:=∃ k o,Om[k]? = some o∧o.live=true∧hb (E.g k)=some b
structure Ext (E:Env) (Om:List Ob) (E':Env) (Om':List Ob):Prop where
 n:E.n≤E'.n
 g:∀ k,k<E.n→E'.g k=E.g k
 A:∀ b,E.A b→E'.A b
 size:E.w.heap.size≤E'.w.heap.size
 os:E'.w.os=E.w.os
 tape:E'.w.tape=E.w.tape
 output:E'.w.output=E.w.output
 keep:∀ b,b<E.w.heap.size→¬ Live E Om b→E'.w.heap[b]? = E.w.heap[b]?
 live:∀ b,Live E' Om' b→Live E Om b∨E.w.heap.size≤b
 newA:∀ b,E'.A b→E.A b∨Live E Om b∨E.w.heap.size≤b
structure ExtB (base:Nat) (E:Env) (Om:List Ob) (E':Env) (Om':List Ob):Prop where
 n:base≤E'.n
 g:∀ k,k<base→E'.g k=E.g k
 A:∀ b,E.A b→E'.A b
 size:E.w.heap.size≤E'.w.heap.size
 os:E'.w.os=E.w.os
 tape:E'.w.tape=E.w.tape
 output:E'.w.output=E.w.output
 keep:∀ b,b<E.w.heap.size→¬ Live E Om b→E'.w.heap[b]? = E.w.heap[b]?
 live:∀ b,Live E' Om' b→Live E Om b∨E.w.heap.size≤b
 newA:∀ b,E'.A b→E.A b∨Live E Om b∨E.w.heap.size≤b
theorem Ext.toB {base:Nat} {E E':Env} {Om Om':List Ob} (h:Ext E Om E' Om') (hb:base≤E.n):ExtB base E Om E' Om':=
 ⟨zc hb h.n,fun k hk=>h.g k (za hk hb),h.A,h.size,h.os,h.tape,h.output,h.keep,h.live,h.newA⟩
theorem ExtB.toExt {E E':Env} {Om Om':List Ob} (h:ExtB E.n E Om E' Om'):Ext E Om E' Om':=
 ⟨h.n,h.g,h.A,h.size,h.os,h.tape,h.output,h.keep,h.live,h.newA⟩
theorem ExtB.trans {base:Nat} {E E1 E2:Env} {Om Om1 Om2:List Ob} (h:ExtB base E Om E1 Om1) (k:ExtB base E1 Om1 E2 Om2):ExtB base E Om E2 Om2 where
 n:=k.n
 g:=fun i hi=>(k.g i hi).trans (h.g i hi)
 A:=fun b hb=>k.A b (h.A b hb)
 size:=zc h.size k.size
 os:=k.os.trans h.os
 tape:=k.tape.trans h.tape
 output:=k.output.trans h.output
 keep:=fun b hb hn=>by
  rw [k.keep b (za hb h.size) (fun hl=>by
   rcases h.live b hl with hl | hl
   ·exact hn hl
   ·omega)]
  exact h.keep b hb hn
 live:=fun b hl=>by
  rcases k.live b hl with hl | hl
  ·exact h.live b hl
  ·exact .inr (zc h.size hl)
 newA:=fun b hA=>by
  rcases k.newA b hA with hA | hl | hs
  ·exact h.newA b hA
  ·exact .inr (h.live b hl)
  ·exact .inr (.inr (zc h.size hs))
theorem Rel.live_lt {E:Env} {Om:List Ob} (h:Rel E Om) {b:Nat} (hl:Live E Om b):b<E.w.heap.size∧¬ E.A b:=by
 obtain ⟨k,o,ho,hlv,hg⟩:=hl
 have hob:=h.ob k o ho
 cases o with
 | var ty c=>
  obtain ⟨b',cs,h1,h2,h3,_⟩:=hob
  rw [h1] at hg
  simp only [hb,Option.some.injEq] at hg
  subst hg
  exact ⟨(Array.getElem?_eq_some_iff.1 h2).1,h3⟩
 | slc ty sz rows=>
  obtain ⟨_,_,h1 | ⟨b',cs,cap,h1,h2,h3,_⟩⟩:=hob
  ·rw [h1.1] at hg; simp [hb] at hg
  ·rw [h1] at hg
   simp only [hb,Option.some.injEq] at hg
   subst hg
   exact ⟨(Array.getElem?_eq_some_iff.1 h2).1,h3⟩
 | frz sz rows=>simp [Ob.live] at hlv
 | frv c=>simp [Ob.live] at hlv
 | lp ps as bo st pe env=>
  obtain ⟨b',r,h1,h2,h3,_⟩:=hob
  rw [h1] at hg
  simp only [hb,Option.some.injEq] at hg
  subst hg
  exact ⟨(Array.getElem?_eq_some_iff.1 h2).1,h3⟩
 | mp es=>
  obtain ⟨b',xs,ck,h1,h2,h3,_⟩:=hob
  rw [h1] at hg
  simp only [hb,Option.some.injEq] at hg
  subst hg
  exact ⟨(Array.getElem?_eq_some_iff.1 h2).1,h3⟩
 | it s pos=>
  obtain ⟨b',h1,h2,h3⟩:=hob
  rw [h1] at hg
  simp only [hb,Option.some.injEq] at hg
  subst hg
  exact ⟨(Array.getElem?_eq_some_iff.1 h2).1,h3⟩
 | alt ty cs=>
  obtain ⟨_,_,_,b',a,h1,h2,h3,_⟩:=hob
  rw [h1] at hg
  simp only [hb,Option.some.injEq] at hg
  subst hg
  exact ⟨(Array.getElem?_eq_some_iff.1 h2).1,h3⟩
 | dead=>simp [Ob.live] at hlv
theorem Rel.notlive {E:Env} {Om:List Ob} (h:Rel E Om) {b:Nat} (hA:E.A b):¬ Live E Om b:=fun hl=>(h.live_lt hl).2 hA
theorem Ext.refl (E:Env) (Om:List Ob):Ext E Om E Om:=
 ⟨Nat.le_refl _,fun _ _=>rfl,fun _ h=>h,Nat.le_refl _,rfl,rfl,rfl,fun _ _ _=>rfl,fun _ h=>.inl h,fun _ h=>.inl h⟩
theorem Ext.trans {E E1 E2:Env} {Om Om1 Om2:List Ob} (h:Ext E Om E1 Om1) (k:Ext E1 Om1 E2 Om2):Ext E Om E2 Om2 where
 n:=zc h.n k.n
 g:=fun i hi=>(k.g i (za hi h.n)).trans (h.g i hi)
 A:=fun b hb=>k.A b (h.A b hb)
 size:=zc h.size k.size
 os:=k.os.trans h.os
 tape:=k.tape.trans h.tape
 output:=k.output.trans h.output
 keep:=fun b hb hn=>by
  rw [k.keep b (za hb h.size) (fun hl=>by
   rcases h.live b hl with hl | hl
   ·exact hn hl
   ·omega)]
  exact h.keep b hb hn
 live:=fun b hl=>by
  rcases k.live b hl with hl | hl
  ·exact h.live b hl
  ·exact .inr (zc h.size hl)
 newA:=fun b hA=>by
  rcases k.newA b hA with hA | hl | hs
  ·exact h.newA b hA
  ·exact .inr (h.live b hl)
  ·exact .inr (.inr (zc h.size hs))
theorem Rd.gen {E E':Env} (hn:E.n≤E'.n) (hgg:∀ k,k<E.n→E'.g k=E.g k) (hAA:∀ b,E.A b→E'.A b) (hcell:∀ (a:Addr),E.A a.block→E'.w.cell? a=E.w.cell? a) {d:D} {y:Value} (h:Rd E d y):Rd E' d y:=by
 have hadd:∀ (a:Addr) (n:Nat),(a.add n).block=a.block:=fun a n=>by unfold Addr.add; split <;> rfl
 induction h with
 | v x=>exact .v x
 | any y=>exact .any y
 | nt n=>exact .nt n
 | sl ad u hr hl hm ha hc hd ih=>
  refine .sl ad u hr hl hm (ha.imp id fun h=>⟨h.1,hAA _ h.2⟩) (fun i r j d h1 h2=>?_) ih
  rcases ha with ha | ha
  ·subst ha; simp at h1
  ·rw [hcell _ (by rw [hadd]; exact ha.2)]
   exact hc i r j d h1 h2
 | pel ad u hA hc hd ih=>
  exact .pel ad u (hAA _ hA) (fun j d h1=>by rw [hcell _ (by rw [hadd]; exact hA)]; exact hc j d h1) ih
 | agg vs hs h1 hd ih=>exact .agg vs hs h1 ih
 | tup vs hs hd ih=>exact .tup vs hs ih
 | ref hk hg=>exact .ref (za hk hn) (by rw [hgg _ hk]; exact hg)
 | rel hk hg=>exact .rel (za hk hn) (by rw [hgg _ hk]; exact hg)
 | own hk=>rw [← hgg _ hk]; exact .own (za hk hn)
 | fn vs hs hd ih=>exact .fn vs hs ih
 | ifc h ih=>exact .ifc ih
 | yld hk hg=>exact .yld (za hk hn) (by rw [hgg _ hk]; exact hg)
 | bm h ih=>exact .bm ih
theorem Rd.ext {E E':Env} {Om Om':List Ob} (hR:Rel E Om) (hx:Ext E Om E' Om') {d:D} {y:Value} (h:Rd E d y):Rd E' d y:=
 h.gen hx.n hx.g hx.A fun a hA=>World.cell?_of_block (hx.keep _ (hR.old _ hA) (hR.notlive hA))
theorem CellsR.ext {E E':Env} {Om Om':List Ob} (hR:Rel E Om) (hx:Ext E Om E' Om') {c:List D} {cs:Array Value} (h:CellsR E c cs):CellsR E' c cs:=
 fun j d hj=>let ⟨y,h1,h2,h3⟩:=h j d hj; ⟨y,h1,h2,h3.ext hR hx⟩
theorem gtab_bl {g:Nat} {c:List D} (h:gtab g=some c):Bl 0 (.pel c):=.pel fun d hd=>by exact (gtab_v g c h d hd).elim (fun ⟨x,e⟩=>e ▸ .v x) (fun e=>e ▸ .nt)
theorem Bl.mono {n m:Nat} (hnm:n≤m) {d:D} (h:Bl n d):Bl m d:=by
 induction h with
 | v x=>exact .v x
 | any=>exact .any
 | nt=>exact .nt
 | sl h ih=>exact .sl ih
 | pel h ih=>exact .pel ih
 | agg h ih=>exact .agg ih
 | tup h ih=>exact .tup ih
 | ref h=>exact .ref (za h hnm)
 | rel h=>exact .rel (za h hnm)
 | own h=>exact .own (za h hnm)
 | fn h ih=>exact .fn ih
 | ifc h ih=>exact .ifc ih
 | yld h=>exact .yld (za h hnm)
 | bm h ih=>exact .bm ih
theorem Rd.bl {E E2:Env} {n:Nat} (hn:n≤E2.n) (hg:∀ k,k<n→E2.g k=E.g k) (hA:∀ b,E.A b→E2.A b) (hw:E2.w=E.w) {d:D} {y:Value} (h:Rd E d y) (hb:Bl n d):Rd E2 d y:=by
 induction h with
 | v x=>exact .v x
 | any y=>exact .any y
 | nt n=>exact .nt n
 | sl ad u hr hl hm ha hc hd ih=>
  cases hb with
  | sl hb=>exact .sl ad u hr hl hm (ha.imp id fun h=>⟨h.1,hA _ h.2⟩) (by rw [hw]; exact hc) (fun i r j d h1 h2=>ih i r j d h1 h2 (hb r (zb h1) d (zb h2)))
 | pel ad u hA' hc hd ih=>
  cases hb with
  | pel hb=>exact .pel ad u (hA _ hA') (by rw [hw]; exact hc) (fun j d h1=>ih j d h1 (hb d (zb h1)))
 | agg vs hs h1 hd ih=>
  cases hb with
  | agg hb=>exact .agg vs hs h1 (fun j d h=>ih j d h (hb d (zb h)))
 | tup vs hs hd ih=>
  cases hb with
  | tup hb=>exact .tup vs hs (fun j d h=>ih j d h (hb d (zb h)))
 | ref hk hg'=>
  cases hb with
  | ref hb=>exact .ref (za hb hn) (by rw [hg _ hb]; exact hg')
 | rel hk hg'=>
  cases hb with
  | rel hb=>exact .rel (za hb hn) (by rw [hg _ hb]; exact hg')
 | own hk=>
  cases hb with
  | own hb=>rw [← hg _ hb]; exact .own (za hb hn)
 | fn vs hs hd ih=>
  cases hb with
  | fn hb=>exact .fn vs hs (fun j d h=>ih j d h (hb d (zb h)))
 | ifc h ih=>
  cases hb with
  | ifc hb=>exact .ifc (ih hb)
 | yld hk hg'=>
  cases hb with
  | yld hb=>exact .yld (za hb hn) (by rw [hg _ hb]; exact hg')
 | bm h ih=>
  cases hb with
  | bm hb=>exact .bm (ih hb)
end Go.Proofs.YtbmedfjmccnclaaGreat.AWP
namespace Go.Proofs.YtbmedfjmccnclaaGreat.AWP
open Go
open _root_.Bool renaming and_eq_true → za
open _root_.Array renaming getD_eq_getD_getElem? → zb
open _root_.List renaming getD_eq_getElem?_getD → zc, getElem?_set → zd, range → ze
theorem Rd.v_inv {E:Env} {x y:Value} (h:Rd E (.v x) y):y=x:=by cases h; rfl
def ofConst:Value→D
 | .agg cs=>if cs.all Value.oneCell' then .agg (cs.toList.map .v) else .v (.agg cs)
 | x=>.v x
theorem Rd.ofConst (E:Env) (x:Value):Rd E (ofConst x) x:=by
 unfold AWP.ofConst
 split
 ·rename_i cs
  split
  ·rename_i h
   refine .agg cs (by simp) (fun j hj=>?_) (fun j d hd=>?_)
   ·have:=(Array.all_eq_true.1 h) j hj
    simpa [Array.getD,hj] using this
   ·simp only [List.getElem?_map,Option.map_eq_some_iff,Array.getElem?_toList] at hd
    obtain ⟨y,hy,rfl⟩:=hd
    have:cs.getD j undef=y:=by simp [zb,hy]
    rw [this]
    exact .v y
  ·exact .v _
 ·exact .v _
def evD (env:List D):Operand→D
 | .tmp t=>env.getD t .any
 | .const v=>ofConst v
 | .global g=>gtD g
 | .func f=>.fn f []
structure St where
 env:List D
 om:List Ob
def mark (b:Nat):Deferred:={ target:=.collected b,args:=#[] }
structure Lo where
 n:Nat
 dz:List Deferred
 nr:Bool
def Marks (lo:Lo) (E:Env) (ds:List Deferred):Prop:=lo.n≤E.w.heap.size∧∃ bs:List Nat,bs.Nodup∧ds=bs.map mark++lo.dz∧(∀ b∈bs,lo.n≤b∧E.w.heap[b]? = some (.deferred (some [])))∧(lo.nr=true→bs=[])
theorem Marks.base {lo:Lo} {E:Env} (h:lo.n≤E.w.heap.size):Marks lo E lo.dz:=⟨h,[],List.nodup_nil,rfl,by simp,fun _=>rfl⟩
theorem Marks.nil {n:Nat} {nr:Bool} {E:Env} (h:n≤E.w.heap.size):Marks ⟨n,[],nr⟩ E []:=Marks.base (lo:=⟨n,[],nr⟩) h
theorem Rel.no_df {E:Env} {om:List Ob} (h:Rel E om) {b:Nat} (hd:E.w.heap[b]? = some (.deferred (some []))):¬ Live E om b:=by
 rintro ⟨k,o,ho,hl,hg⟩
 have hob:=h.ob k o ho
 cases o with
 | var ty c=>
  obtain ⟨b',cs,h1,h2,_⟩:=hob
  rw [h1] at hg
  simp only [hb,Option.some.injEq] at hg
  subst hg
  rw [hd] at h2; cases h2
 | slc ty sz rows=>
  obtain ⟨_,_,h1 | ⟨b',cs,cap,h1,h2,_⟩⟩:=hob
  ·rw [h1.1] at hg; simp [hb] at hg
  ·rw [h1] at hg
   simp only [hb,Option.some.injEq] at hg
   subst hg
   rw [hd] at h2; cases h2
 | lp ps as bo st pe env=>
  obtain ⟨b',r,h1,h2,_⟩:=hob
  rw [h1] at hg
  simp only [hb,Option.some.injEq] at hg
  subst hg
  rw [hd] at h2; cases h2
 | mp es=>
  obtain ⟨b',xs,ck,h1,h2,_⟩:=hob
  rw [h1] at hg
  simp only [hb,Option.some.injEq] at hg
  subst hg
  rw [hd] at h2; cases h2
 | it s pos=>
  obtain ⟨b',h1,h2,_⟩:=hob
  rw [h1] at hg
  simp only [hb,Option.some.injEq] at hg
  subst hg
  rw [hd] at h2; cases h2
 | alt ty cs=>
  obtain ⟨_,_,_,b',a,h1,h2,_⟩:=hob
  rw [h1] at hg
  simp only [hb,Option.some.injEq] at hg
  subst hg
  rw [hd] at h2; cases h2
 | frz sz rows=>simp [Ob.live] at hl
 | frv c=>simp [Ob.live] at hl
 | dead=>simp [Ob.live] at hl
theorem Marks.extB {lo:Lo} {base:Nat} {E E':Env} {om om':List Ob} {ds:List Deferred} (h:Marks lo E ds) (hR:Rel E om) (hx:ExtB base E om E' om'):Marks lo E' ds:=by
 obtain ⟨h0,bs,h1,h2,h3,h4⟩:=h
 refine ⟨Nat.le_trans h0 hx.size,bs,h1,h2,fun b hb=>⟨(h3 b hb).1,?_⟩,h4⟩
 have hd:=(h3 b hb).2
 rw [hx.keep b (Array.getElem?_eq_some_iff.1 hd).1 (hR.no_df hd)]
 exact hd
theorem Marks.ext {lo:Lo} {E E':Env} {om om':List Ob} {ds:List Deferred} (h:Marks lo E ds) (hR:Rel E om) (hx:Ext E om E' om'):Marks lo E' ds:=h.extB hR (hx.toB (Nat.le_refl _))
structure Sat (lo:Lo) (E:Env) (s:St) (a:Act):Prop where
 rel:Rel E s.om
 defs:Marks lo E a.defers
 size:a.tmps.size=s.env.length
 rd:∀ t,Rd E (s.env.getD t .any) (a.tmps.getD t undef)
theorem Sat.ev {lo:Lo} {E:Env} {s:St} {a:Act} (h:Sat lo E s a) (x:Operand):Rd E (evD s.env x) (a.eval x):=by
 cases x with
 | tmp t=>exact h.rd t
 | const v=>exact Rd.ofConst E v
 | global g=>
  show Rd E (gtD g) (.pointer (some ⟨g,0,none⟩))
  unfold gtD
  cases hg:gtab g with
  | none=>exact .v _
  | some c=>exact h.rel.gt g c hg
 | func f=>exact .fn #[] rfl (fun j d hd=>by simp at hd)
def St.put (s:St) (dst:Option Tmp) (d:D):St:=
 match dst with
 | some t=>{ s with env:=s.env.set t d }
 | none=>s
theorem Sat.put {lo:Lo} {E E':Env} {s:St} {om':List Ob} {a:Act} (h:Sat lo E s a) (hx:Ext E s.om E' om') (hr:Rel E' om') {d:D} {y:Value} (hd:Rd E' d y) (dst:Option Tmp) :
  Sat lo E' (St.put ⟨s.env,om'⟩ dst d) (a.put dst y):=by
 cases dst with
 | none=>exact ⟨hr,h.defs.ext h.rel hx,h.size,fun t=>(h.rd t).ext h.rel hx⟩
 | some t=>
  refine ⟨hr,h.defs.ext h.rel hx,by simp [St.put,Act.put,h.size],fun u=>?_⟩
  show Rd E' ((s.env.set t d).getD u .any) ((a.tmps.setIfInBounds t y).getD u undef)
  by_cases hu:u=t
  ·subst hu
   by_cases hl:u<s.env.length
   ·have hl':u<a.tmps.size:=by rw [h.size]; exact hl
    simp [zc,zb,zd,Array.getElem?_setIfInBounds,hl,hl']
    exact hd
   ·have:s.env.length≤u:=by omega
    simp only [zc,zd]
    simp [hl]
    exact .any _
  ·have e1:(s.env.set t d).getD u .any=s.env.getD u .any:=by
    simp [zc,zd,Ne.symm hu]
   have e2:(a.tmps.setIfInBounds t y).getD u undef=a.tmps.getD u undef:=by
    simp [zb,Array.getElem?_setIfInBounds,Ne.symm hu]
   rw [e1,e2]
   exact (h.rd u).ext h.rel hx
inductive AX where
 | norm
 | exit (id:Nat)
 | ret
 | panic (d:D)
def cx (E:Env):AX→Exit→Prop
 | .norm,.normal=>True
 | .exit i,.exit j=>i=j
 | .ret,.ret=>True
 | .panic d,.panic ch=>∃ y,ch=[{ v:=y,recovered:=false }]∧Rd E d y
 | _,_=>False
def Post (lo:Lo) (base:Nat) (Q:AX→St→Prop) (E:Env) (om:List Ob) (e:Exit) (a':Act) (w':World):Prop:=
 ∃ E' x s',Q x s'∧cx E' x e∧E'.w=w'∧ExtB base E om E' s'.om∧Sat lo E' s' a'
abbrev fence (r:Option Nat):Fence:={ Fence.wide with round:=r }
theorem calls_fence {r:Option Nat} {n:Nat} {P:Program} {f:FuncId} {args:Array Value} {w:World} {R:Ending→World→Prop} (h:Calls P f args w R):CallsIn (fence r) n P f args w R:=callsIn_wide.2 h
def isApp (o:Oper):Bool:=
 match o.op with
 | .call c=>match c.callee with | .builtin .append=>true | _=>false
 | _=>false
def usesB (o:Oper) (dst:Option Tmp):Bool:=o.op.operands.any fun x=>match x,dst with | .tmp u,some v=>u == v | _,_=>false
def lateB (ops:Array Oper):Bool:=
 (ze ops.size).any fun k=>
  match ops[k]? with
  | some ok=>isApp ok && (ze k).any fun i=>
   match ops[i]? with
   | some oi=>(match oi.op with | .move _=>true | _=>false) && oi.guard.isNone && !(ok.after.any fun e=>e.on == i) &&
    (ze (k+1)).all fun j=>match ops[j]? with | some oj=>decide (j≤i) || !usesB oj oi.dst | none=>true
   | none=>false
  | none=>false
def isSto (o:Oper):Bool:=match o.op with | .store .. => true | _=>false
def isNilSto (o:Oper):Bool:=match o.op with | .store _ _ (.const (.slice none 0 0))=>true | _=>false
def many3 (ops:Array Oper):Bool:=ops.any isNilSto && decide (3≤(ops.toList.filter isSto).length) && decide (ops.size≤7) && ops.all fun o=>!(isApp o) && match o.op with | .call c=>(match c.callee with | .builtin _=>true | _=>false) | _=>true
def lim3 (ops:Array Oper):Nat:=if many3 ops then 7 else 5
def roundOkB (ops:Array Oper):Bool:=
 (((ops.any isApp) || ops.all fun o=>o.after.all fun e=>Region.binds .any e) && !lateB ops) || many3 ops
def noRange:Code→Bool
 | .skip=>true
 | .region _ ops d=>!d || roundOkB ops
 | .seq a b=>noRange a && noRange b
 | .cond _ a b=>noRange a && noRange b
 | .block _ a=>noRange a
 | .loop a=>noRange a
 | .exit _=>true
 | .label _=>true
 | .ret=>true
 | _=>false
def noRF:Code→Bool
 | .seq a b=>noRF a && noRF b
 | .cond _ a b=>noRF a && noRF b
 | .block _ a=>noRF a
 | .loop a=>noRF a
 | .rangeFunc .. => false
 | _=>true
def Fits (r:Option Nat) (lo:Lo) (c:Code):Prop:=(r=none∨noRange c=true)∧(lo.nr=true→noRF c=true)
def AW (base:Nat) (P:Program) (c:Code) (Q:AX→St→Prop) (s:St):Prop:=
 ∀ (r:Option Nat) (lo:Lo) (E:Env) (a:Act),Fits r lo c→base≤E.n→Sat lo E s a→c.wpIn (fence r) 0 P (Post lo base Q E s.om) a E.w
section
variable {base:Nat} {P:Program} {Q Q':AX→St→Prop} {s:St}
theorem Post.mono {lo:Lo} {E:Env} {om:List Ob} (hq:∀ x s,Q x s→Q' x s):∀ e a w,Post lo base Q E om e a w→Post lo base Q' E om e a w:=
 fun e a w ⟨E',x,s',h1,h2⟩=>⟨E',x,s',hq _ _ h1,h2⟩
theorem Post.trans {lo:Lo} {E E1:Env} {om om1:List Ob} (hx:ExtB base E om E1 om1):∀ e a w,Post lo base Q E1 om1 e a w→Post lo base Q E om e a w:=
 fun e a w ⟨E',x,s',h1,h2,h3,h4,h5⟩=>⟨E',x,s',h1,h2,h3,hx.trans h4,h5⟩
theorem AW.mono {c:Code} (h:AW base P c Q s) (hq:∀ x s,Q x s→Q' x s):AW base P c Q' s:=
 fun r lo E a hr hb hs=>wpIn_mono (h r lo E a hr hb hs) (Post.mono hq)
def thenQ (N:St→Prop) (Q:AX→St→Prop):AX→St→Prop
 | .norm,s=>N s
 | x,s=>Q x s
theorem AW.seq {c1 c2:Code} (h:AW base P c1 (thenQ (AW base P c2 Q) Q) s):AW base P (.seq c1 c2) Q s:=by
 intro r lo E a hr hb hs
 have hr1:Fits r lo c1:=⟨hr.1.imp id fun h=>(za _ _ ▸ h:noRange c1=true∧noRange c2=true).1,fun h=>(za _ _ ▸ hr.2 h:noRF c1=true∧noRF c2=true).1⟩
 have hr2:Fits r lo c2:=⟨hr.1.imp id fun h=>(za _ _ ▸ h:noRange c1=true∧noRange c2=true).2,fun h=>(za _ _ ▸ hr.2 h:noRF c1=true∧noRF c2=true).2⟩
 refine wpIn_seq (wpIn_mono (h r lo E a hr1 hb hs) ?_)
 rintro e a' w' ⟨E',x,s',hq,hx,rfl,hext,hsat⟩
 cases x <;> cases e <;> simp only [cx] at hx
 ·exact wpIn_mono (hq r lo E' a' hr2 hext.n hsat) (Post.trans hext)
 ·subst hx; exact ⟨E',.exit _,s',hq,rfl,rfl,hext,hsat⟩
 ·exact ⟨E',.ret,s',hq,trivial,rfl,hext,hsat⟩
 ·exact ⟨E',.panic _,s',hq,hx,rfl,hext,hsat⟩
theorem AW.skip (h:Q .norm s):AW base P .skip Q s:=fun r lo E a hr hb hs=>wpIn_skip ⟨E,.norm,s,h,trivial,rfl,(Ext.refl _ _).toB hb,hs⟩
theorem AW.label {l:Nat} (h:Q .norm s):AW base P (.label l) Q s:=fun r lo E a hr hb hs=>wpIn_label ⟨E,.norm,s,h,trivial,rfl,(Ext.refl _ _).toB hb,hs⟩
theorem AW.ret (h:Q .ret s):AW base P .ret Q s:=fun r lo E a hr hb hs=>wpIn_ret ⟨E,.ret,s,h,trivial,rfl,(Ext.refl _ _).toB hb,hs⟩
theorem AW.exit {id:Nat} (h:Q (.exit id) s):AW base P (.exit id) Q s:=fun r lo E a hr hb hs=>wpIn_exit ⟨E,.exit id,s,h,rfl,rfl,(Ext.refl _ _).toB hb,hs⟩
theorem AW.cond {c:Operand} {x y:Code} {t:Bool} (hc:evD s.env c=.v (.bool t)) (h:if t then AW base P x Q s else AW base P y Q s):AW base P (.cond c x y) Q s:=by
 intro r lo E a hr hb hs
 have hr1:Fits r lo x:=⟨hr.1.imp id fun h=>(za _ _ ▸ h:noRange x=true∧noRange y=true).1,fun h=>(za _ _ ▸ hr.2 h:noRF x=true∧noRF y=true).1⟩
 have hr2:Fits r lo y:=⟨hr.1.imp id fun h=>(za _ _ ▸ h:noRange x=true∧noRange y=true).2,fun h=>(za _ _ ▸ hr.2 h:noRF x=true∧noRF y=true).2⟩
 have he:a.eval c=.bool t:=by
  have:=hs.ev c
  rw [hc] at this
  exact this.v_inv
 refine wpIn_cond he ?_
 cases t
 ·exact h r lo E a hr2 hb hs
 ·exact h r lo E a hr1 hb hs
def blockQ (id:Nat) (Q:AX→St→Prop):AX→St→Prop
 | .exit i,s=>if i=id then Q .norm s else Q (.exit i) s
 | x,s=>Q x s
theorem AW.block {id:Nat} {c:Code} (h:AW base P c (blockQ id Q) s):AW base P (.block id c) Q s:=by
 intro r lo E a hr hb hs
 refine wpIn_block (wpIn_mono (h r lo E a hr hb hs) ?_)
 rintro e a' w' ⟨E',x,s',hq,hx,rfl,hext,hsat⟩
 cases x <;> cases e <;> simp only [cx] at hx
 ·exact ⟨E',.norm,s',hq,trivial,rfl,hext,hsat⟩
 ·subst hx
  simp only [blockQ] at hq
  simp only [Exit.inBlock]
  split
  ·rename_i h; rw [if_pos h] at hq; exact ⟨E',.norm,s',hq,trivial,rfl,hext,hsat⟩
  ·rename_i h; rw [if_neg h] at hq; exact ⟨E',.exit _,s',hq,rfl,rfl,hext,hsat⟩
 ·exact ⟨E',.ret,s',hq,trivial,rfl,hext,hsat⟩
 ·exact ⟨E',.panic _,s',hq,hx,rfl,hext,hsat⟩
theorem AW.loop {c:Code} (I:Nat→St→Prop) (h0:∃ n,I n s) (round:∀ n s,I n s→AW base P c (thenQ (fun s'=>∃ m,m<n∧I m s') Q) s):AW base P (.loop c) Q s:=by
 intro r lo E a hr hb hs b k cs hro hbf hroom
 have key:∀ n E1 a1 s1,I n s1→Sat lo E1 s1 a1→ExtB base E s.om E1 s1.om →
   ∃ e a' w',Post lo base Q E s.om e a' w'∧ArrivesIn (Machine.fenced P (fence r)) P (lone (b.atR a1 (.code c :: .inLoop c :: k)) cs E1.w) b k cs e a' w':=by
  intro n
  induction n using Nat.strongRecOn with
  | _ n ih=>
   intro E1 a1 s1 hI hsat hext
   obtain ⟨e,a2,w2,⟨E2,x,s2,hq,hx,rfl,hext2,hsat2⟩,harr⟩:=round n s1 hI r lo E1 a1 hr hext.n hsat b (.inLoop c :: k) cs hro hbf hroom
   cases x <;> cases e <;> simp only [cx] at hx
   ·obtain ⟨m,hm,hI2⟩:=hq
    obtain ⟨e,a',w',h1,h2⟩:=ih m hm E2 a2 s2 hI2 hsat2 (hext.trans hext2)
    exact ⟨e,a',w',h1,.of_steps (StepsIn.trans harr (.one (fenced_calm hbf hroom rfl) stepR_inLoop)) h2⟩
   ·subst hx
    exact ⟨.exit _,a2,E2.w,⟨E2,.exit _,s2,hq,rfl,rfl,hext.trans hext2,hsat2⟩,.pass (x:=.inLoop c) rfl (fun _ _=>.inl (by simp)) harr⟩
   ·exact ⟨.ret,a2,E2.w,⟨E2,.ret,s2,hq,trivial,rfl,hext.trans hext2,hsat2⟩,.pass (x:=.inLoop c) rfl (fun _ _=>.inl (by simp)) harr⟩
   ·exact ⟨.panic _,a2,E2.w,⟨E2,.panic _,s2,hq,hx,rfl,hext.trans hext2,hsat2⟩,.pass (x:=.inLoop c) rfl (fun _ _=>.inl (by simp)) harr⟩
 obtain ⟨n,hI⟩:=h0
 obtain ⟨e,a',w',h1,h2⟩:=key n E a s hI hs ((Ext.refl _ _).toB hb)
 exact ⟨e,a',w',h1,.of_steps (.one (fenced_calm hbf hroom rfl) stepR_loop) h2⟩
end
structure Turn (lo:Nat) (E E':Env) (om:List Ob):Prop where
 n:E'.n=E.n
 g:E'.g=E.g
 A:E'.A=E.A
 size:E'.w.heap.size=E.w.heap.size
 os:E'.w.os=E.w.os
 tape:E'.w.tape=E.w.tape
 output:E'.w.output=E.w.output
 low:∀ b,b<lo→E'.w.heap[b]? = E.w.heap[b]?
 rel:Rel E' om
 rd:∀ d y,Rd E d y→Rd E' d y
theorem Turn.refl {lo:Nat} {E:Env} {om:List Ob} (h:Rel E om):Turn lo E E om:=⟨rfl,rfl,rfl,rfl,rfl,rfl,rfl,fun _ _=>rfl,h,fun _ _ h=>h⟩
theorem Turn.trans {lo:Nat} {E E1 E2:Env} {om:List Ob} (h:Turn lo E E1 om) (k:Turn lo E1 E2 om):Turn lo E E2 om:=
 ⟨k.n.trans h.n,k.g.trans h.g,k.A.trans h.A,k.size.trans h.size,k.os.trans h.os,k.tape.trans h.tape,k.output.trans h.output,fun b hb=>(k.low b hb).trans (h.low b hb),k.rel,fun d y hd=>k.rd d y (h.rd d y hd)⟩
theorem Turn.shut {lo b:Nat} {E:Env} {om:List Ob} (hR:Rel E om) (hd:E.w.heap[b]? = some (.deferred (some []))) (hb':lo≤b):Turn lo E { E with w:=E.w.putObj b (.deferred none) } om:=by
 have hlt:=(Array.getElem?_eq_some_iff.1 hd).1
 have same:∀ k,k≠b→(E.w.putObj b (.deferred none)).heap[k]? = E.w.heap[k]?:=fun k hk=>World.putObj_heap_other hk
 have hcell:∀ a:Addr,(E.w.putObj b (.deferred none)).cell? a=E.w.cell? a:=by
  intro a
  by_cases e:a.block=b
  ·unfold World.cell?
   rw [e,hd,World.putObj_heap_same hlt]
  ·exact World.cell?_of_block (same _ e)
 have hrd:∀ d y,Rd E d y→Rd { E with w:=E.w.putObj b (.deferred none) } d y:=fun d y h=>Rd.gen (E:=E) (E':={ E with w:=E.w.putObj b (.deferred none) }) (Nat.le_refl _) (fun _ _=>rfl) (fun _ h=>h) (fun a _=>hcell a) h
 have hcs:∀ c cs,CellsR E c cs→CellsR { E with w:=E.w.putObj b (.deferred none) } c cs:=fun c cs h j d hj=>let ⟨y,h1,h2,h3⟩:=h j d hj; ⟨y,h1,h2,hrd d y h3⟩
 refine ⟨rfl,rfl,rfl,World.putObj_size,rfl,rfl,rfl,fun k hk=>same k (by omega),⟨hR.len,fun k o hk=>?_,hR.inj,fun k hA=>by show k<(E.w.putObj b _).heap.size; rw [World.putObj_size]; exact hR.old k hA,hR.one,fun g c h=>hrd _ _ (hR.gt g c h)⟩,hrd⟩
 have hob:=hR.ob k o hk
 cases o with
 | var ty c=>
  obtain ⟨b',cs,h1,h2,h3,h4,h5⟩:=hob
  exact ⟨b',cs,h1,(same b' (fun e=>by rw [e,hd] at h2; cases h2)).trans h2,h3,h4,hcs _ _ h5⟩
 | slc ty sz rows=>
  obtain ⟨h0,hs,h | ⟨b',cs,cap,h1,h2,h3,h4,h5,h6,h7⟩⟩:=hob
  ·exact ⟨h0,hs,.inl h⟩
  ·exact ⟨h0,hs,.inr ⟨b',cs,cap,h1,(same b' (fun e=>by rw [e,hd] at h2; cases h2)).trans h2,h3,h4,h5,h6,hcs _ _ h7⟩⟩
 | frz sz rows=>exact ⟨hrd _ _ hob.1,hob.2⟩
 | frv c=>exact ⟨hrd _ _ hob.1,hob.2⟩
 | lp ps as bo st pe env=>
  obtain ⟨b',r,h1,h2,h3,h4,h5,h6,h7,h8,h9,h10⟩:=hob
  exact ⟨b',r,h1,(same b' (fun e=>by rw [e,hd] at h2; cases h2)).trans h2,h3,h4,h5,h6,h7,h8,h9,fun t=>hrd _ _ (h10 t)⟩
 | mp es=>
  obtain ⟨b',xs,ck,h1,h2,h3,h4⟩:=hob
  exact ⟨b',xs,ck,h1,(same b' (fun e=>by rw [e,hd] at h2; cases h2)).trans h2,h3,h4⟩
 | it s pos=>
  obtain ⟨b',h1,h2,h3⟩:=hob
  exact ⟨b',h1,(same b' (fun e=>by rw [e,hd] at h2; cases h2)).trans h2,h3⟩
 | alt ty cs=>
  obtain ⟨c,p1,p2,b',a,h1,h2,h3,h4,h5⟩:=hob
  exact ⟨c,p1,p2,b',a,h1,(same b' (fun e=>by rw [e,hd] at h2; cases h2)).trans h2,h3,h4,hcs _ _ h5⟩
 | dead=>trivial
theorem Ext.turn {E E1 E2:Env} {om om1:List Ob} (h:Ext E om E1 om1) (k:Turn E.w.heap.size E1 E2 om1):Ext E om E2 om1:=
 ⟨by rw [k.n]; exact h.n,fun i hi=>by rw [k.g]; exact h.g i hi,fun b hb=>by rw [k.A]; exact h.A b hb,by rw [k.size]; exact h.size,k.os.trans h.os,k.tape.trans h.tape,k.output.trans h.output,
  fun b hb hn=>(k.low b hb).trans (h.keep b hb hn),fun b ⟨i,o,h1,h2,h3⟩=>h.live b ⟨i,o,h1,h2,by rw [← k.g]; exact h3⟩,fun b hA=>h.newA b (by rw [← k.A]; exact hA)⟩
theorem leave_marks {P:Program} {fn:Func} {tmps:Array Value} {R:Ending→World→Prop} {u:FrameMode} (hu:u≠.run) {lo:Nat} {dz:List Deferred} {om:List Ob}:∀ (bs:List Nat) (E:Env),Rel E om→bs.Nodup→(∀ b∈bs,lo≤b∧E.w.heap[b]? = some (.deferred (some []))) →
  (∀ E',Turn lo E E' om→LeavesInM Fence.wide 0 P fn tmps R dz u E'.w)→LeavesInM Fence.wide 0 P fn tmps R (bs.map mark++dz) u E.w
 | [],E,hR,_,_,h=>h E (Turn.refl hR)
 | b :: bs,E,hR,hnd,hbs,h=>by
  have hb:=hbs b (by simp)
  have ht:=Turn.shut hR hb.2 hb.1
  refine ⟨hu,.inl ⟨b,_,rfl,run_takeDeferred hb.2,leave_marks hu bs { E with w:=E.w.putObj b (.deferred none) } ht.rel (List.nodup_cons.1 hnd).2 (fun c hc=>?_) fun E' h'=>h E' (ht.trans h')⟩⟩
  refine ⟨(hbs c (by simp [hc])).1,?_⟩
  have hne:c≠b:=fun e=>(List.nodup_cons.1 hnd).1 (e ▸ hc)
  exact (World.putObj_heap_other hne).trans (hbs c (by simp [hc])).2
inductive Out where
 | ret (d:D)
 | panic (d:D)
def OutR (E:Env):Out→Ending→Prop
 | .ret d,.returned y=>Rd E d y
 | .panic d,.panicked ch=>∃ y,ch=[{ v:=y,recovered:=false }]∧Rd E d y
 | _,_=>False
def RdA (E:Env) (ds:List D) (vs:Array Value):Prop:=vs.size=ds.length∧∀ (j:Nat) (d:D),ds[j]? = some d→Rd E d (vs.getD j undef)
def callOk (P:Program) (f:FuncId):Bool:=
 match P.funcs[f]? with
 | some fn => fn.body.isSome && !(fn.name == "runtime.NumGoroutine")
 | none=>false
def AC (P:Program) (f:FuncId) (ds:List D) (om:List Ob) (R:Out→List Ob→Prop):Prop:=
 callOk P f=true∧∀ E vs,Rel E om→RdA E ds vs→Calls P f vs E.w fun e w'=>∃ E' o om',R o om'∧E'.w=w'∧Ext E om E' om'∧Rel E' om'∧OutR E' o e
theorem AC.mono {P:Program} {f:FuncId} {ds:List D} {om:List Ob} {R R':Out→List Ob→Prop} (h:AC P f ds om R) (hr:∀ o om',R o om'→R' o om'):AC P f ds om R':=
 ⟨h.1,fun E vs h1 h2=>(h.2 E vs h1 h2).mono fun e w' ⟨E',o,om',h3,h4⟩=>⟨E',o,om',hr _ _ h3,h4⟩⟩
def retP (d:D) (om:List Ob):Out→List Ob→Prop:=fun o om'=>o=.ret d∧om'=om
end Go.Proofs.YtbmedfjmccnclaaGreat.AWP
namespace Go.Proofs.YtbmedfjmccnclaaGreat.AWP
open Go
open _root_.List renaming getElem?_drop → za
open _root_.Nat renaming zero_add → zb
inductive TK where
 | int (k:IntKind) | bool | str | slice (e:Nat) | arr (n e:Nat) | struct (fs:List (Nat × Nat)) | map (k e:Nat) (z:Value) | ptr | other
def TK.agg:TK→Bool
 | .arr .. | .struct .. => true
 | _=>false
structure TI where
 kd:TK
 size:Nat
 bytes:Nat
 zero:List Value
abbrev Tab:=Nat→Option TI
def KdR:TypeDesc→TK→Prop
 | .int k,.int k'=>k=k'
 | .pointer _,.ptr=>True
 | .bool,.bool=>True
 | .string,.str=>True
 | .slice e,.slice e'=>e=e'
 | .array n e,.arr n' e'=>n=n'∧e=e'
 | .struct l,.struct fs=>l.toList.map (fun f=>(f.offset,f.type))=fs
 | .map k e,.map k' e' _=>k=k'∧e=e'
 | .int _,_ | .bool,_ | .string,_ | .slice _,_ | .array _ _,_ | .struct _,_=>False
 | .named _ _,_=>False
 | .pointer _,.other=>True
 | .pointer _,_=>False
 | _,.other=>True
 | _,_=>False
structure TIok (P:Program) (t:Nat) (i:TI):Prop where
 info:∃ inf z,P.info? t=some inf∧inf.size=i.size∧inf.bytes=i.bytes∧inf.zero=some z∧z.cells.toList=i.zero∧(i.kd.agg=true→z=.agg i.zero.toArray)
 one:∀ v∈i.zero,v.oneCell'=true
 len:i.zero.length=i.size
 und:∃ d,P.underlying t=some d∧KdR d i.kd
 mz:∀ k e z,i.kd=.map k e z→P.underlying k=some .string∧∃ inf,P.info? e=some inf∧inf.zero=some z
def TabOk (P:Program) (T:Tab):Prop:=∀ t i,T t=some i→TIok P t i
section
variable {P:Program} {w:World}
theorem TIok.isAgg {t:Nat} {i:TI} (h:TIok P t i):(isAgg t).run P w=.ok i.kd.agg w:=by
 obtain ⟨d,hd,hk⟩:=h.und
 unfold Go.isAgg
 simp only [Sem.run_bind,run_underlying hd,Result.andThen_ok]
 cases d <;> cases hi:i.kd <;> simp_all [KdR,TK.agg]
theorem TIok.typeInfo {t:Nat} {i:TI} (h:TIok P t i):∃ inf,(Go.typeInfo t).run P w=.ok inf w∧inf.size=i.size∧inf.bytes=i.bytes:=by
 obtain ⟨inf,z,h1,h2,h3,_⟩:=h.info
 exact ⟨inf,run_typeInfo w h1,h2,h3⟩
theorem TIok.sizeOf {t:Nat} {i:TI} (h:TIok P t i):(Go.sizeOf t).run P w=.ok i.size w:=by
 obtain ⟨inf,h1,h2,_⟩:=h.typeInfo (w:=w)
 unfold Go.sizeOf
 simp [Sem.run_bind,h1,h2]
theorem TIok.zeroValue {t:Nat} {i:TI} (h:TIok P t i):∃ z,(Go.zeroValue t).run P w=.ok z w∧z.cells.toList=i.zero∧(i.kd.agg=true→z=.agg i.zero.toArray):=by
 obtain ⟨inf,z,h1,_,_,h4,h5,h6⟩:=h.info
 refine ⟨z,?_,h5,h6⟩
 unfold Go.zeroValue
 simp [Sem.run_bind,run_typeInfo w h1,h4]
theorem TIok.slice {t e:Nat} {i:TI} (h:TIok P t i) (hk:i.kd=.slice e):P.underlying t=some (.slice e):=by
 obtain ⟨d,hd,hk'⟩:=h.und
 rw [hk] at hk'
 cases d <;> simp_all [KdR]
theorem TIok.arr {t n e:Nat} {i:TI} (h:TIok P t i) (hk:i.kd=.arr n e):P.underlying t=some (.array n e):=by
 obtain ⟨d,hd,hk'⟩:=h.und
 rw [hk] at hk'
 cases d <;> simp_all [KdR]
theorem TIok.str {t:Nat} {i:TI} (h:TIok P t i) (hk:i.kd=.str):P.underlying t=some .string:=by
 obtain ⟨d,hd,hk'⟩:=h.und
 rw [hk] at hk'
 cases d <;> simp_all [KdR]
theorem TIok.ptr {t:Nat} {i:TI} (h:TIok P t i) (hk:i.kd=.ptr):P.underlying t=some (.pointer (P.pointee t)):=by
 obtain ⟨d,hd,hr⟩:=h.und
 rw [hk] at hr
 cases d <;> simp_all [KdR,Program.pointee]
theorem TIok.bool {t:Nat} {i:TI} (h:TIok P t i) (hk:i.kd=.bool):P.underlying t=some .bool:=by
 obtain ⟨d,hd,hk'⟩:=h.und
 rw [hk] at hk'
 cases d <;> simp_all [KdR]
theorem TIok.int {t:Nat} {k:IntKind} {i:TI} (h:TIok P t i) (hk:i.kd=.int k):P.underlying t=some (.int k):=by
 obtain ⟨d,hd,hk'⟩:=h.und
 rw [hk] at hk'
 cases d <;> simp_all [KdR]
theorem TIok.struct {t:Nat} {fs:List (Nat × Nat)} {i:TI} (h:TIok P t i) (hk:i.kd=.struct fs):∃ l,P.underlying t=some (.struct l)∧l.toList.map (fun f=>(f.offset,f.type))=fs:=by
 obtain ⟨d,hd,hk'⟩:=h.und
 rw [hk] at hk'
 cases d <;> simp_all [KdR]
end
def rdRow (om:List Ob):D→Option (List D)
 | .pel row=>some row
 | .ref k off=>
  match om[k]? with
  | some (.var _ c)=>some (c.drop off)
  | some (.frv c)=>some (c.drop off)
  | _=>none
 | .rel k sz i j=>
  match om[k]? with
  | some (.slc _ sz' rows)=>if sz'=sz then (rows[i]?).map (·.drop j) else none
  | some (.frz sz' rows)=>if sz'=sz then (rows[i]?).map (·.drop j) else none
  | _=>none
 | _=>none
def RowAt (E:Env) (row:List D) (ad:Addr):Prop:=∀ (j:Nat) (d:D),row[j]? = some d→∃ u,E.w.cell? (ad.add j)=some u∧u.oneCell'=true∧Rd E d u
theorem add_mk (b o n:Nat):(⟨b,o,none⟩:Addr).add n=⟨b,o+n,none⟩:=by unfold Addr.add; split <;> simp_all
theorem add_add (a:Addr) (m n:Nat):(a.add m).add n=a.add (m+n):=by
 unfold Addr.add
 by_cases h1:m=0 <;> by_cases h2:n=0 <;> simp [h1,h2,Nat.add_assoc]
theorem add_block (a:Addr) (n:Nat):(a.add n).block=a.block:=by unfold Addr.add; split <;> rfl
theorem flatten_get {rows:List (List D)} {sz:Nat} (hs:∀ r∈rows,r.length=sz):∀ {i:Nat} {r:List D} {j:Nat} {d:D},rows[i]? = some r→r[j]? = some d→rows.flatten[i * sz+j]? = some d:=by
 induction rows with
 | nil=>intro i r j d h; simp at h
 | cons r0 rows ih=>
  intro i r j d h1 h2
  have h0:r0.length=sz:=hs r0 (by simp)
  cases i with
  | zero=>
   simp only [List.getElem?_cons_zero,Option.some.injEq] at h1
   subst h1
   have hj:=(List.getElem?_eq_some_iff.1 h2).1
   simp only [List.flatten_cons,Nat.zero_mul,zb]
   rw [List.getElem?_append_left hj]
   exact h2
  | succ i=>
   simp only [List.getElem?_cons_succ] at h1
   have:=ih (fun r hr=>hs r (by simp [hr])) h1 h2
   simp only [List.flatten_cons]
   rw [List.getElem?_append_right (by rw [h0,Nat.succ_mul]; omega)]
   rw [← this]
   congr 1
   rw [h0,Nat.succ_mul]
   omega
theorem cell_of_heap {w:World} {b:Nat} {cs:Array Value} {ty:TypeId} {fr:Nat × Nat} (h:w.heap[b]? = some (.cells cs ty fr)) (j:Nat):w.cell? ⟨b,j,none⟩=cs[j]?:=by
 simp [World.cell?,h]
theorem Rd.pel_inv {E:Env} {row:List D} {y:Value} (h:Rd E (.pel row) y):∃ ad,y=.pointer (some ad)∧E.A ad.block∧RowAt E row ad:=by
 cases h with
 | pel ad u hA hc hd=>exact ⟨ad,rfl,hA,fun j d hj=>⟨u j,(hc j d hj).1,(hc j d hj).2,hd j d hj⟩⟩
theorem Rd.pel_mk {E:Env} {row:List D} {ad:Addr} (hA:E.A ad.block) (h:RowAt E row ad):Rd E (.pel row) (.pointer (some ad)):=by
 refine .pel ad (fun j=>(E.w.cell? (ad.add j)).getD undef) hA (fun j d hj=>?_) (fun j d hj=>?_)
 ·obtain ⟨u,h1,h2,h3⟩:=h j d hj
  simp [h1,h2]
 ·obtain ⟨u,h1,h2,h3⟩:=h j d hj
  simpa [h1] using h3
theorem Rd.sl_inv {E:Env} {sz:Nat} {rows:List (List D)} {y:Value} (h:Rd E (.sl sz rows) y) :
  ∃ a cap,y=.slice a rows.length cap∧(∀ r∈rows,r.length=sz)∧rows.length≤cap∧cap≤maxLen ∧
   (rows=[]∨∃ ad,a=some ad∧E.A ad.block∧∀ i r,rows[i]? = some r→RowAt E r (ad.add (i * sz))):=by
 cases h with
 | sl ad u hr hl hm ha hc hd=>
  refine ⟨_,_,rfl,hr,hl,hm,ha.imp id fun h=>⟨ad,h.1,h.2,fun i r hi j d hj=>⟨u (i * sz+j),?_,(hc i r j d hi hj).2,hd i r j d hi hj⟩⟩⟩
  rw [add_add]
  exact (hc i r j d hi hj).1
theorem Rd.sl_mk {E:Env} {sz:Nat} {rows:List (List D)} {a:Option Addr} {cap n:Nat} (hn:n=rows.length) (hr:∀ r∈rows,r.length=sz) (hl:rows.length≤cap) (hm:cap≤maxLen)
  (h:rows=[]∨∃ ad,a=some ad∧E.A ad.block∧∀ i r,rows[i]? = some r→RowAt E r (ad.add (i * sz))):Rd E (.sl sz rows) (.slice a n cap):=by
 subst hn
 rcases h with h | ⟨ad,ha,hA,h⟩
 ·subst h
  exact .sl ⟨0,0,none⟩ (fun _=>undef) hr hl hm (.inl rfl) (by simp) (by simp)
 ·refine .sl ad (fun n=>(E.w.cell? (ad.add n)).getD undef) hr hl hm (.inr ⟨ha,hA⟩) (fun i r j d hi hj=>?_) (fun i r j d hi hj=>?_)
  ·obtain ⟨u,h1,h2,h3⟩:=h i r hi j d hj
   rw [add_add] at h1
   simp [h1,h2]
  ·obtain ⟨u,h1,h2,h3⟩:=h i r hi j d hj
   rw [add_add] at h1
   simpa [h1] using h3
theorem RowAt.drop {E:Env} {row:List D} {ad:Addr} (h:RowAt E row ad) (n:Nat):RowAt E (row.drop n) (ad.add n):=by
 intro j d hj
 rw [za] at hj
 obtain ⟨u,h1,h2⟩:=h _ d hj
 exact ⟨u,by rw [add_add]; exact h1,h2⟩
theorem rdRow_ok {E:Env} {om:List Ob} (hR:Rel E om) {d:D} {row:List D} {y:Value} (h:rdRow om d=some row) (hd:Rd E d y):∃ ad,y=.pointer (some ad)∧RowAt E row ad:=by
 cases hd with
 | pel ad u hA hc hd=>
  simp only [rdRow,Option.some.injEq] at h
  subst h
  exact ⟨ad,rfl,fun j d hj=>⟨u j,(hc j d hj).1,(hc j d hj).2,hd j d hj⟩⟩
 | ref hk hg=>
  rename_i k off b
  simp only [rdRow] at h
  refine ⟨_,rfl,?_⟩
  cases ho:om[k]? with
  | none=>simp [ho] at h
  | some o=>
   have hob:=hR.ob k o ho
   cases o with
   | var ty c=>
    simp only [ho,Option.some.injEq] at h
    subst h
    obtain ⟨b',cs,h1,h2,h3,h4,h5⟩:=hob
    rw [h1] at hg
    simp only [hb,Option.some.injEq] at hg
    subst hg
    intro j d hj
    rw [za] at hj
    obtain ⟨y,e1,e2,e3⟩:=h5 _ d hj
    exact ⟨y,by rw [add_mk,cell_of_heap h2]; exact e1,e2,e3⟩
   | frv c=>
    simp only [ho,Option.some.injEq] at h
    subst h
    obtain ⟨h1,b',h2⟩:=hob
    rw [h2] at hg h1
    simp only [hb,Option.some.injEq] at hg
    subst hg
    obtain ⟨ad,e,_,h3⟩:=h1.pel_inv
    injection e with e
    injection e with e
    subst e
    have:=h3.drop off
    rwa [add_mk,zb] at this
   | _=>simp [ho] at h
 | rel hk hg=>
  rename_i k sz i j b
  simp only [rdRow] at h
  refine ⟨_,rfl,?_⟩
  cases ho:om[k]? with
  | none=>simp [ho] at h
  | some o=>
   have hob:=hR.ob k o ho
   cases o with
   | slc ty sz' rows=>
    simp only [ho] at h
    split at h
    ·rename_i hsz
     subst hsz
     simp only [Option.map_eq_some_iff] at h
     obtain ⟨r,hr,rfl⟩:=h
     obtain ⟨_,hs,h1 | ⟨b',cs,cap,h1,h2,h3,h4,h5,h6,h7⟩⟩:=hob
     ·rw [h1.2] at hr; simp at hr
     ·rw [h1] at hg
      simp only [hb,Option.some.injEq] at hg
      subst hg
      intro jj d hj
      rw [za] at hj
      obtain ⟨y,e1,e2,e3⟩:=h7 _ d (flatten_get hs hr hj)
      exact ⟨y,by rw [add_mk,cell_of_heap h2,Nat.add_assoc]; exact e1,e2,e3⟩
    ·simp at h
   | frz sz' rows=>
    simp only [ho] at h
    split at h
    ·rename_i hsz
     subst hsz
     simp only [Option.map_eq_some_iff] at h
     obtain ⟨r,hr,rfl⟩:=h
     obtain ⟨h1,h2⟩:=hob
     rcases h2 with h2 | ⟨b',cap,h2⟩
     ·rw [h2] at hr; simp at hr
     ·rw [h2] at hg h1
      simp only [hb,Option.some.injEq] at hg
      subst hg
      obtain ⟨a,cap',e,hs,_,_,h3⟩:=h1.sl_inv
      rcases h3 with h3 | ⟨ad,e1,_,h3⟩
      ·rw [h3] at hr; simp at hr
      ·injection e with e _ _
       rw [e1] at e
       injection e with e
       subst e
       have:=(h3 i r hr).drop j
       rwa [add_mk,add_mk,zb] at this
    ·simp at h
   | _=>simp [ho] at h
 | v x=>simp [rdRow] at h
 | any y=>simp [rdRow] at h
 | nt n=>simp [rdRow] at h
 | sl=>simp [rdRow] at h
 | agg=>simp [rdRow] at h
 | tup=>simp [rdRow] at h
 | own=>simp [rdRow] at h
 | fn=>simp [rdRow] at h
 | ifc=>simp [rdRow] at h
 | yld=>simp [rdRow] at h
 | bm=>simp [rdRow] at h
end Go.Proofs.YtbmedfjmccnclaaGreat.AWP
namespace Go.Proofs.YtbmedfjmccnclaaGreat.AWP
open Go
open _root_.Option renaming map_eq_some_iff → za
open _root_.List renaming length_take → zb
open _root_.Array renaming getD → zc
section
variable {P:Program} {T:Tab} {E:Env} {om:List Ob}
def qLoad (T:Tab) (om:List Ob) (ty:Nat) (x:D):Option D:=
 match T ty with
 | none=>none
 | some i=>
  match rdRow om x with
  | none=>none
  | some row=>if i.kd.agg then (if i.size≤row.length then some (.agg (row.take i.size)) else none) else row[0]?
theorem loadVar_ok {ty:Nat} {i:TI} (hi:TIok P ty i) {row:List D} {ad:Addr} (h:RowAt E row ad) {d:D}
  (hd:(if i.kd.agg then (if i.size≤row.length then some (.agg (row.take i.size)) else none) else row[0]?)=some d) :
  ∃ z,(loadVar ty ad).run P E.w=.ok z E.w∧Rd E d z:=by
 unfold loadVar
 simp only [Sem.run_bind,hi.isAgg,Result.andThen_ok]
 cases hk:i.kd.agg with
 | true=>
  simp only [hk,if_true] at hd
  split at hd
  ·rename_i hl
   simp only [Option.some.injEq] at hd
   subst hd
   have hj:∀ j,j<i.size→∃ dd,row[j]? = some dd:=fun j hj=>⟨row[j]'(by omega),List.getElem?_eq_getElem (by omega)⟩
   have hf:∀ j,j<i.size→E.w.cell? (ad.add j)=some ((E.w.cell? (ad.add j)).getD undef):=by
    intro j hj'
    obtain ⟨dd,hdd⟩:=hj j hj'
    obtain ⟨u,h1,_⟩:=h j dd hdd
    simp [h1]
   have:=run_loadCells (P:=P) E.w ad i.size (fun j=>(E.w.cell? (ad.add j)).getD undef) hf
   refine ⟨.agg ((List.range i.size).map fun j=>(E.w.cell? (ad.add j)).getD undef).toArray,?_,?_⟩
   ·simp only [if_true,Sem.run_bind,hi.sizeOf,Result.andThen_ok,this,Sem.run_pure]
   ·refine .agg _ (by simp [zb]; omega) (fun j hj'=>?_) (fun j dd hdd=>?_)
    ·have hlt:j<i.size:=by simpa using hj'
     obtain ⟨dd,hdd⟩:=hj j hlt
     obtain ⟨u,h1,h2,_⟩:=h j dd hdd
     simp [zc,hlt,h1,h2]
    ·have hlt:j<i.size:=by
      have:=(List.getElem?_eq_some_iff.1 hdd).1
      simp only [zb] at this
      omega
     rw [List.getElem?_take_of_lt hlt] at hdd
     obtain ⟨u,h1,h2,h3⟩:=h j dd hdd
     simpa [zc,hlt,h1] using h3
  ·simp at hd
 | false=>
  simp only [hk,Bool.false_eq_true,if_false] at hd
  obtain ⟨u,h1,h2,h3⟩:=h 0 d hd
  refine ⟨u,?_,h3⟩
  have:ad.add 0=ad:=by simp [Addr.add]
  rw [this] at h1
  simp [h1]
theorem qLoad_ok (hT:TabOk P T) (hR:Rel E om) {ty:Nat} {x d:D} {y:Value} (h:qLoad T om ty x=some d) (hx:Rd E x y) :
  ∃ z,(Instr.loadAt ty y).run P E.w=.ok z E.w∧Rd E d z:=by
 unfold qLoad at h
 cases ht:T ty with
 | none=>simp [ht] at h
 | some i=>
  cases hr:rdRow om x with
  | none=>simp [ht,hr] at h
  | some row=>
   simp only [ht,hr] at h
   obtain ⟨ad,rfl,hrow⟩:=rdRow_ok hR hr hx
   obtain ⟨z,h1,h2⟩:=loadVar_ok (hT _ _ ht) hrow h
   exact ⟨z,by simp [Instr.loadAt,Instr.sureAddr,h1],h2⟩
def shiftPtr:D→Nat→Option D
 | .pel row,n=>some (.pel (row.drop n))
 | .ref k off,n=>some (.ref k (off+n))
 | .rel k sz i j,n=>some (.rel k sz i (j+n))
 | _,_=>none
theorem shiftPtr_ok {x d:D} {y:Value} {n:Nat} (h:shiftPtr x n=some d) (hx:Rd E x y):∃ ad,y=.pointer (some ad)∧Rd E d (.pointer (some (ad.add n))):=by
 cases x <;> simp only [shiftPtr,Option.some.injEq,reduceCtorEq] at h
 ·subst h
  obtain ⟨ad,rfl,hA,hrow⟩:=hx.pel_inv
  exact ⟨ad,rfl,Rd.pel_mk (by rw [add_block]; exact hA) (hrow.drop n)⟩
 ·subst h
  cases hx with
  | ref hk hg=>exact ⟨_,rfl,by rw [add_mk]; exact .ref hk hg⟩
 ·subst h
  cases hx with
  | rel hk hg=>exact ⟨_,rfl,by rw [add_mk,Nat.add_assoc]; exact .rel hk hg⟩
def qFieldAddr (T:Tab) (t:Nat) (x:D) (f:Nat):Option D:=
 match T t with
 | some ⟨.struct fs,_,_,_⟩=>
  match fs[f]? with
  | some (off,ft)=>
   match T ft with
   | some fi=>if fi.size=0 then none else shiftPtr x off
   | none=>none
  | none=>none
 | _=>none
theorem qFieldAddr_ok (hT:TabOk P T) {t f:Nat} {x d:D} {y:Value} (h:qFieldAddr T t x f=some d) (hx:Rd E x y) :
  ∃ z,(Instr.fieldAt t y f).run P E.w=.ok z E.w∧Rd E d z:=by
 unfold qFieldAddr at h
 split at h
 ·rename_i fs _ _ _ ht
  obtain ⟨l,hu,hl⟩:=(hT _ _ ht).struct rfl
  split at h
  ·rename_i off ft hf
   split at h
   ·rename_i fi hft
    split at h
    ·simp at h
    ·rename_i hsz
     obtain ⟨ad,rfl,hd⟩:=shiftPtr_ok h hx
     rw [← hl] at hf
     simp only [List.getElem?_map,za,Array.getElem?_toList,Prod.mk.injEq] at hf
     obtain ⟨fd,hfd,rfl,rfl⟩:=hf
     refine ⟨_,?_,hd⟩
     unfold Instr.fieldAt fieldPlace
     simp [run_underlying hu,hfd,Instr.sureAddr,(hT _ _ hft).sizeOf,hsz]
   ·simp at h
  ·simp at h
 ·simp at h
def qIndexAddr (T:Tab) (om:List Ob) (t:Nat) (x i:D):Option D:=
 match i with
 | .v (.int _ n)=>
  match T t with
  | some ⟨.slice e,_,_,_⟩=>
   match T e with
   | some ei=>
    match x with
    | .sl sz rows=>if sz=ei.size∧0≤n then (rows[n.toNat]?).map .pel else none
    | .own k=>
     match om[k]? with
     | some (.slc _ sz rows)=>if sz=ei.size∧0≤n then (rows[n.toNat]?).map fun _=>.rel k sz n.toNat 0 else none
     | some (.frz sz rows)=>if sz=ei.size∧0≤n then (rows[n.toNat]?).map fun _=>.rel k sz n.toNat 0 else none
     | _=>none
    | _=>none
   | none=>none
  | some ⟨.arr len e,_,_,_⟩=>
   match T e with
   | some ei=>if 0≤n∧n<len then shiftPtr x (n.toNat * ei.size) else none
   | none=>none
  | _=>none
 | _=>none
theorem qIndexAddr_ok (hT:TabOk P T) (hR:Rel E om) {t:Nat} {x i d:D} {y yi:Value} (h:qIndexAddr T om t x i=some d) (hx:Rd E x y) (hi:Rd E i yi) :
  ∃ z,(Instr.indexAt t y yi).run P E.w=.ok z E.w∧Rd E d z:=by
 unfold qIndexAddr at h
 split at h
 ·rename_i kk n
  cases hi.v_inv
  split at h
  ·rename_i e _ _ _ ht
   have hu:=(hT _ _ ht).slice rfl
   have hel:P.elem t=e:=by simp [Program.elem,hu]
   have hu':P.underlying t=some (.slice (P.elem t)):=by rw [hel]; exact hu
   split at h
   ·rename_i ei he
    split at h
    ·rename_i sz rows
     split at h
     ·rename_i hc
      obtain ⟨hsz,h0⟩:=hc
      simp only [za] at h
      obtain ⟨r,hr,rfl⟩:=h
      have hlt:=(List.getElem?_eq_some_iff.1 hr).1
      obtain ⟨a,cap,rfl,hs,hl,hm,h3⟩:=hx.sl_inv
      rcases h3 with h3 | ⟨ad,rfl,hA,h3⟩
      ·subst h3; simp at hr
      ·refine ⟨.pointer (some (ad.add (n.toNat * ei.size))),?_,?_⟩
       ·rw [run_indexAt_slice E.w t ad _ cap kk n hu',if_pos ⟨h0,by omega⟩,hel,(hT _ _ he).sizeOf]
        rfl
       ·rw [← hsz]
        exact Rd.pel_mk (by rw [add_block]; exact hA) (h3 _ _ hr)
     ·simp at h
    ·rename_i k
     have key:∀ (sz:Nat) (rows:List (List D)),(sz=ei.size∧0≤n)→(rows[n.toNat]?).map (fun _=>D.rel k sz n.toNat 0)=some d→(rows=[]∨∃ b cap,E.g k=.slice (some ⟨b,0,none⟩) rows.length cap) →
       ∃ z,(Instr.indexAt t y (.int kk n)).run P E.w=.ok z E.w∧Rd E d z:=by
      intro sz rows hc hrow hg
      simp only [za] at hrow
      obtain ⟨r,hr,rfl⟩:=hrow
      have hlt:=(List.getElem?_eq_some_iff.1 hr).1
      rcases hg with hg | ⟨b,cap,hg⟩
      ·subst hg; simp at hr
      ·cases hx with
       | own hk=>
        refine ⟨.pointer (some ((⟨b,0,none⟩:Addr).add (n.toNat * ei.size))),?_,?_⟩
        ·rw [hg,run_indexAt_slice E.w t _ _ cap kk n hu',if_pos ⟨hc.2,by omega⟩,hel,(hT _ _ he).sizeOf]
         rfl
        ·rw [add_mk,Nat.zero_add,← hc.1]
         exact .rel hk (by rw [hg]; rfl)
     split at h
     ·rename_i ty sz rows ho
      split at h
      ·rename_i hc
       obtain ⟨_,_,h1⟩:=hR.ob k _ ho
       exact key sz rows hc h (h1.imp And.right fun ⟨b,cs,cap,h2,_⟩=>⟨b,cap,h2⟩)
      ·simp at h
     ·rename_i sz rows ho
      split at h
      ·rename_i hc
       exact key sz rows hc h (hR.ob k _ ho).2
      ·simp at h
     ·simp at h
    ·simp at h
   ·simp at h
  ·rename_i len e _ _ _ ht
   have hu:=(hT _ _ ht).arr rfl
   have hel:P.elem t=e:=by simp [Program.elem,hu]
   have hal:P.arrayLen t=len:=by simp [Program.arrayLen,hu]
   have hu':P.underlying t=some (.array (P.arrayLen t) (P.elem t)):=by rw [hel,hal]; exact hu
   split at h
   ·rename_i ei he
    split at h
    ·rename_i hc
     obtain ⟨ad,rfl,hd⟩:=shiftPtr_ok h hx
     refine ⟨_,?_,hd⟩
     rw [run_indexAt_array E.w t ad kk n hu',if_pos (by rw [hal]; exact hc),hel,(hT _ _ he).sizeOf]
     rfl
    ·simp at h
   ·simp at h
  ·simp at h
 ·simp at h
theorem part_ok (hT:TabOk P T) {t:Nat} {i:TI} (hi:T t=some i) {c:List D} {vs:Array Value} {off:Nat} {d:D}
  (hs:vs.size=c.length) (h1:∀ j,j<vs.size→(vs.getD j undef).oneCell'=true) (hd:∀ (j:Nat) (d:D),c[j]? = some d→Rd E d (vs.getD j undef))
  (h:(if i.kd.agg then (if off+i.size≤c.length then some (.agg ((c.drop off).take i.size)) else none) else c[off]?)=some d) :
  ∃ z,(part t vs off).run P E.w=.ok z E.w∧Rd E d z:=by
 unfold part
 simp only [Sem.run_bind,(hT _ _ hi).isAgg,Result.andThen_ok]
 cases hk:i.kd.agg with
 | true=>
  simp only [hk,if_true] at h
  split at h
  ·rename_i hl
   simp only [Option.some.injEq] at h
   subst h
   refine ⟨.agg (vs.extract off (off+i.size)),by simp [(hT _ _ hi).sizeOf],?_⟩
   have hget:∀ j,j<i.size→(vs.extract off (off+i.size)).getD j undef=vs.getD (off+j) undef:=by
    intro j hj
    have h2:j<(vs.extract off (off+i.size)).size:=by simp; omega
    have h3:off+j<vs.size:=by omega
    simp only [zc,h2,h3,dif_pos,dite_true]
    simp [h3]
   refine .agg _ (by simp [zb,List.length_drop]; omega) (fun j hj=>?_) (fun j dd hdd=>?_)
   ·have hj':j<i.size:=by simp at hj; omega
    rw [hget j hj']
    exact h1 _ (by omega)
   ·have hj':j<i.size:=by
     have:=(List.getElem?_eq_some_iff.1 hdd).1
     simp only [zb] at this
     omega
    rw [List.getElem?_take_of_lt hj',List.getElem?_drop] at hdd
    rw [hget j hj']
    exact hd _ _ hdd
  ·simp at h
 | false=>
  simp only [hk,Bool.false_eq_true,if_false] at h
  have hlt:=(List.getElem?_eq_some_iff.1 h).1
  have hlt':off<vs.size:=by omega
  refine ⟨vs[off],by simp [hlt'],?_⟩
  have:=hd _ _ h
  simpa [zc,hlt'] using this
def qField (T:Tab) (t:Nat) (x:D) (f:Nat):Option D:=
 match T t,x with
 | some ⟨.struct fs,_,_,_⟩,.agg c=>
  match fs[f]? with
  | some (off,ft)=>
   match T ft with
   | some i=>if i.kd.agg then (if off+i.size≤c.length then some (.agg ((c.drop off).take i.size)) else none) else c[off]?
   | none=>none
  | none=>none
 | _,_=>none
theorem Rd.agg_inv {c:List D} {y:Value} (h:Rd E (.agg c) y):∃ vs:Array Value,y=.agg vs∧vs.size=c.length∧(∀ j,j<vs.size→(vs.getD j undef).oneCell'=true)∧∀ (j:Nat) (d:D),c[j]? = some d→Rd E d (vs.getD j undef):=by
 cases h with
 | agg vs hs h1 hd=>exact ⟨vs,rfl,hs,h1,hd⟩
theorem qField_ok (hT:TabOk P T) {t f:Nat} {x d:D} {y:Value} (h:qField T t x f=some d) (hx:Rd E x y) :
  ∃ z,(Instr.field t y f).run P E.w=.ok z E.w∧Rd E d z:=by
 unfold qField at h
 split at h
 ·rename_i fs _ _ _ c ht
  obtain ⟨l,hu,hl⟩:=(hT _ _ ht).struct rfl
  obtain ⟨vs,rfl,hs,h1,hd⟩:=hx.agg_inv
  split at h
  ·rename_i off ft hf
   split at h
   ·rename_i i hft
    rw [← hl] at hf
    simp only [List.getElem?_map,za,Array.getElem?_toList,Prod.mk.injEq] at hf
    obtain ⟨fd,hfd,rfl,rfl⟩:=hf
    obtain ⟨z,h2,h3⟩:=part_ok hT hft hs h1 hd h
    exact ⟨z,by simp [Instr.field,run_underlying hu,hfd,asAgg,h2],h3⟩
   ·simp at h
  ·simp at h
 ·simp at h
def qIndex (T:Tab) (t:Nat) (x i:D):Option D:=
 match i with
 | .v (.int _ n)=>
  match T t,x with
  | some ⟨.str,_,_,_⟩,.v (.string s)=>if 0≤n then (s.data[n.toNat]?).map fun b=>.v (.int .u8 b.toNat) else none
  | some ⟨.arr len e,_,_,_⟩,.agg c=>
   match T e with
   | some ei=>if 0≤n∧n<len then (if ei.kd.agg then (if n.toNat * ei.size+ei.size≤c.length then some (.agg ((c.drop (n.toNat * ei.size)).take ei.size)) else none) else c[n.toNat * ei.size]?) else none
   | none=>none
  | _,_=>none
 | _=>none
theorem qIndex_ok (hT:TabOk P T) {t:Nat} {x i d:D} {y yi:Value} (h:qIndex T t x i=some d) (hx:Rd E x y) (hi:Rd E i yi) :
  ∃ z,(Instr.index t y yi).run P E.w=.ok z E.w∧Rd E d z:=by
 unfold qIndex at h
 split at h
 ·rename_i kk n
  cases hi.v_inv
  split at h
  ·rename_i s ht
   cases hx.v_inv
   split at h
   ·rename_i h0
    simp only [za] at h
    obtain ⟨b,hb,rfl⟩:=h
    refine ⟨.int .u8 b.toNat,?_,.v _⟩
    have hlt:=(Array.getElem?_eq_some_iff.1 hb).1
    have hg:s[n.toNat]? = some b:=by
     have:n.toNat<s.size:=hlt
     rw [getElem?_pos s n.toNat this]
     rw [Array.getElem?_eq_getElem hlt] at hb
     exact hb
    simp [Instr.index,asIntOf,run_underlying ((hT _ _ ht).str rfl),h0,hg]
   ·simp at h
  ·rename_i len e _ _ _ c ht
   obtain ⟨vs,rfl,hs,h1,hd⟩:=hx.agg_inv
   split at h
   ·rename_i ei he
    split at h
    ·rename_i hc
     obtain ⟨z,h2,h3⟩:=part_ok hT he hs h1 hd h
     exact ⟨z,by simp [Instr.index,asIntOf,run_underlying ((hT _ _ ht).arr rfl),hc,(hT _ _ he).sizeOf,h2],h3⟩
    ·simp at h
   ·simp at h
  ·simp at h
 ·simp at h
def qLen (T:Tab) (om:List Ob) (t:Nat) (x:D):Option D:=
 match T t with
 | some ⟨.str,_,_,_⟩=>
  match x with
  | .v (.string s)=>some (.v (.int .i64 s.size))
  | _=>none
 | some ⟨.arr n _,_,_,_⟩=>some (.v (.int .i64 n))
 | some ⟨.slice _,_,_,_⟩=>
  match x with
  | .v (.slice _ n _)=>some (.v (.int .i64 n))
  | .sl _ rows=>some (.v (.int .i64 rows.length))
  | .own k=>
   match om[k]? with
   | some (.slc _ _ rows)=>some (.v (.int .i64 rows.length))
   | some (.frz _ rows)=>some (.v (.int .i64 rows.length))
   | _=>none
  | _=>none
 | _=>none
end
end Go.Proofs.YtbmedfjmccnclaaGreat.AWP
namespace Go.Proofs.YtbmedfjmccnclaaGreat.AWP
open Go
section
variable {P:Program} {T:Tab} {E:Env} {om:List Ob}
def rs (om:List Ob):D→D
 | .own k=>
  match om[k]? with
  | some (.frz sz rows)=>.sl sz rows
  | _=>.own k
 | d=>d
theorem Rd.rs (hR:Rel E om) {d:D} {y:Value} (h:Rd E d y):Rd E (rs om d) y:=by
 cases d with
 | own k=>
  simp only [AWP.rs]
  split
  ·rename_i sz rows ho
   cases h with
   | own hk=>exact (hR.ob k _ ho).1
  ·exact h
 | _=>exact h
theorem qLen_ok (hT:TabOk P T) (hR:Rel E om) {t ty:Nat} {x d:D} {y:Value} (h:qLen T om t x=some d) (hx:Rd E x y) :
  ∃ z,(Builtin.len_ #[t] ty #[y]).run P E.w=.ok z E.w∧Rd E d z:=by
 unfold qLen at h
 split at h
 ·rename_i ht
  split at h
  ·cases hx.v_inv
   simp only [Option.some.injEq] at h
   subst h
   exact ⟨_,by simp [Builtin.len_,run_underlying ((hT _ _ ht).str rfl),goInt],.v _⟩
  ·simp at h
 ·rename_i n _ _ _ _ ht
  simp only [Option.some.injEq] at h
  subst h
  exact ⟨_,by simp [Builtin.len_,run_underlying ((hT _ _ ht).arr rfl),goInt],.v _⟩
 ·rename_i e _ _ _ ht
  have hsl:∀ a n c,y=.slice a n c→(Builtin.len_ #[t] ty #[y]).run P E.w=.ok (.int .i64 n) E.w:=by
   intro a n c hy
   rw [hy]
   simp [Builtin.len_,run_underlying ((hT _ _ ht).slice rfl),goInt]
  split at h
  ·cases hx.v_inv
   simp only [Option.some.injEq] at h
   subst h
   exact ⟨_,hsl _ _ _ rfl,.v _⟩
  ·simp only [Option.some.injEq] at h
   subst h
   obtain ⟨a,cap,rfl,_⟩:=hx.sl_inv
   exact ⟨_,hsl _ _ _ rfl,.v _⟩
  ·rename_i k
   cases hx with
   | own hk'=>
    split at h
    ·rename_i ho
     simp only [Option.some.injEq] at h
     subst h
     obtain ⟨_,_,h1 | ⟨b,cs,cap,h1,_⟩⟩:=hR.ob k _ ho
     ·rw [h1.2]
      exact ⟨_,hsl _ _ _ h1.1,.v _⟩
     ·exact ⟨_,hsl _ _ _ h1,.v _⟩
    ·rename_i ho
     simp only [Option.some.injEq] at h
     subst h
     obtain ⟨h1,_⟩:=hR.ob k _ ho
     obtain ⟨a,cap,h2,_⟩:=h1.sl_inv
     exact ⟨_,hsl _ _ _ h2,.v _⟩
    ·simp at h
  ·simp at h
 ·simp at h
def nat?:Option D→Nat→Option Nat
 | none,n=>some n
 | some (.v (.int _ n)),_=>if 0≤n then some n.toNat else none
 | _,_=>none
def qSlice (T:Tab) (om:List Ob) (t:Nat) (x:D) (lo hi:Option D):Option D:=
 match T t with
 | some ⟨.str,_,_,_⟩=>
  match x with
  | .v (.string s)=>
   match nat? lo 0,nat? hi s.size with
   | some l,some h=>if l≤h∧h≤s.size then some (.v (.string (s.extract l h))) else none
   | _,_=>none
  | _=>none
 | some ⟨.slice e,_,_,_⟩=>
  match T e with
  | some ei=>
   match rs om x with
   | .sl sz rows=>
    match nat? lo 0,nat? hi rows.length with
    | some l,some h=>if sz=ei.size∧l≤h∧h≤rows.length then some (.sl sz ((rows.take h).drop l)) else none
    | _,_=>none
   | _=>none
  | none=>none
 | some ⟨.arr n e,_,_,_⟩=>
  match T e with
  | some ei=>
   match x,lo,hi with
   | .pel row,none,none=>if ei.size=1∧n=row.length∧n≤1000000 then some (.sl 1 (row.map fun d=>[d])) else none
   | .ref k 0,none,none=>
    match om[k]? with
    | some (.frv row)=>if ei.size=1∧n=row.length∧n≤1000000 then some (.sl 1 (row.map fun d=>[d])) else none
    | _=>none
   | _,_,_=>none
  | none=>none
 | _=>none
theorem bounds_ok {w:World} {isSl:Bool} {len cap:Nat} {lo hi:Option D} {ylo yhi:Option Value} {l h:Nat}
  (hlo:nat? lo 0=some l) (hhi:nat? hi len=some h) (h1:∀ d,lo=some d→∃ v,ylo=some v∧Rd E d v) (h1':lo=none→ylo=none)
  (h2:∀ d,hi=some d→∃ v,yhi=some v∧Rd E d v) (h2':hi=none→yhi=none) (hle:l≤h) (hc:h≤cap) (hlc:len≤cap) :
  (Instr.sliceBounds isSl len cap ylo yhi none).run P w=.ok (l,h,cap) w:=by
 have hb:∀ (d:D) (v:Value) (y m:Nat) (n:Nat) (code:BoundsCode),nat? (some d) m=some n→Rd E d v→n≤y→(Instr.sliceBound v y code).run P w=.ok n w:=by
  intro d v y m n code hn hd hle
  cases d with
  | v x=>
   have:=hd.v_inv
   subst this
   cases v with
   | int k q=>
    simp only [nat?] at hn
    split at hn
    ·rename_i h0
     simp only [Option.some.injEq] at hn
     subst hn
     exact (run_sliceBound w k q y code h0 (by omega))
    ·simp at hn
   | _=>simp [nat?] at hn
  | _=>simp [nat?] at hn
 unfold Instr.sliceBounds
 have e2:yhi=none∧h=len∨∃ d v,hi=some d∧yhi=some v∧Rd E d v:=by
  cases hi with
  | none=>exact .inl ⟨h2' rfl,by simpa [nat?] using hhi.symm⟩
  | some d=>
   obtain ⟨v,e,r⟩:=h2 d rfl
   exact .inr ⟨d,v,rfl,e,r⟩
 have e1:ylo=none∧l=0∨∃ d v,lo=some d∧ylo=some v∧Rd E d v:=by
  cases lo with
  | none=>exact .inl ⟨h1' rfl,by simpa [nat?] using hlo.symm⟩
  | some d=>
   obtain ⟨v,e,r⟩:=h1 d rfl
   exact .inr ⟨d,v,rfl,e,r⟩
 rcases e2 with ⟨rfl,rfl⟩ | ⟨d2,v2,rfl,rfl,r2⟩ <;> rcases e1 with ⟨rfl,rfl⟩ | ⟨d1,v1,rfl,rfl,r1⟩
 ·simp
 ·simp [hb d1 v1 _ _ _ _ hlo r1 hle]
 ·simp [hb d2 v2 _ _ _ _ hhi r2 hc]
 ·simp [hb d2 v2 _ _ _ _ hhi r2 hc,hb d1 v1 _ _ _ _ hlo r1 hle]
end
end Go.Proofs.YtbmedfjmccnclaaGreat.AWP
namespace Go.Proofs.YtbmedfjmccnclaaGreat.AWP
open Go
open _root_.List renaming length_drop → za, length_take → zb
section
variable {P:Program} {T:Tab} {E:Env} {om:List Ob}
theorem slArr_ok {row:List D} {ad:Addr} {n:Nat} (hA:E.A ad.block) (h:RowAt E row ad) (hn:n=row.length) (hm:n≤1000000):Rd E (.sl 1 (row.map fun d=>[d])) (.slice (some ad) n n):=by
 refine Rd.sl_mk (by simp [hn]) (by simp) (by simp [hn]) (by simp [maxLen]; omega) (.inr ⟨ad,rfl,hA,fun i r hr=>?_⟩)
 simp only [List.getElem?_map,Option.map_eq_some_iff] at hr
 obtain ⟨d,hd,rfl⟩:=hr
 intro j d' hj
 cases j with
 | zero=>
  simp only [List.getElem?_cons_zero,Option.some.injEq] at hj
  subst hj
  rw [add_add,Nat.mul_one,Nat.add_zero]
  exact h i d hd
 | succ j=>simp at hj
theorem qSlice_ok (hT:TabOk P T) (hR:Rel E om) {t:Nat} {x d:D} {y:Value} {lo hi:Option D} {ylo yhi:Option Value} (h:qSlice T om t x lo hi=some d) (hx:Rd E x y)
  (h1:∀ d,lo=some d→∃ v,ylo=some v∧Rd E d v) (h1':lo=none→ylo=none)
  (h2:∀ d,hi=some d→∃ v,yhi=some v∧Rd E d v) (h2':hi=none→yhi=none) :
  ∃ z,(Instr.sliceAt t y ylo yhi none).run P E.w=.ok z E.w∧Rd E d z:=by
 unfold qSlice at h
 split at h
 ·rename_i ht
  have hu:=(hT _ _ ht).str rfl
  split at h
  ·rename_i s
   cases hx.v_inv
   split at h
   ·rename_i l hh hl hhi
    split at h
    ·rename_i hc
     simp only [Option.some.injEq] at h
     subst h
     refine ⟨_,?_,.v _⟩
     unfold Instr.sliceAt
     simp only [Sem.run_bind,run_underlying hu,Result.andThen_ok]
     unfold Instr.slice
     simp only [Sem.run_bind,run_underlying hu,Result.andThen_ok]
     simp [bounds_ok (P:=P) (w:=E.w) (isSl:=false) hl hhi h1 h1' h2 h2' hc.1 hc.2 (Nat.le_refl _)]
    ·simp at h
   ·simp at h
  ·simp at h
 ·rename_i e _ _ _ ht
  have hu:=(hT _ _ ht).slice rfl
  split at h
  ·rename_i ei he
   have hx':=hx.rs hR
   split at h
   ·rename_i sz rows hrs
    rw [hrs] at hx'
    split at h
    ·rename_i l hh hl hhi
     split at h
     ·rename_i hc
      obtain ⟨hsz,hle,hlen⟩:=hc
      simp only [Option.some.injEq] at h
      subst h
      obtain ⟨a,cap,rfl,hs,hcap,hm,h3⟩:=hx'.sl_inv
      have hrun:(Instr.sliceAt t (.slice a rows.length cap) ylo yhi none).run P E.w=.ok (.slice (if cap=l then a else a.map (·.add (l * ei.size))) (hh - l) (cap - l)) E.w:=by
       unfold Instr.sliceAt
       simp only [Sem.run_bind,run_underlying hu,Result.andThen_ok]
       unfold Instr.slice
       simp only [Sem.run_bind,run_underlying hu,Result.andThen_ok,bounds_ok (P:=P) (w:=E.w) (isSl:=true) hl hhi h1 h1' h2 h2' hle (Nat.le_trans hlen hcap) hcap,(hT _ _ he).sizeOf,Sem.run_pure]
      refine ⟨_,hrun,?_⟩
      refine Rd.sl_mk (by simp [za,zb]; omega) (fun r hr=>hs r (List.mem_of_mem_take (List.mem_of_mem_drop hr))) (by simp [za,zb]; omega) (by omega) ?_
      rcases h3 with h3 | ⟨ad,rfl,hA,h3⟩
      ·subst h3; exact .inl (by simp)
      ·by_cases hcl:cap=l
       ·refine .inl ?_
        apply List.eq_nil_of_length_eq_zero
        simp [za,zb]
        omega
       ·refine .inr ⟨ad.add (l * ei.size),by simp [hcl],by rw [add_block]; exact hA,fun i r hr=>?_⟩
        rw [List.getElem?_drop,List.getElem?_take] at hr
        split at hr
        ·have:=h3 _ _ hr
         rw [add_add,← hsz,← Nat.add_mul]
         exact this
        ·simp at hr
     ·simp at h
    ·simp at h
   ·simp at h
  ·simp at h
 ·rename_i n e _ _ _ ht
  have hu:=(hT _ _ ht).arr rfl
  have hel:P.elem t=e:=by simp [Program.elem,hu]
  have hal:P.arrayLen t=n:=by simp [Program.arrayLen,hu]
  split at h
  ·rename_i ei he
   have hrun:∀ (ad:Addr),ylo=none→yhi=none→(Instr.sliceAt t (.pointer (some ad)) ylo yhi none).run P E.w=.ok (.slice (some ad) n n) E.w:=by
    intro ad e1 e2
    subst e1 e2
    unfold Instr.sliceAt
    simp only [Sem.run_bind,run_underlying hu,Result.andThen_ok]
    have:ad.add (0 * ei.size)=ad:=by simp [Addr.add]
    simp [Instr.sureAddr,Instr.sliceBounds,(hT _ _ he).sizeOf]
    intro _
    simp [Addr.add]
   split at h
   ·rename_i row
    split at h
    ·rename_i hc
     simp only [Option.some.injEq] at h
     subst h
     obtain ⟨ad,rfl,hA,hrow⟩:=hx.pel_inv
     exact ⟨_,hrun ad (h1' rfl) (h2' rfl),slArr_ok hA hrow hc.2.1 hc.2.2⟩
    ·simp at h
   ·rename_i k
    split at h
    ·rename_i row ho
     split at h
     ·rename_i hc
      simp only [Option.some.injEq] at h
      subst h
      obtain ⟨q1,b,q2⟩:=hR.ob k _ ho
      cases hx with
      | ref hk hg=>
       rw [q2] at q1 hg
       simp only [hb,Option.some.injEq] at hg
       subst hg
       obtain ⟨ad,e,hA,hrow⟩:=q1.pel_inv
       injection e with e
       injection e with e
       subst e
       exact ⟨_,hrun _ (h1' rfl) (h2' rfl),slArr_ok hA hrow hc.2.1 hc.2.2⟩
     ·simp at h
    ·simp at h
   ·simp at h
  ·simp at h
 ·simp at h
def ibin (op:BinOp) (k:IntKind) (a b:Int):Option Value:=
 match op with
 | .add=>some (.int k (k.wrap (a+b)))
 | .sub=>some (.int k (k.wrap (a - b)))
 | .mul=>some (.int k (k.wrap (a * b)))
 | .quo=>if b=0 then none else some (.int k (k.wrap (a.tdiv b)))
 | .rem=>if b=0 then none else some (.int k (a.tmod b))
 | .and=>some (.int k (bits .and k a b))
 | .or=>some (.int k (bits .or k a b))
 | .xor=>some (.int k (bits .xor k a b))
 | .andNot=>some (.int k (bits .andNot k a b))
 | .eql=>some (.bool (a == b))
 | .neq=>some (.bool (a != b))
 | .lss=>some (.bool (decide (a<b)))
 | .leq=>some (.bool (decide (a≤b)))
 | .gtr=>some (.bool (decide (b<a)))
 | .geq=>some (.bool (decide (b≤a)))
 | _=>none
def sbin (op:BinOp) (a b:ByteArray):Option Value:=
 match op with
 | .add=>if a.size+b.size≤9223372036854775807 then some (.string (a++b)) else none
 | .eql=>some (.bool (a.data.toList == b.data.toList))
 | .neq=>some (.bool (!(a.data.toList == b.data.toList)))
 | .lss=>some (.bool (Op.bytesLess a.data.toList b.data.toList))
 | .gtr=>some (.bool (!(Op.bytesLess a.data.toList b.data.toList || a.data.toList == b.data.toList)))
 | .leq=>some (.bool (Op.bytesLess a.data.toList b.data.toList || a.data.toList == b.data.toList))
 | .geq=>some (.bool (!(Op.bytesLess a.data.toList b.data.toList)))
 | _=>none
def intsEq:List D→List D→Option Bool
 | [],[]=>some true
 | .v (.int k a) :: c,.v (.int k' b) :: c'=>if k=k' then (intsEq c c').map fun r=>a == b && r else none
 | _,_=>none
def ptrEq (T:Tab) (op:BinOp) (t:Nat) (r:Bool):Option D:=
 match T t,op with
 | some ⟨.ptr,_,_,_⟩,.eql=>some (.v (.bool r))
 | some ⟨.ptr,_,_,_⟩,.neq=>some (.v (.bool (!r)))
 | _,_=>none
def qBin (T:Tab) (op:BinOp) (t:Nat) (x y:D):Option D:=
 match x,y with
 | .v (.int k a),.v (.int k' b)=>
  match op with
  | .shl=>if 0≤b then some (.v (.int k (k.wrap (a * 2 ^ (min b.toNat k.bits))))) else none
  | .shr=>if 0≤b then some (.v (.int k (a.fdiv (2 ^ (min b.toNat k.bits))))) else none
  | op=>if k=k' then (ibin op k a b).map .v else none
 | .v (.string a),.v (.string b)=>(sbin op a b).map .v
 | .v (.bool a),.v (.bool b)=>
  match T t,op with
  | some ⟨.bool,_,_,_⟩,.eql=>some (.v (.bool (a == b)))
  | some ⟨.bool,_,_,_⟩,.neq=>some (.v (.bool (!(a == b))))
  | _,_=>none
 | .ref _ _,.v (.pointer none)=>ptrEq T op t false
 | .pel _,.v (.pointer none)=>ptrEq T op t false
 | .v (.pointer none),.v (.pointer none)=>ptrEq T op t true
 | .agg c,.agg c'=>
  match T t with
  | some ⟨.arr n e,_,_,_⟩=>
   match T e with
   | some ⟨.int k,1,_,_⟩=>
    if c.length=n∧c'.length=n then
     match op with
     | .eql=>(intsEq c c').map fun r=>.v (.bool r)
     | .neq=>(intsEq c c').map fun r=>.v (.bool (!r))
     | _=>none
    else none
   | _=>none
  | _=>none
 | _,_=>none
theorem run_ibin {w:World} {op:BinOp} {k:IntKind} {a b:Int} {v:Value} {t:Nat} (hs:op≠.shl) (hs':op≠.shr) (h:ibin op k a b=some v):(binOp op t (.int k a) (.int k b)).run P w=.ok v w:=by
  cases op <;> simp only [ibin,Option.some.injEq,reduceCtorEq] at h <;> first
    | (subst h; simp [binOp,Op.intArith,Op.intCmp,Op.intBits,bits]; done)
    | (exact absurd rfl hs)
    | (exact absurd rfl hs')
    | (split at h
       · simp at h
       · rename_i hb
         simp only [Option.some.injEq] at h
         subst h
         simp [binOp,Op.intDiv,hb])
theorem run_sbin {w:World} {op:BinOp} {a b:ByteArray} {v:Value} {t:Nat} (h:sbin op a b=some v):(binOp op t (.string a) (.string b)).run P w=.ok v w:=by
  cases op <;> simp only [sbin,Option.some.injEq,reduceCtorEq] at h <;> first
    | (subst h; simp [binOp,Op.stringOp,ByteArray.toList_eq]; done)
    | (split at h
       · rename_i hb
         simp only [Option.some.injEq] at h
         subst h
         have:¬ (9223372036854775807<a.size+b.size):=by omega
         simp [binOp,run_string_add_if,this]
       · simp at h)
end
end Go.Proofs.YtbmedfjmccnclaaGreat.AWP
namespace Go.Proofs.YtbmedfjmccnclaaGreat.AWP
open Go
open _root_.Option renaming map_eq_some_iff → za
open _root_.Array renaming getD → zb
section
variable {P:Program} {T:Tab} {E:Env} {om:List Ob}
theorem part_int (hT:TabOk P T) {e:Nat} {k:IntKind} {b:Nat} {z:List Value} (he:T e=some ⟨.int k,1,b,z⟩) {w:World} {vs:Array Value} {j:Nat} {v:Value} (h:vs[j]? = some v):(part e vs j).run P w=.ok v w:=by
 unfold part
 simp only [Sem.run_bind,(hT _ _ he).isAgg,Result.andThen_ok]
 simp [TK.agg,h]
theorem eqItems_ok (hT:TabOk P T) {e:Nat} {k:IntKind} {b:Nat} {z:List Value} (he:T e=some ⟨.int k,1,b,z⟩) {w:World} (d:Nat) :
  ∀ (m i:Nat) (c c':List D) (vs vs':Array Value) (r:Bool),c.length=i+m→c'.length=i+m→vs.size=c.length→vs'.size=c'.length →
   (∀ (j:Nat) (d:D),c[j]? = some d→Rd E d (vs.getD j undef))→(∀ (j:Nat) (d:D),c'[j]? = some d→Rd E d (vs'.getD j undef)) →
   intsEq (c.drop i) (c'.drop i)=some r→(Op.eqItems (d+1) e 1 vs vs' (List.range' i m)).run P w=.ok r w:=by
 intro m
 induction m with
 | zero=>
  intro i c c' vs vs' r h1 h2 _ _ _ _ h
  rw [List.drop_eq_nil_of_le (by omega),List.drop_eq_nil_of_le (by omega)] at h
  simp only [intsEq,Option.some.injEq] at h
  subst h
  simp [Op.eqItems]
 | succ m ih=>
  intro i c c' vs vs' r h1 h2 h3 h4 h5 h6 h
  have hi:i<c.length:=by omega
  have hi':i<c'.length:=by omega
  rw [List.drop_eq_getElem_cons hi,List.drop_eq_getElem_cons hi'] at h
  have r1:=h5 i _ (List.getElem?_eq_getElem hi)
  have r2:=h6 i _ (List.getElem?_eq_getElem hi')
  generalize c[i]=x at h r1
  generalize c'[i]=x' at h r2
  unfold intsEq at h
  split at h
  ·rename_i e1 e2; simp at e1
  ·rename_i ka a ca kb b' cb e1 e2
   simp only [List.cons.injEq] at e1 e2
   obtain ⟨rfl,rfl⟩:=e1
   obtain ⟨rfl,rfl⟩:=e2
   split at h
   ·rename_i hk
    subst hk
    simp only [za] at h
    obtain ⟨r',hr',rfl⟩:=h
    have e1:=r1.v_inv
    have e2:=r2.v_inv
    have g1:vs[i]? = some (.int ka a):=by
     have hl:i<vs.size:=by omega
     rw [← e1]; simp [zb,hl]
    have g2:vs'[i]? = some (.int ka b'):=by
     have hl:i<vs'.size:=by omega
     rw [← e2]; simp [zb,hl]
    simp only [List.range'_succ,Op.eqItems,Sem.run_bind,Nat.mul_one,part_int hT he g1,part_int hT he g2,Result.andThen_ok,run_equalIn_int w d e ka k a b' ((hT _ _ he).int rfl)]
    cases hab:a == b' with
    | false=>simp
    | true=>
     simp only [Bool.not_true,Bool.false_eq_true,if_false,Bool.true_and]
     exact ih (i+1) c c' vs vs' r' (by omega) (by omega) h3 h4 h5 h6 hr'
   ·simp at h
  ·simp at h
theorem ptrEq_ok (hT:TabOk P T) {op:BinOp} {t:Nat} {r:Bool} {d:D} {p:Option Addr} (ox oy:Operand) (h:ptrEq T op t r=some d) (hp:p.isNone=r) :
  ∃ z,(do eqGuard op t ox oy (.pointer p) (.pointer none); binOp op t (.pointer p) (.pointer none):Sem Value).run P E.w=.ok z E.w∧Rd E d z:=by
 unfold ptrEq at h
 split at h
 ·rename_i ht
  simp only [Option.some.injEq] at h
  subst h
  exact ⟨_,by simp [eqGuard_at_pointer,run_eql_pointer_nil _ _ _ ((hT _ _ ht).ptr rfl),hp],.v _⟩
 ·rename_i ht
  simp only [Option.some.injEq] at h
  subst h
  exact ⟨_,by simp [eqGuard_at_pointer,run_neq_pointer_nil _ _ _ ((hT _ _ ht).ptr rfl),hp],.v _⟩
 ·simp at h
theorem qBin_ok (hT:TabOk P T) (hdep:4≤P.depth) {op:BinOp} {t:Nat} {x y d:D} {a b:Value} (ox oy:Operand) (h:qBin T op t x y=some d) (hx:Rd E x a) (hy:Rd E y b) :
  ∃ z,(do eqGuard op t ox oy a b; binOp op t a b:Sem Value).run P E.w=.ok z E.w∧Rd E d z:=by
 unfold qBin at h
 split at h
 ·rename_i k n k' m
  cases hx.v_inv; cases hy.v_inv
  rw [eqGuard_at_int]
  split at h
  ·split at h
   ·rename_i h0
    simp only [Option.some.injEq] at h
    subst h
    refine ⟨_,?_,.v _⟩
    have:¬ m<0:=by omega
    simp [binOp,Op.shift,this]
   ·simp at h
  ·split at h
   ·rename_i h0
    simp only [Option.some.injEq] at h
    subst h
    refine ⟨_,?_,.v _⟩
    have:¬ m<0:=by omega
    simp [binOp,Op.shift,this]
   ·simp at h
  ·rename_i hs hs'
   split at h
   ·rename_i hk
    subst hk
    simp only [za] at h
    obtain ⟨v,hv,rfl⟩:=h
    exact ⟨v,by simp [run_ibin (fun e=>hs e) (fun e=>hs' e) hv],.v _⟩
   ·simp at h
 ·cases hx.v_inv; cases hy.v_inv
  simp only [za] at h
  obtain ⟨v,hv,rfl⟩:=h
  exact ⟨v,by rw [eqGuard_at_string]; simp [run_sbin hv],.v _⟩
 ·cases hx.v_inv; cases hy.v_inv
  split at h
  ·rename_i ht
   simp only [Option.some.injEq] at h
   subst h
   exact ⟨_,by simp [eqGuard_at_bool,run_eql_bool _ _ _ _ ((hT _ _ ht).bool rfl)],.v _⟩
  ·rename_i ht
   simp only [Option.some.injEq] at h
   subst h
   exact ⟨_,by simp [eqGuard_at_bool,run_neq_bool _ _ _ _ ((hT _ _ ht).bool rfl)],.v _⟩
  ·simp at h
 ·cases hy.v_inv
  cases hx with
  | ref hk hg=>exact ptrEq_ok hT ox oy h rfl
 ·cases hy.v_inv
  obtain ⟨ad,rfl,_⟩:=hx.pel_inv
  exact ptrEq_ok hT ox oy h rfl
 ·cases hx.v_inv; cases hy.v_inv
  exact ptrEq_ok hT ox oy h rfl
 ·rename_i c c'
  obtain ⟨vs,rfl,hs,_,hd⟩:=hx.agg_inv
  obtain ⟨vs',rfl,hs',_,hd'⟩:=hy.agg_inv
  split at h
  ·rename_i n e _ _ _ ht
   split at h
   ·rename_i k _ _ he
    split at h
    ·rename_i hc
     have hu:=(hT _ _ ht).arr rfl
     have hu':=(hT _ _ he).int rfl
     obtain ⟨inf,zz,hinf,hsz,_⟩:=(hT _ _ he).info
     have hcell:P.cellsOf e=1:=by simp [Program.cellsOf,hinf,hsz]
     have hg:P.eqGuardType P.depth t=false:=by
      obtain ⟨q,hq⟩:∃ q,P.depth=q+2:=⟨P.depth - 2,by omega⟩
      rw [hq]
      simp [Program.eqGuardType,hu,hu']
     have heq:∀ r,intsEq c c'=some r→(Op.equalIn 10000 t (.agg vs) (.agg vs')).run P E.w=.ok r E.w:=by
      intro r hr
      rw [run_equalIn_array E.w 9999 vs vs' hu hinf,hcell,List.range_eq_range']
      exact eqItems_ok hT he (w:=E.w) 9998 n 0 c c' vs vs' r (by omega) (by omega) hs hs' hd hd' (by simpa using hr)
     split at h
     ·simp only [za] at h
      obtain ⟨r,hr,rfl⟩:=h
      exact ⟨_,by simp [run_eqGuard_agg _ _ _ _ _ _ _ hg,run_eql_struct,heq r hr],.v _⟩
     ·simp only [za] at h
      obtain ⟨r,hr,rfl⟩:=h
      exact ⟨_,by simp [run_eqGuard_agg _ _ _ _ _ _ _ hg,run_neq_struct,heq r hr],.v _⟩
     ·simp at h
    ·simp at h
   ·simp at h
  ·simp at h
 ·simp at h
def qUn (op:UnOp) (x:D):Option D:=
 match op,x with
 | .neg,.v (.int k n)=>some (.v (.int k (k.wrap (0 - n))))
 | .xor,.v (.int k n)=>some (.v (.int k (bits .xor k (if k.signed then -1 else k.max) n)))
 | .not,.v (.bool b)=>some (.v (.bool (!b)))
 | _,_=>none
theorem qUn_ok {op:UnOp} {x d:D} {a:Value} (h:qUn op x=some d) (hx:Rd E x a):∃ z,(Op.unary op a).run P E.w=.ok z E.w∧Rd E d z:=by
  unfold qUn at h
  split at h <;> first
    | (cases hx.v_inv
       simp only [Option.some.injEq] at h
       subst h
       exact ⟨_,by simp [Op.unary,Op.intArith,Op.intBits,bits],.v _⟩)
    | simp at h
def qConv (T:Tab) (src dst:Nat) (x:D):Option D:=
 match T src,T dst,x with
 | some _,some ⟨.int k,_,_,_⟩,.v (.int _ n)=>some (.v (.int k (k.wrap n)))
 | some ⟨.str,_,_,_⟩,some ⟨.str,_,_,_⟩,.v (.string s)=>some (.v (.string s))
 | _,_,_=>none
theorem qConv_ok (hT:TabOk P T) {src dst:Nat} {x d:D} {a:Value} (h:qConv T src dst x=some d) (hx:Rd E x a):∃ z,(convert src dst a).run P E.w=.ok z E.w∧Rd E d z:=by
 unfold qConv at h
 split at h
 ·rename_i si k _ _ _ k' n hs hdst
  cases hx.v_inv
  simp only [Option.some.injEq] at h
  subst h
  obtain ⟨ds,hds,_⟩:=(hT _ _ hs).und
  refine ⟨_,?_,.v _⟩
  simp [convert,run_underlying hds,run_underlying ((hT _ _ hdst).int rfl),Conv.intToInt]
 ·rename_i hs hdst
  cases hx.v_inv
  simp only [Option.some.injEq] at h
  subst h
  exact ⟨_,by simp [convert,run_underlying ((hT _ _ hs).str rfl),run_underlying ((hT _ _ hdst).str rfl)],.v _⟩
 ·simp at h
def cellsOf:D→Option (List D)
 | .agg c=>some c
 | .any=>none
 | .tup _=>none
 | .v x=>if x.oneCell' then some [.v x] else none
 | d=>some [d]
theorem cellsOf_ok (hR:Rel E om) {d:D} {c:List D} {y:Value} (h:cellsOf d=some c) (hd:Rd E d y):y.cells.size=c.length∧CellsR E c y.cells:=by
 have one:∀ (d:D) (y:Value),y.oneCell'=true→Rd E d y→y.cells.size=[d].length∧CellsR E [d] y.cells:=by
  intro d y hy hd
  have hc:y.cells = #[y]:=by cases y <;> simp_all [Value.cells,Value.oneCell']
  rw [hc]
  refine ⟨rfl,fun j d' hj=>?_⟩
  cases j with
  | zero=>
   simp only [List.getElem?_cons_zero,Option.some.injEq] at hj
   subst hj
   exact ⟨y,rfl,hy,hd⟩
  | succ j=>simp at hj
 unfold cellsOf at h
 split at h
 ·simp only [Option.some.injEq] at h
  subst h
  obtain ⟨vs,rfl,hs,h1,h2⟩:=hd.agg_inv
  refine ⟨hs,fun j d hj=>?_⟩
  have hl:j<vs.size:=by have:=(List.getElem?_eq_some_iff.1 hj).1; omega
  refine ⟨vs[j],by simp [Value.cells,hl],by simpa [zb,hl] using h1 j hl,by simpa [zb,hl] using h2 j d hj⟩
 ·simp at h
 ·simp at h
 ·rename_i x
  split at h
  ·rename_i hx
   simp only [Option.some.injEq] at h
   subst h
   cases hd.v_inv
   exact one _ _ hx (.v _)
  ·simp at h
 ·rename_i d' n1 n2 n3 n4
  simp only [Option.some.injEq] at h
  subst h
  refine one _ _ ?_ hd
  cases hd with
  | v x=>exact absurd rfl (n4 _)
  | any y=>exact absurd rfl n2
  | nt n=>rfl
  | agg=>exact absurd rfl (n1 _)
  | tup=>exact absurd rfl (n3 _)
  | sl=>rfl
  | pel=>rfl
  | ref=>rfl
  | rel=>rfl
  | own hk=>exact hR.one _ hk
  | fn=>rfl
  | ifc=>rfl
  | yld=>rfl
  | bm=>rfl
end
end Go.Proofs.YtbmedfjmccnclaaGreat.AWP
namespace Go.Proofs.YtbmedfjmccnclaaGreat.AWP
open Go
open _root_.List renaming getElem?_append → za, getElem?_cons_zero → zb
open _root_.Nat renaming le_refl → zc, sub_self → zd
section
variable {P:Program} {T:Tab} {E:Env} {om:List Ob}
def Eff (P:Program) (m:Sem Value) (E:Env) (om:List Ob) (d:D) (om':List Ob):Prop:=
 ∃ E' z,m.run P E.w=.ok z E'.w∧Ext E om E' om'∧Rel E' om'∧Rd E' d z
theorem ObR.keep {E':Env} {om':List Ob} (hR:Rel E om) (hx:Ext E om E' om') {k:Nat} {o:Ob} (hk:k<E.n) (h:ObR E k o)
  (hw:o.live=true→∀ b,hb (E.g k)=some b→E'.w.heap[b]? = E.w.heap[b]?∧¬ E'.A b):ObR E' k o:=by
 cases o with
 | var ty c=>
  obtain ⟨b,cs,h1,h2,h3,h4,h5⟩:=h
  obtain ⟨e1,e2⟩:=hw rfl b (by rw [h1]; rfl)
  exact ⟨b,cs,by rw [hx.g k hk]; exact h1,by rw [e1]; exact h2,e2,h4,h5.ext hR hx⟩
 | slc ty sz rows=>
  obtain ⟨h0,hs,h | ⟨b,cs,cap,h1,h2,h3,h4,h5,h6,h7⟩⟩:=h
  ·exact ⟨h0,hs,.inl ⟨by rw [hx.g k hk]; exact h.1,h.2⟩⟩
  ·obtain ⟨e1,e2⟩:=hw rfl b (by rw [h1]; rfl)
   exact ⟨h0,hs,.inr ⟨b,cs,cap,by rw [hx.g k hk]; exact h1,by rw [e1]; exact h2,e2,h4,h5,h6,h7.ext hR hx⟩⟩
 | frz sz rows=>exact ⟨by rw [hx.g k hk]; exact h.1.ext hR hx,by rw [hx.g k hk]; exact h.2⟩
 | frv c=>exact ⟨by rw [hx.g k hk]; exact h.1.ext hR hx,by rw [hx.g k hk]; exact h.2⟩
 | lp ps as bo st pe env=>
  obtain ⟨b,r,h1,h2,h3,h4,h5,h6,h7,h8,h9,h10⟩:=h
  obtain ⟨e1,e2⟩:=hw rfl b (by rw [h1]; rfl)
  exact ⟨b,r,by rw [hx.g k hk]; exact h1,by rw [e1]; exact h2,e2,h4,h5,h6,h7,h8,h9,fun t=>(h10 t).ext hR hx⟩
 | mp es=>
  obtain ⟨b,xs,ck,h1,h2,h3,h4⟩:=h
  obtain ⟨e1,e2⟩:=hw rfl b (by rw [h1]; rfl)
  exact ⟨b,xs,ck,by rw [hx.g k hk]; exact h1,by rw [e1]; exact h2,e2,h4⟩
 | it s pos=>
  obtain ⟨b,h1,h2,h3⟩:=h
  obtain ⟨e1,e2⟩:=hw rfl b (by rw [h1]; rfl)
  exact ⟨b,by rw [hx.g k hk]; exact h1,by rw [e1]; exact h2,e2⟩
 | alt ty cs=>
  obtain ⟨c,p1,p2,b,a,h1,h2,h3,h4,h5⟩:=h
  obtain ⟨e1,e2⟩:=hw rfl b (by rw [h1]; rfl)
  exact ⟨c,p1,p2,b,a,by rw [hx.g k hk]; exact h1,by rw [e1]; exact h2,e2,h4,h5.ext hR hx⟩
 | dead=>trivial
def Env.push (E:Env) (h:Value) (w:World):Env:=⟨E.n+1,fun k=>if k=E.n then h else E.g k,E.A,w⟩
theorem push_ok' {om0:List Ob} (hR0:Rel E om0) (hR:Rel E om) (hsub:∀ b,Live E om b→Live E om0 b) (kb:Option Nat) (hkb:∀ b,kb=some b→Live E om0 b∧¬ Live E om b)
  (h:Value) (w':World) (o:Ob) (h1:h.oneCell'=true)
  (hsz:E.w.heap.size≤w'.heap.size) (hos:w'.os=E.w.os) (htp:w'.tape=E.w.tape) (hout:w'.output=E.w.output)
  (hold:∀ b,b<E.w.heap.size→some b≠kb→w'.heap[b]? = E.w.heap[b]?)
  (hnew:∀ b,o.live=true→hb h=some b→E.w.heap.size≤b∨kb=some b)
  (ho:Ext E om0 (E.push h w') (om++[o])→ObR (E.push h w') E.n o) :
  Ext E om0 (E.push h w') (om++[o])∧Rel (E.push h w') (om++[o])∧Rd (E.push h w') (.own om.length) h∧(∀ b,hb h=some b→Rd (E.push h w') (.ref om.length 0) (.pointer (some ⟨b,0,none⟩))):=by
 have hlen:=hR.len
 have hg:∀ k,k<E.n→(E.push h w').g k=E.g k:=fun k hk=>by simp [Env.push,Nat.ne_of_lt hk]
 have hgn:(E.push h w').g E.n=h:=by simp [Env.push]
 have hx:Ext E om0 (E.push h w') (om++[o]):=by
  refine ⟨Nat.le_succ _,hg,fun b hA=>hA,hsz,hos,htp,hout,fun b hb' hn=>hold b hb' (fun e=>hn (hkb b e.symm).1),?_,fun b hA=>.inl hA⟩
  rintro b ⟨k,o',hk,hlv,hbk⟩
  rw [za] at hk
  split at hk
  ·rename_i hlt
   rw [hg k (by omega)] at hbk
   exact .inl (hsub b ⟨k,o',hk,hlv,hbk⟩)
  ·rename_i hge
   have hk0:k=om.length:=by
    have:=(List.getElem?_eq_some_iff.1 hk).1
    simp at this
    omega
   subst hk0
   simp only [zd,zb,Option.some.injEq] at hk
   subst hk
   rw [hlen,hgn] at hbk
   rcases hnew b hlv hbk with h2 | h2
   ·exact .inr h2
   ·exact .inl (hkb b h2).1
 refine ⟨hx,?_,?_,?_⟩
 ·refine ⟨by simp [Env.push,hlen],fun k o' hk=>?_,fun k k' o1 o2 b hk hk' hl hl' hb1 hb2=>?_,fun b hA=>Nat.lt_of_lt_of_le (hR.old b hA) hsz,fun k hk=>?_,fun g c h=>(hR0.gt g c h).ext hR0 hx⟩
  ·rw [za] at hk
   split at hk
   ·rename_i hlt
    refine ObR.keep hR0 hx (by omega) (hR.ob k o' hk) fun hlv b hbk=>?_
    have hlive:Live E om b:=⟨k,o',hk,hlv,hbk⟩
    have:=hR.live_lt hlive
    exact ⟨hold b this.1 (fun e=>(hkb b e.symm).2 hlive),this.2⟩
   ·have hk0:k=om.length:=by
     have:=(List.getElem?_eq_some_iff.1 hk).1
     simp at this
     omega
    subst hk0
    simp only [zd,zb,Option.some.injEq] at hk
    subst hk
    rw [hlen]
    exact ho hx
  ·have one:∀ (k:Nat) (o1:Ob),om[k]? = some o1→o1.live=true→hb (E.g k)=some b→o.live=true→hb h=some b→False:=by
    intro k o1 hk hl hb1 hlo hb2
    have hlive:Live E om b:=⟨k,o1,hk,hl,hb1⟩
    rcases hnew b hlo hb2 with e2 | e2
    ·have:=(hR.live_lt hlive).1; omega
    ·exact (hkb b e2).2 hlive
   rw [za] at hk hk'
   split at hk <;> split at hk'
   ·rw [hg k (by omega)] at hb1
    rw [hg k' (by omega)] at hb2
    exact hR.inj k k' o1 o2 b hk hk' hl hl' hb1 hb2
   ·have hk0:k'=om.length:=by
     have:=(List.getElem?_eq_some_iff.1 hk').1
     simp at this
     omega
    subst hk0
    simp only [zd,zb,Option.some.injEq] at hk'
    subst hk'
    rw [hg k (by omega)] at hb1
    rw [hlen,hgn] at hb2
    exact (one k o1 hk hl hb1 hl' hb2).elim
   ·have hk0:k=om.length:=by
     have:=(List.getElem?_eq_some_iff.1 hk).1
     simp at this
     omega
    subst hk0
    simp only [zd,zb,Option.some.injEq] at hk
    subst hk
    rw [hg k' (by omega)] at hb2
    rw [hlen,hgn] at hb1
    exact (one k' o2 hk' hl' hb2 hl hb1).elim
   ·have:=(List.getElem?_eq_some_iff.1 hk).1
    have:=(List.getElem?_eq_some_iff.1 hk').1
    simp at *
    omega
  ·by_cases hkn:k=E.n
   ·subst hkn; rw [hgn]; exact h1
   ·have:k<E.n:=by simp [Env.push] at hk; omega
    rw [hg k this]; exact hR.one k this
 ·have:=Rd.own (E:=E.push h w') (k:=om.length) (by simp [Env.push,hlen])
  rw [show (E.push h w').g om.length=h from by rw [hlen,hgn]] at this
  exact this
 ·intro b hb'
  exact .ref (by simp [Env.push,hlen]) (by rw [hlen,hgn]; exact hb')
theorem push_ok (hR:Rel E om) (h:Value) (w':World) (o:Ob) (h1:h.oneCell'=true)
  (hsz:E.w.heap.size≤w'.heap.size) (hos:w'.os=E.w.os) (htp:w'.tape=E.w.tape) (hout:w'.output=E.w.output)
  (hold:∀ b,b<E.w.heap.size→w'.heap[b]? = E.w.heap[b]?)
  (hnew:∀ b,o.live=true→hb h=some b→E.w.heap.size≤b)
  (ho:Ext E om (E.push h w') (om++[o])→ObR (E.push h w') E.n o) :
  Ext E om (E.push h w') (om++[o])∧Rel (E.push h w') (om++[o])∧Rd (E.push h w') (.own om.length) h∧(∀ b,hb h=some b→Rd (E.push h w') (.ref om.length 0) (.pointer (some ⟨b,0,none⟩))):=
 push_ok' hR hR (fun _ h=>h) none (fun _ h=>by cases h) h w' o h1 hsz hos htp hout (fun b hb' _=>hold b hb') (fun b h1 h2=>.inl (hnew b h1 h2)) ho
theorem heap_alloc_lt (w:World) (o:Obj) (b:Nat) (h:b<w.heap.size):(w.alloc o).heap[b]? = w.heap[b]?:=by
 show (w.heap.push o)[b]? = _
 rw [Array.getElem?_push,if_neg (by omega)]
theorem heap_alloc_at (w:World) (o:Obj):(w.alloc o).heap[w.heap.size]? = some o:=by
 show (w.heap.push o)[w.heap.size]? = _
 simp
theorem newVar_ok (hR:Rel E om) (ty:Nat) {c:List D} {v:Value} (hs:v.cells.size=c.length) (hc:CellsR E c v.cells) :
  ∃ E',E'.w=E.w.alloc (.cells v.cells ty)∧Ext E om E' (om++[.var ty c])∧Rel E' (om++[.var ty c])∧Rd E' (.ref om.length 0) (.pointer (some ⟨E.w.heap.size,0,none⟩)):=by
 obtain ⟨h1,h2,_,h4⟩:=push_ok hR (.pointer (some ⟨E.w.heap.size,0,none⟩)) (E.w.alloc (.cells v.cells ty)) (.var ty c) rfl (by simp) rfl rfl rfl (fun b hb'=>heap_alloc_lt _ _ _ hb')
  (fun b _ hb'=>by simp only [hb,Option.some.injEq] at hb'; omega)
  (fun hx=>⟨E.w.heap.size,v.cells,by simp [Env.push],heap_alloc_at _ _,fun hA=>by have:=hR.old _ hA; omega,hs,hc.ext hR hx⟩)
 exact ⟨_,rfl,h1,h2,h4 _ rfl⟩
theorem newRow_ok (hR:Rel E om) (ty sz:Nat) (hsz:0<sz) {rows:List (List D)} (hr:∀ r∈rows,r.length=sz) {cs:Array Value} (hs:cs.size=rows.length * sz) (hm:rows.length≤maxLen) (hc:CellsR E rows.flatten cs) :
  ∃ E',E'.w=E.w.alloc (.cells cs ty)∧Ext E om E' (om++[.slc ty sz rows])∧Rel E' (om++[.slc ty sz rows])∧Rd E' (.own om.length) (.slice (some ⟨E.w.heap.size,0,none⟩) rows.length rows.length):=by
 obtain ⟨h1,h2,h3,_⟩:=push_ok hR (.slice (some ⟨E.w.heap.size,0,none⟩) rows.length rows.length) (E.w.alloc (.cells cs ty)) (.slc ty sz rows) rfl (by simp) rfl rfl rfl (fun b hb'=>heap_alloc_lt _ _ _ hb')
  (fun b _ hb'=>by simp only [hb,Option.some.injEq] at hb'; omega)
  (fun hx=>⟨hsz,hr,.inr ⟨E.w.heap.size,cs,rows.length,by simp [Env.push],heap_alloc_at _ _,fun hA=>by have:=hR.old _ hA; omega,hs,zc _,hm,hc.ext hR hx⟩⟩)
 exact ⟨_,rfl,h1,h2,h3⟩
theorem newRowC_ok (hR:Rel E om) (ty sz:Nat) (hsz:0<sz) {rows:List (List D)} (hr:∀ r∈rows,r.length=sz) {cs:Array Value} (cap:Nat) (hs:cs.size=cap * sz) (hle:rows.length≤cap) (hm:cap≤maxLen) (hc:CellsR E rows.flatten cs) :
  ∃ E',E'.w=E.w.alloc (.cells cs ty)∧Ext E om E' (om++[.slc ty sz rows])∧Rel E' (om++[.slc ty sz rows])∧Rd E' (.own om.length) (.slice (some ⟨E.w.heap.size,0,none⟩) rows.length cap):=by
 obtain ⟨h1,h2,h3,_⟩:=push_ok hR (.slice (some ⟨E.w.heap.size,0,none⟩) rows.length cap) (E.w.alloc (.cells cs ty)) (.slc ty sz rows) rfl (by simp) rfl rfl rfl (fun b hb'=>heap_alloc_lt _ _ _ hb')
  (fun b _ hb'=>by simp only [hb,Option.some.injEq] at hb'; omega)
  (fun hx=>⟨hsz,hr,.inr ⟨E.w.heap.size,cs,cap,by simp [Env.push],heap_alloc_at _ _,fun hA=>by have:=hR.old _ hA; omega,hs,hle,hm,hc.ext hR hx⟩⟩)
 exact ⟨_,rfl,h1,h2,h3⟩
theorem newImm_ok (hR:Rel E om) (ty sz:Nat) {rows:List (List D)} (hr:∀ r∈rows,r.length=sz) {cs:Array Value} (hm:rows.length≤maxLen) (hc:CellsR E rows.flatten cs) :
  ∃ E',E'.w=E.w.alloc (.cells cs ty)∧Ext E om E' om∧Rel E' om∧Rd E' (.sl sz rows) (.slice (some ⟨E.w.heap.size,0,none⟩) rows.length rows.length):=by
 refine ⟨⟨E.n,E.g,fun b=>E.A b∨b=E.w.heap.size,E.w.alloc (.cells cs ty)⟩,rfl,?_,?_,?_⟩
 case refine_1=>exact ⟨zc _,fun _ _=>rfl,fun _=>.inl,by simp,rfl,rfl,rfl,fun b hb' _=>heap_alloc_lt _ _ _ hb',fun b hl=>.inl hl,fun b hA=>hA.elim .inl fun e=>.inr (.inr (by omega))⟩
 case refine_2=>
  have hx:Ext E om ⟨E.n,E.g,fun b=>E.A b∨b=E.w.heap.size,E.w.alloc (.cells cs ty)⟩ om:=⟨zc _,fun _ _=>rfl,fun _=>.inl,by simp,rfl,rfl,rfl,fun b hb' _=>heap_alloc_lt _ _ _ hb',fun b hl=>.inl hl,fun b hA=>hA.elim .inl fun e=>.inr (.inr (by omega))⟩
  refine ⟨hR.len,fun k o hk=>?_,hR.inj,fun b hA=>?_,hR.one,fun g c h=>(hR.gt g c h).ext hR hx⟩
  ·refine ObR.keep hR hx (by rw [← hR.len]; exact (List.getElem?_eq_some_iff.1 hk).1) (hR.ob k o hk) fun hlv b hbk=>?_
   have:=hR.live_lt (b:=b) ⟨k,o,hk,hlv,hbk⟩
   refine ⟨heap_alloc_lt _ _ _ this.1,?_⟩
   rintro (h | h)
   ·exact this.2 h
   ·have:=this.1; omega
  ·rcases hA with hA | hA
   ·have:=hR.old b hA; simp; omega
   ·simp [hA]
 case refine_3=>
  have hx:Ext E om ⟨E.n,E.g,fun b=>E.A b∨b=E.w.heap.size,E.w.alloc (.cells cs ty)⟩ om:=⟨zc _,fun _ _=>rfl,fun _=>.inl,by simp,rfl,rfl,rfl,fun b hb' _=>heap_alloc_lt _ _ _ hb',fun b hl=>.inl hl,fun b hA=>hA.elim .inl fun e=>.inr (.inr (by omega))⟩
  refine Rd.sl_mk rfl hr (zc _) hm (.inr ⟨⟨E.w.heap.size,0,none⟩,rfl,.inr rfl,fun i r hi j d hj=>?_⟩)
  obtain ⟨y,e1,e2,e3⟩:=hc _ d (flatten_get hr hi hj)
  refine ⟨y,?_,e2,e3.ext hR hx⟩
  rw [add_mk,add_mk,cell_of_heap (heap_alloc_at _ _),Nat.zero_add]
  exact e1
theorem newImmC_ok (hR:Rel E om) (ty sz:Nat) {rows:List (List D)} (hr:∀ r∈rows,r.length=sz) {cs:Array Value} (cap:Nat) (hle:rows.length≤cap) (hm:cap≤maxLen) (hc:CellsR E rows.flatten cs) :
  ∃ E',E'.w=E.w.alloc (.cells cs ty)∧Ext E om E' om∧Rel E' om∧Rd E' (.sl sz rows) (.slice (some ⟨E.w.heap.size,0,none⟩) rows.length cap):=by
 obtain ⟨E',h1,h2,h3,h4⟩:=newImm_ok hR ty sz hr (Nat.le_trans hle hm) hc
 refine ⟨E',h1,h2,h3,?_⟩
 cases h4 with
 | sl ad u q1 q2 q3 q4 q5 q6=>exact .sl ad u q1 hle hm q4 q5 q6
theorem foldl_set (l:List Value):∀ (n0 off:Nat) (cs:Array Value),
  ((l.zipIdx n0).foldl (fun (cs:Array Value) (x:Value × Nat)=>cs.setIfInBounds (off+x.2) x.1) cs).size=cs.size ∧
  ∀ k,((l.zipIdx n0).foldl (fun (cs:Array Value) (x:Value × Nat)=>cs.setIfInBounds (off+x.2) x.1) cs)[k]? = if off+n0≤k∧k<off+n0+l.length∧k<cs.size then l[k - off - n0]? else cs[k]?:=by
 induction l with
 | nil=>intro n0 off cs; simp; intro k h1 h2; omega
 | cons x l ih=>
  intro n0 off cs
  simp only [List.zipIdx_cons,List.foldl_cons]
  obtain ⟨h1,h2⟩:=ih (n0+1) off (cs.setIfInBounds (off+n0) x)
  refine ⟨by rw [h1]; simp,fun k=>?_⟩
  rw [h2 k]
  simp only [Array.size_setIfInBounds,Array.getElem?_setIfInBounds,List.length_cons]
  by_cases e:k=off+n0
  ·subst e
   rw [if_neg (by omega)]
   by_cases hlt:off+n0<cs.size
   ·have:off+n0 - off - n0=0:=by omega
    simp [hlt,this]
   ·simp [hlt]
  ·by_cases hc:off+(n0+1)≤k∧k<off+(n0+1)+l.length∧k<cs.size
   ·rw [if_pos hc,if_pos (by omega)]
    have:k - off - n0=(k - off - (n0+1))+1:=by omega
    rw [this,List.getElem?_cons_succ]
   ·rw [if_neg hc,if_neg (fun h=>e h.symm),if_neg (by omega)]
def splc {α:Type} (c:List α) (off:Nat) (cd:List α):List α:=c.take off++cd++c.drop (off+cd.length)
theorem splc_get {α:Type} (c:List α) (off:Nat) (cd:List α) (h:off+cd.length≤c.length) (k:Nat):(splc c off cd)[k]? = if off≤k∧k<off+cd.length then cd[k - off]? else c[k]?:=by
 unfold splc
 have ht:(c.take off).length=off:=by simp; omega
 rw [List.append_assoc,za]
 split
 ·rename_i h1
  rw [if_neg (by omega),List.getElem?_take_of_lt (by omega)]
 ·rename_i h1
  rw [ht] at h1 ⊢
  rw [za]
  split
  ·rename_i h2
   rw [if_pos (by omega)]
  ·rename_i h2
   rw [if_neg (by omega),List.getElem?_drop]
   congr 1
   omega
theorem splc_length {α:Type} (c:List α) (off:Nat) (cd:List α) (h:off+cd.length≤c.length):(splc c off cd).length=c.length:=by
 simp [splc,List.length_take,List.length_drop]; omega
theorem CellsR.splc {c cd:List D} {cs vs:Array Value} {off:Nat} (h:CellsR E c cs) (hs:cs.size=c.length) (hv:CellsR E cd vs) (hvs:vs.size=cd.length) (hle:off+cd.length≤c.length) :
  CellsR E (splc c off cd) (vs.zipIdx.foldl (fun (cs:Array Value) (x:Value × Nat)=>cs.setIfInBounds (off+x.2) x.1) cs)∧(vs.zipIdx.foldl (fun (cs:Array Value) (x:Value × Nat)=>cs.setIfInBounds (off+x.2) x.1) cs).size=(AWP.splc c off cd).length:=by
 have e:vs.zipIdx.foldl (fun (cs:Array Value) (x:Value × Nat)=>cs.setIfInBounds (off+x.2) x.1) cs=(vs.toList.zipIdx 0).foldl (fun (cs:Array Value) (x:Value × Nat)=>cs.setIfInBounds (off+x.2) x.1) cs:=by
  rw [← Array.foldl_toList]
  simp
 rw [e]
 obtain ⟨h1,h2⟩:=foldl_set vs.toList 0 off cs
 refine ⟨fun k d hk=>?_,by rw [h1,splc_length _ _ _ hle,hs]⟩
 rw [splc_get _ _ _ hle] at hk
 rw [h2 k]
 simp only [Nat.add_zero,Nat.sub_zero,Array.length_toList]
 split at hk
 ·rename_i hc
  rw [if_pos (by omega)]
  have:=hv _ d hk
  simpa using this
 ·rename_i hc
  rw [if_neg (by omega)]
  exact h k d hk
theorem newImmVar_ok (hR:Rel E om) (ty:Nat) {c:List D} {v:Value} (hs:v.cells.size=c.length) (hc:CellsR E c v.cells) :
  ∃ E',E'.w=E.w.alloc (.cells v.cells ty)∧Ext E om E' om∧Rel E' om∧Rd E' (.pel c) (.pointer (some ⟨E.w.heap.size,0,none⟩)):=by
 have hx:Ext E om ⟨E.n,E.g,fun b=>E.A b∨b=E.w.heap.size,E.w.alloc (.cells v.cells ty)⟩ om:=⟨zc _,fun _ _=>rfl,fun _=>.inl,by simp,rfl,rfl,rfl,fun b hb' _=>heap_alloc_lt _ _ _ hb',fun b hl=>.inl hl,fun b hA=>hA.elim .inl fun e=>.inr (.inr (by omega))⟩
 refine ⟨⟨E.n,E.g,fun b=>E.A b∨b=E.w.heap.size,E.w.alloc (.cells v.cells ty)⟩,rfl,hx,?_,?_⟩
 case refine_1=>
  refine ⟨hR.len,fun k o hk=>?_,hR.inj,fun b hA=>?_,hR.one,fun g c h=>(hR.gt g c h).ext hR hx⟩
  ·refine ObR.keep hR hx (by rw [← hR.len]; exact (List.getElem?_eq_some_iff.1 hk).1) (hR.ob k o hk) fun hlv b hbk=>?_
   have:=hR.live_lt (b:=b) ⟨k,o,hk,hlv,hbk⟩
   refine ⟨heap_alloc_lt _ _ _ this.1,?_⟩
   rintro (h | h)
   ·exact this.2 h
   ·have:=this.1; omega
  ·rcases hA with hA | hA
   ·have:=hR.old b hA; simp; omega
   ·simp [hA]
 case refine_2=>
  refine Rd.pel_mk (.inr rfl) fun j d hj=>?_
  obtain ⟨y,e1,e2,e3⟩:=hc j d hj
  refine ⟨y,?_,e2,e3.ext hR hx⟩
  rw [add_mk,cell_of_heap (heap_alloc_at _ _),Nat.zero_add]
  exact e1
end
end Go.Proofs.YtbmedfjmccnclaaGreat.AWP
namespace Go.Proofs.YtbmedfjmccnclaaGreat.AWP
open Go
open _root_.List renaming getElem?_toArray → za, eq_nil_of_length_eq_zero → zb, getElem?_map → zc, length_append → zd
open _root_.Nat renaming zero_le → ze
section
variable {P:Program} {T:Tab} {E:Env} {om:List Ob}
theorem Rel.kill (hR:Rel E om) (k:Nat):Rel E (om.set k .dead)∧(∀ b,Live E (om.set k .dead) b→Live E om b):=by
 have hget:∀ j o,(om.set k .dead)[j]? = some o→(j=k∧o=.dead)∨(j≠k∧om[j]? = some o):=by
  intro j o h
  rw [List.getElem?_set] at h
  split at h
  ·rename_i e
   split at h
   ·simp only [Option.some.injEq] at h
    exact .inl ⟨e.symm,h.symm⟩
   ·simp at h
  ·rename_i e
   exact .inr ⟨fun h=>e h.symm,h⟩
 refine ⟨⟨by simp [hR.len],fun j o hj=>?_,fun j j' o o' b hj hj' hl hl' h1 h2=>?_,hR.old,hR.one,hR.gt⟩,?_⟩
 ·rcases hget j o hj with ⟨_,rfl⟩ | ⟨_,h⟩
  ·trivial
  ·exact hR.ob j o h
 ·rcases hget j o hj with ⟨_,rfl⟩ | ⟨_,h⟩
  ·simp [Ob.live] at hl
  ·rcases hget j' o' hj' with ⟨_,rfl⟩ | ⟨_,h'⟩
   ·simp [Ob.live] at hl'
   ·exact hR.inj j j' o o' b h h' hl hl' h1 h2
 ·rintro b ⟨j,o,hj,hl,hg⟩
  rcases hget j o hj with ⟨_,rfl⟩ | ⟨_,h⟩
  ·simp [Ob.live] at hl
  ·exact ⟨j,o,h,hl,hg⟩
theorem Rel.killed (hR:Rel E om) {k:Nat} {o:Ob} (hk:om[k]? = some o) (hl:o.live=true) {b:Nat} (hb':hb (E.g k)=some b):Live E om b∧¬ Live E (om.set k .dead) b:=by
 refine ⟨⟨k,o,hk,hl,hb'⟩,?_⟩
 rintro ⟨j,o',hj,hl',hg⟩
 rw [List.getElem?_set] at hj
 split at hj
 ·split at hj
  ·simp only [Option.some.injEq] at hj
   subst hj
   simp [Ob.live] at hl'
  ·simp at hj
 ·rename_i e
  exact e (hR.inj k j o o' b hk hj hl hl' hb' hg)
def strRows (s:ByteArray):List (List D):=s.data.toList.map fun b=>[.v (.int .u8 b.toNat)]
def srcRows (om:List Ob) (sz:Nat) (x:D):Option (List (List D)):=
 match rs om x with
 | .v (.slice none 0 _)=>some []
 | .sl sz' rows=>if sz'=sz then some rows else none
 | .own k=>
  match om[k]? with
  | some (.slc _ sz' rows)=>if sz'=sz then some rows else none
  | _=>none
 | _=>none
theorem srcRows_ok (hR:Rel E om) {sz:Nat} {x:D} {rows:List (List D)} {y:Value} (h:srcRows om sz x=some rows) (hx:Rd E x y) :
  ∃ a m c,y=.slice a m c∧(∀ r∈rows,r.length=sz)∧((rows=[]∧a=none∧m=0)∨(m=rows.length∧(rows=[]∨∃ ad,a=some ad∧∀ i r,rows[i]? = some r→RowAt E r (ad.add (i * sz))))):=by
 have hx':=hx.rs hR
 unfold srcRows at h
 split at h
 ·rename_i c e
  rw [e] at hx'
  have:=hx'.v_inv
  simp only [Option.some.injEq] at h
  subst h
  exact ⟨_,_,_,this,by simp,.inl ⟨rfl,rfl,rfl⟩⟩
 ·rename_i sz' rows' e
  rw [e] at hx'
  split at h
  ·rename_i hs
   subst hs
   simp only [Option.some.injEq] at h
   subst h
   obtain ⟨a,cap,rfl,hs,_,_,h3⟩:=hx'.sl_inv
   exact ⟨_,_,_,rfl,hs,.inr ⟨rfl,h3.imp id fun ⟨ad,h1,_,h2⟩=>⟨ad,h1,h2⟩⟩⟩
  ·simp at h
 ·rename_i k e
  rw [e] at hx'
  split at h
  ·rename_i ty sz' rows' ho
   split at h
   ·rename_i hs
    subst hs
    simp only [Option.some.injEq] at h
    subst h
    cases hx' with
    | own hk=>
     obtain ⟨h0,hs,h1 | ⟨b,cs,cap,h1,h2,h3,h4,h5,h6,h7⟩⟩:=hR.ob k _ ho
     ·exact ⟨_,_,_,h1.1,hs,.inl ⟨h1.2,rfl,rfl⟩⟩
     ·refine ⟨_,_,_,h1,hs,.inr ⟨rfl,.inr ⟨_,rfl,fun i r hi j d hj=>?_⟩⟩⟩
      obtain ⟨y,e1,e2,e3⟩:=h7 _ d (flatten_get hs hi hj)
      exact ⟨y,by rw [add_mk,add_mk,cell_of_heap h2,Nat.zero_add]; exact e1,e2,e3⟩
   ·simp at h
  ·simp at h
 ·simp at h
theorem flatten_inv {rows:List (List D)} {sz:Nat} (hs:∀ r∈rows,r.length=sz):∀ {k:Nat} {d:D},rows.flatten[k]? = some d→∃ i r j,rows[i]? = some r∧r[j]? = some d∧k=i * sz+j∧j<sz:=by
 induction rows with
 | nil=>intro k d h; simp at h
 | cons r0 rows ih=>
  intro k d h
  have h0:r0.length=sz:=hs r0 (by simp)
  simp only [List.flatten_cons] at h
  by_cases hk:k<r0.length
  ·rw [List.getElem?_append_left hk] at h
   exact ⟨0,r0,k,by simp,h,by simp,by omega⟩
  ·rw [List.getElem?_append_right (by omega)] at h
   obtain ⟨i,r,j,h1,h2,h3,h4⟩:=ih (fun r hr=>hs r (by simp [hr])) h
   exact ⟨i+1,r,j,by simpa using h1,h2,by rw [Nat.succ_mul]; omega,h4⟩
theorem flatten_length' {rows:List (List D)} {sz:Nat} (hs:∀ r∈rows,r.length=sz):rows.flatten.length=rows.length * sz:=by
 induction rows with
 | nil=>simp
 | cons r rows ih=>
  simp only [List.flatten_cons,zd,List.length_cons,hs r (by simp),ih (fun r hr=>hs r (by simp [hr])),Nat.succ_mul]
  omega
theorem CellsR.of_getD {c:List D} {cs:Array Value} (h:CellsR E c cs) {j:Nat} {d:D} (hj:c[j]? = some d):Rd E d (cs.getD j undef):=by
 obtain ⟨y,h1,_,h3⟩:=h j d hj
 simpa [Array.getD_eq_getD_getElem?,h1] using h3
theorem append_core (hR:Rel E om) {e:Nat} {ei:TI} (hpos:0<ei.size)
  {x:Value} {rows rows':List (List D)} {om':List Ob} {m:Sem Value}
  (hbase:(x=.slice none 0 0∧rows=[]∧om'=om)∨∃ k,x=E.g k∧om[k]? = some (.slc e ei.size rows)∧om'=om.set k .dead)
  (hrs:∀ r∈rows,r.length=ei.size) (hs':∀ r∈rows',r.length=ei.size) {xs:List Value} (hxs:CellsR E rows.flatten xs.toArray) (hown:E.w.ownsRow 0 e ei.size x rows.length xs)
  {v1:Value} {w1:World} {news:List Value} (hrun:m.run P E.w=.ok v1 w1) (hown1:w1.ownsRow 0 e ei.size v1 (rows.length+rows'.length) (xs++news)) (hgrow:E.w.grownBy w1 x.ownBlock) (hnews:CellsR E rows'.flatten news.toArray)
  (hblk:v1.ownBlock=x.ownBlock∨v1.ownBlock=some E.w.heap.size) :
  Eff P m E om (.own om.length) (om'++[.slc e ei.size (rows++rows')]):=by
 have hall:∀ r∈rows++rows',r.length=ei.size:=fun r hr=>(List.mem_append.1 hr).elim (hrs r) (hs' r)
 have hcells:CellsR E (rows++rows').flatten (xs++news).toArray:=by
  have hxl:xs.length=rows.flatten.length:=by rw [flatten_length' hrs]; exact hown.1
  intro j d hj
  rw [List.flatten_append,List.getElem?_append] at hj
  split at hj
  ·rename_i hlt
   obtain ⟨y,e1,e2⟩:=hxs j d hj
   simp only [za] at e1
   exact ⟨y,by simp only [za]; rw [List.getElem?_append_left (by omega)]; exact e1,e2⟩
  ·rename_i hlt
   obtain ⟨y,e1,e2⟩:=hnews _ d hj
   simp only [za] at e1
   exact ⟨y,by simp only [za]; rw [List.getElem?_append_right (by omega),hxl]; exact e1,e2⟩
 have hone:v1.oneCell'=true:=by
  rcases hown1.2 with ⟨rfl,_⟩ | ⟨g,cap,cur,rfl,_⟩ <;> rfl
 have hbv:∀ b,hb v1=some b→v1.ownBlock=some b:=by
  intro b hb'
  rcases hown1.2 with ⟨rfl,_⟩ | ⟨g,cap,cur,rfl,_⟩
  ·simp [hb] at hb'
  ·simpa [hb,Value.ownBlock] using hb'
 have hOb:∀ (om1:List Ob),Ext E om (E.push v1 w1) om1→(∀ b,v1.ownBlock=some b→¬ E.A b)→ObR (E.push v1 w1) E.n (.slc e ei.size (rows++rows')):=by
  intro om1 hx hA
  refine ⟨hpos,hall,?_⟩
  rcases hown1.2 with ⟨h1,h2⟩ | ⟨g,cap,cur,h1,_,h2,h3,h4,h5,h6⟩
  ·refine .inl ⟨by simp [Env.push,h1],?_⟩
   have e1:rows=[]:=zb (by omega)
   have e2:rows'=[]:=zb (by omega)
   simp [e1,e2]
  ·refine .inr ⟨g,cur,cap,by simp [Env.push,h1],h2,hA g (by rw [h1]; rfl),h5,by simpa using h3,h4,?_⟩
   intro j d hj
   obtain ⟨y,e1,e2,e3⟩:=hcells j d hj
   refine ⟨y,?_,e2,e3.ext hR hx⟩
   simp only [za] at e1
   rw [← h6,List.getElem?_take] at e1
   split at e1
   ·simpa using e1
   ·simp at e1
 rcases hbase with ⟨h1,h2,h3⟩ | ⟨k,h1,h2,h3⟩
 ·subst h3
  have hxo:x.ownBlock=none:=by rw [h1]; rfl
  obtain ⟨q1,q2,q3,_⟩:=push_ok hR v1 w1 (.slc e ei.size (rows++rows')) hone hgrow.size hgrow.os hgrow.tape hgrow.output (fun b hb'=>hgrow.block b hb' (by rw [hxo]; simp))
   (fun b _ hb'=>by
    have:=hbv b hb'
    rw [hxo] at hblk
    rcases hblk with hh | hh
    ·rw [this] at hh; simp at hh
    ·rw [this] at hh; simp only [Option.some.injEq] at hh; omega)
   (fun hx=>hOb _ hx (fun b hb' hA=>by
    rw [hxo] at hblk
    rcases hblk with hh | hh
    ·rw [hb'] at hh; simp at hh
    ·rw [hb'] at hh; simp only [Option.some.injEq] at hh
     have:=hR.old b hA
     omega))
  exact ⟨_,v1,hrun,q1,q2,q3⟩
 ·subst h3
  obtain ⟨hR',hsub⟩:=hR.kill k
  have hxb:∀ b,x.ownBlock=some b→hb (E.g k)=some b:=by
   intro b hb'
   rw [h1] at hb'
   obtain ⟨_,_,hh | ⟨b',cs,cap,q1,_⟩⟩:=hR.ob k _ h2
   ·rw [hh.1] at hb'; simp [Value.ownBlock] at hb'
   ·rw [q1] at hb' ⊢; simpa [hb,Value.ownBlock] using hb'
  obtain ⟨q1,q2,q3,_⟩:=push_ok' hR hR' hsub x.ownBlock (fun b hb'=>hR.killed h2 rfl (hxb b hb')) v1 w1 (.slc e ei.size (rows++rows')) hone hgrow.size hgrow.os hgrow.tape hgrow.output (fun b hb' hne=>hgrow.block b hb' hne)
   (fun b _ hb'=>by
    have:=hbv b hb'
    rcases hblk with hh | hh
    ·exact .inr (by rw [← hh]; exact this)
    ·rw [this] at hh; simp only [Option.some.injEq] at hh; exact .inl (by omega))
   (fun hx=>hOb _ hx (fun b hb' hA=>by
    rcases hblk with hh | hh
    ·have:=(hR.live_lt (hR.killed h2 rfl (hxb b (by rw [← hh]; exact hb'))).1).2
     exact this hA
    ·rw [hb'] at hh; simp only [Option.some.injEq] at hh
     have:=hR.old b hA
     omega))
  have hl:(om.set k Ob.dead).length=om.length:=by simp
  rw [hl] at q3
  exact ⟨_,v1,hrun,q1,q2,q3⟩
theorem append_base (hR:Rel E om) {e:Nat} {ei:TI} {x:Value} {rows:List (List D)} {om':List Ob}
  (hbase:(x=.slice none 0 0∧rows=[]∧om'=om)∨∃ k,x=E.g k∧om[k]? = some (.slc e ei.size rows)∧om'=om.set k .dead) :
  (∃ xs:List Value,CellsR E rows.flatten xs.toArray∧E.w.ownsRow 0 e ei.size x rows.length xs)∧∀ r∈rows,r.length=ei.size:=by
 have h1:∃ xs:List Value,CellsR E rows.flatten xs.toArray∧E.w.ownsRow 0 e ei.size x rows.length xs:=by
  rcases hbase with ⟨h1,h2,_⟩ | ⟨k,h1,h2,_⟩
  ·refine ⟨[],by subst h2; intro j d hj; simp at hj,?_⟩
   subst h1 h2
   exact ⟨by simp,.inl ⟨rfl,rfl⟩⟩
  ·obtain ⟨_,hs,hh | ⟨b,cs,cap,q1,q2,q3,q4,q5,q6,q7⟩⟩:=hR.ob k _ h2
   ·refine ⟨[],by rw [hh.2]; intro j d hj; simp at hj,?_⟩
    rw [h1,hh.1,hh.2]
    exact ⟨by simp,.inl ⟨rfl,rfl⟩⟩
   ·have hle:rows.length * ei.size≤cs.size:=by rw [q4]; exact Nat.mul_le_mul_right _ q5
    refine ⟨cs.toList.take (rows.length * ei.size),fun j d hj=>?_,?_⟩
    ·obtain ⟨y,e1,e2,e3⟩:=q7 j d hj
     have hlt:j<rows.length * ei.size:=by
      rw [← flatten_length' hs]
      exact (List.getElem?_eq_some_iff.1 hj).1
     refine ⟨y,?_,e2,e3⟩
     simp only [za,List.getElem?_take_of_lt hlt]
     simpa using e1
    ·rw [h1,q1]
     exact ⟨by simp; omega,.inr ⟨b,cap,cs,rfl,ze _,q2,q5,q6,q4,rfl⟩⟩
 have hrs:∀ r∈rows,r.length=ei.size:=by
  rcases hbase with ⟨_,h2,_⟩ | ⟨k,h1,h2,_⟩
  ·simp [h2]
  ·exact (hR.ob k _ h2).2.1
 exact ⟨h1,hrs⟩
theorem append_ok (hT:TabOk P T) (hR:Rel E om) {t ty e:Nat} {i ei:TI} (ht:T t=some i) (hk:i.kd=.slice e) (he:T e=some ei) (hpos:0<ei.size)
  {x y:Value} {rows rows':List (List D)} {src:D} {om':List Ob}
  (hbase:(x=.slice none 0 0∧rows=[]∧om'=om)∨∃ k,x=E.g k∧om[k]? = some (.slc e ei.size rows)∧om'=om.set k .dead)
  (hsrc:srcRows om ei.size src=some rows') (hy:Rd E src y) (hroom:(rows.length+rows'.length) * ei.bytes≤140737488355328) (hby:0<ei.bytes) :
  Eff P (Builtin.append_ #[t,t] ty #[x,y]) E om (.own om.length) (om'++[.slc e ei.size (rows++rows')]):=by
 have hu:=(hT _ _ ht).slice hk
 obtain ⟨inf,z,hinf,hsize,hbytes,hzero,hz,_⟩:=(hT _ _ he).info
 have hzs:z.cells.size=ei.size:=by rw [← (hT _ _ he).len,← hz]; simp
 have hsum:rows.length+rows'.length≤140737488355328:=Nat.le_trans (Nat.le_mul_of_pos_right _ hby) hroom
 obtain ⟨⟨xs,hxs,hown⟩,hrs⟩:=append_base hR hbase
 obtain ⟨a,m,c,rfl,hs',hcase⟩:=srcRows_ok hR hsrc hy
 obtain ⟨v1,w1,news,hrun,hown1,hgrow,hnews,hblk⟩:∃ v1 w1 news,(Builtin.append_ #[t,t] ty #[x,.slice a m c]).run P E.w=.ok v1 w1∧w1.ownsRow 0 e ei.size v1 (rows.length+rows'.length) (xs++news)∧E.w.grownBy w1 x.ownBlock∧CellsR E rows'.flatten news.toArray∧(v1.ownBlock=x.ownBlock∨v1.ownBlock=some E.w.heap.size):=by
  have nothing:rows'=[]→m=0→∃ v1 w1 news,(Builtin.append_ #[t,t] ty #[x,.slice a m c]).run P E.w=.ok v1 w1∧w1.ownsRow 0 e ei.size v1 (rows.length+rows'.length) (xs++news)∧E.w.grownBy w1 x.ownBlock∧CellsR E rows'.flatten news.toArray∧(v1.ownBlock=x.ownBlock∨v1.ownBlock=some E.w.heap.size):=by
   intro hr0 hm0
   subst hr0 hm0
   refine ⟨x,E.w,[],?_,by simpa using hown,World.grownBy.refl _ _,by intro j d hj; simp at hj,.inl rfl⟩
   have hfirst:∀ w:World,(Builtin.firstCells ei.size 0 (.slice a 0 c)).run P w=.ok #[] w:=by
    intro w
    cases a with
    | none=>simp [Builtin.firstCells]
    | some ad=>simp [Builtin.firstCells,loadCells,loadCellsFrom]
   rcases hown.2 with ⟨rfl,_⟩ | ⟨g,cap,cur,rfl,_,_,hnc,_⟩
   ·simp [Builtin.append_,run_underlying hu,(hT _ _ he).sizeOf,Builtin.lenOf,hfirst]
   ·simp [Builtin.append_,run_underlying hu,(hT _ _ he).sizeOf,Builtin.lenOf,hnc,hfirst,storeCells]
  rcases hcase with ⟨hr0,ha,hm0⟩ | ⟨hm,hcase⟩
  ·exact nothing hr0 hm0
  ·rcases hcase with hr0 | ⟨ad,ha,hrow⟩
   ·exact nothing hr0 (by rw [hm,hr0]; rfl)
   ·subst ha hm
    have hlen':rows'.flatten.length=rows'.length * ei.size:=flatten_length' hs'
    have hnews:∀ j d,rows'.flatten[j]? = some d→∃ u,E.w.cell? (ad.add j)=some u∧u.oneCell'=true∧Rd E d u:=by
     intro j d hj
     obtain ⟨i',r,j',h1,h2,h3,h4⟩:=flatten_inv hs' hj
     obtain ⟨u,e1,e2,e3⟩:=hrow i' r h1 j' d h2
     exact ⟨u,by rw [h3,← add_add]; exact e1,e2,e3⟩
    refine (run_append_own_at (P:=P) E.w 0 t ty e inf z ei.size ei.bytes hu hinf hzero hsize hbytes hzs hpos x rows.length xs hown ad rows'.length c
     ((List.range rows'.flatten.length).map fun j=>(E.w.cell? (ad.add j)).getD undef) (by simp [hlen']) ?_ ?_ (by simp only [maxLen]; omega) hroom (ze _)).elim fun v1 ⟨w1,q1,q2,q3,_,q5⟩=>⟨v1,w1,_,q1,q2,q3,?_,q5⟩
    ·intro j u hj
     simp only [zc,Option.map_eq_some_iff] at hj
     obtain ⟨j',hj',rfl⟩:=hj
     have hlt:=(List.getElem?_eq_some_iff.1 hj').1
     simp only [List.length_range] at hlt
     rw [List.getElem?_range hlt] at hj'
     simp only [Option.some.injEq] at hj'
     subst hj'
     obtain ⟨u,e1,_⟩:=hnews j _ (List.getElem?_eq_getElem hlt)
     simp [e1]
    ·intro u hu'
     simp only [List.mem_map,List.mem_range] at hu'
     obtain ⟨j,hlt,rfl⟩:=hu'
     obtain ⟨u,e1,e2,_⟩:=hnews j _ (List.getElem?_eq_getElem hlt)
     simp [e1,e2]
    ·intro j d hj
     have hlt:=(List.getElem?_eq_some_iff.1 hj).1
     obtain ⟨u,e1,e2,e3⟩:=hnews j d hj
     exact ⟨u,by rw [za,zc,List.getElem?_range hlt]; simp [e1],e2,e3⟩
 exact append_core hR hpos hbase hrs hs' hxs hown hrun hown1 hgrow hnews hblk
theorem append_str_ok (hT:TabOk P T) (hR:Rel E om) {t u ty e:Nat} {i ui ei:TI} (ht:T t=some i) (hk:i.kd=.slice e) (hu:T u=some ui) (hku:ui.kd=.str) (he:T e=some ei) (hsz:ei.size=1) (hbt:ei.bytes=1)
  {x:Value} {rows:List (List D)} {s:ByteArray} {om':List Ob}
  (hbase:(x=.slice none 0 0∧rows=[]∧om'=om)∨∃ k,x=E.g k∧om[k]? = some (.slc e ei.size rows)∧om'=om.set k .dead)
  (hroom:rows.length+s.size≤140737488355328) :
  Eff P (Builtin.append_ #[t,u] ty #[x,.string s]) E om (.own om.length) (om'++[.slc e ei.size (rows++strRows s)]):=by
 have hut:=(hT _ _ ht).slice hk
 have huu:=(hT _ _ hu).str hku
 obtain ⟨inf,z,hinf,hsize,hbytes,hzero,hz,_⟩:=(hT _ _ he).info
 have hzs:z.cells.size=1:=by rw [← hsz,← (hT _ _ he).len,← hz]; simp
 obtain ⟨⟨xs,hxs,hown⟩,hrs⟩:=append_base hR hbase
 have hlen:(strRows s).length=s.size:=by unfold strRows; rw [List.length_map,Array.length_toList]; rfl
 have hall:∀ r∈strRows s,r.length=ei.size:=by
  intro r hr
  obtain ⟨b,_,rfl⟩:=List.mem_map.1 hr
  rw [hsz]; rfl
 have hnews:CellsR E (strRows s).flatten (Lib.strCells s).toArray:=by
  intro j d hj
  have e1:(strRows s).flatten=s.data.toList.map fun b=>D.v (.int .u8 b.toNat):=by
   unfold strRows
   generalize s.data.toList=l
   induction l with
   | nil=>rfl
   | cons b l ih=>simp [ih]
  rw [e1,zc,Option.map_eq_some_iff] at hj
  obtain ⟨b,hb',rfl⟩:=hj
  exact ⟨.int .u8 b.toNat,by simp only [za,Lib.strCells,zc,hb',Option.map_some],rfl,.v _⟩
 suffices ∃ v1 w1,(Builtin.append_ #[t,u] ty #[x,.string s]).run P E.w=.ok v1 w1∧w1.ownsRow 0 e 1 v1 (rows.length+s.size) (xs++Lib.strCells s)∧E.w.grownBy w1 x.ownBlock∧(v1.ownBlock=x.ownBlock∨v1.ownBlock=some E.w.heap.size) by
  obtain ⟨v1,w1,hrun,h1,h2,h3⟩:=this
  exact append_core hR (by rw [hsz]; exact Nat.one_pos) hbase hrs hall hxs hown hrun (by rw [hsz,hlen]; exact h1) h2 hnews h3
 rw [hsz] at hown
 generalize rows.length=n at hown hroom ⊢
 have h63:n+s.size≤maxLen:=by simp only [maxLen]; omega
 have hxl:xs.length=n:=by simpa using hown.1
 have hll:(xs++Lib.strCells s).length=(n+s.size) * 1:=by rw [zd,hxl,Lib.strCells_length,Nat.mul_one]
 have grown:∀ (old:Nat),old<n+s.size→∀ (row:Option Nat),
   (E.w.drew.alloc (.cells (xs.toArray++(Lib.strCells s).toArray++Builtin.zeroCells z.cells (grownCap E.w (n+s.size) old e - (n+s.size))) e)).ownsRow 0 e 1
    (.slice (some ⟨E.w.heap.size,0,none⟩) (n+s.size) (grownCap E.w (n+s.size) old e)) (n+s.size) (xs++Lib.strCells s) ∧
   E.w.grownBy (E.w.drew.alloc (.cells (xs.toArray++(Lib.strCells s).toArray++Builtin.zeroCells z.cells (grownCap E.w (n+s.size) old e - (n+s.size))) e)) row:=by
  intro old ho row
  have hge:=grownCap_ge E.w (n+s.size) old e
  refine ⟨⟨hll,.inr ⟨E.w.heap.size,_,_,rfl,ze _,heap_alloc_new E.w.drew _,hge,grownCap_le_maxLen E.w (n+s.size) old e h63,?_,?_⟩⟩,⟨rfl,rfl,rfl,by simp,fun k hk _=>heap_alloc_old E.w.drew _ hk⟩⟩
  ·simp only [Array.size_append,List.size_toArray,size_zeroCells,hzs,hxl,Lib.strCells_length]
   omega
  ·simp only [Array.toList_append,List.append_assoc]
   rw [← List.append_assoc,← hll]
   exact List.take_left
 have hb1:inf.bytes=1:=by rw [hbytes,hbt]
 have hs1:inf.size=1:=by rw [hsize,hsz]
 rcases hown.2 with ⟨rfl,rfl⟩ | ⟨g,cap,cur,rfl,hbg,hg,hnc,hcm,hcs,htake⟩
 ·obtain rfl:xs=[]:=zb hxl
  by_cases hm:s.size=0
  ·have hn:Lib.strCells s=[]:=zb (by rw [Lib.strCells_length]; exact hm)
   refine ⟨.slice none 0 0,E.w,?_,by rw [hm,hn]; exact World.ownsRow_nil E.w 0 e 1,World.grownBy.refl _ _,.inl rfl⟩
   have hf:=Lib.run_firstCells_string (P:=P) E.w 1 s
   rw [hm] at hf
   simp [Builtin.append_,run_underlying hut,run_underlying huu,sizeOf,typeInfo,hinf,hs1,Builtin.lenOf,hm,hf]
  ·have hr:=run_append_nil_string (P:=P) E.w t u ty e inf z hut huu hinf hzero s (by omega) (by omega) (by rw [hb1]; omega)
   have hgr:=grown 0 (by omega) (Value.ownBlock (.slice none 0 0))
   simp only [Nat.zero_add,List.nil_append,Array.empty_append] at hgr ⊢
   have e1:(s.data.map fun b=>Value.int .u8 b.toNat)=(Lib.strCells s).toArray:=by
    apply Array.ext'
    simp [Lib.strCells]
   rw [e1] at hr
   exact ⟨_,_,hr,hgr.1,hgr.2,.inr rfl⟩
 ·by_cases hroom':n+s.size≤cap
  ·have hcs':cur.size=cap:=by simpa using hcs
   have hr:=Lib.run_append_room_string (P:=P) E.w t u ty e inf hut huu hinf hs1 g n cap cur hg s hroom' (by omega)
   refine ⟨_,_,hr,⟨hll,.inr ⟨g,cap,_,rfl,hbg,setRow_heap E.w g cur _ e _ hg,hroom',hcm,?_,?_⟩⟩,⟨rfl,rfl,rfl,by simp,fun k _ hk=>setRow_other E.w g k _ (fun e=>hk (by simp [Value.ownBlock,e]))⟩,.inl rfl⟩
   ·simp only [List.size_toArray,zd,List.length_take,List.length_drop,Array.length_toList,Lib.strCells_length]
    omega
   ·have ht':cur.toList.take n=xs:=by simpa using htake
    rw [ht',← hll]
    exact List.take_left
  ·have holds:∀ j u,xs[j]? = some u→E.w.cell? ((⟨g,0,none⟩:Addr).add j)=some u:=hown.cells (g:=g) rfl
   have hr:=Lib.run_append_grow_string (P:=P) E.w t u ty e inf z hut huu hinf hzero ⟨g,0,none⟩ n cap xs (by rw [hs1]; simpa using hxl) holds s (by omega) (by omega) (by rw [hb1]; exact growslice_fits (by omega) (by omega))
   have hgr:=grown cap (by omega) (Value.ownBlock (.slice (some ⟨g,0,none⟩) n cap))
   exact ⟨_,_,hr,hgr.1,hgr.2,.inr rfl⟩
end
end Go.Proofs.YtbmedfjmccnclaaGreat.AWP
namespace Go.Proofs.YtbmedfjmccnclaaGreat.AWP
open Go
open _root_.Nat renaming succ_mul → za
section
variable {P:Program} {T:Tab} {E:Env} {om:List Ob}
def obSet (sz:Nat) (p:Nat) (d:D):Ob→Option Ob
 | .var ty c=>if p<c.length then some (.var ty (c.set p d)) else none
 | .slc ty sz' rows=>
  match rows[p / sz']? with
  | some r=>some (.slc ty sz' (rows.set (p / sz') (r.set (p % sz') d)))
  | none=>none
 | _=>none
theorem set_flatten {rows:List (List D)} {sz i j:Nat} {r:List D} {d:D} (hs:∀ r∈rows,r.length=sz) (hi:rows[i]? = some r) (hj:j<sz) :
  (rows.set i (r.set j d)).flatten=rows.flatten.set (i * sz+j) d:=by
 induction rows generalizing i with
 | nil=>simp at hi
 | cons r0 rows ih=>
  have h0:r0.length=sz:=hs r0 (by simp)
  cases i with
  | zero=>
   simp only [List.getElem?_cons_zero,Option.some.injEq] at hi
   subst hi
   simp only [List.set_cons_zero,List.flatten_cons,Nat.zero_mul,Nat.zero_add]
   rw [List.set_append_left _ _ (by omega)]
  | succ i=>
   simp only [List.getElem?_cons_succ] at hi
   simp only [List.set_cons_succ,List.flatten_cons,ih (fun r hr=>hs r (by simp [hr])) hi]
   rw [List.set_append_right _ _ (by rw [za]; omega)]
   congr 2
   rw [za]
   omega
theorem heap_setCell (w:World) (b p:Nat) (v:Value) (cs:Array Value) (ty:TypeId) (h:w.heap[b]? = some (.cells cs ty (0,0))):(w.setCell ⟨b,p,none⟩ v).heap[b]? = some (.cells (cs.setIfInBounds p v) ty (0,0)):=by
 simp [World.setCell,Array.getElem?_modify,h]
theorem heap_setCell_ne (w:World) (b p:Nat) (v:Value) (b':Nat) (h:b'≠b):(w.setCell ⟨b,p,none⟩ v).heap[b']? = w.heap[b']?:=by
 simp only [World.setCell,Array.getElem?_modify]
 rw [if_neg (fun e=>h e.symm)]
theorem CellsR.set {E':Env} {c:List D} {cs:Array Value} {p:Nat} {d:D} {v:Value} (h:CellsR E' c cs) (hv:v.oneCell'=true) (hd:Rd E' d v):CellsR E' (c.set p d) (cs.setIfInBounds p v):=by
 intro j d' hj
 rw [List.getElem?_set] at hj
 split at hj
 ·rename_i e
  subst e
  split at hj
  ·rename_i hlt
   simp only [Option.some.injEq] at hj
   subst hj
   obtain ⟨y,e1,_⟩:=h p _ (List.getElem?_eq_getElem hlt)
   have hl:=(Array.getElem?_eq_some_iff.1 e1).1
   exact ⟨v,by simp [Array.getElem?_setIfInBounds,hl],hv,hd⟩
  ·simp at hj
 ·rename_i e
  obtain ⟨y,e1,e2⟩:=h j d' hj
  exact ⟨y,by rw [Array.getElem?_setIfInBounds,if_neg e]; exact e1,e2⟩
theorem setCell_ok (hR:Rel E om) {k b p:Nat} {o o':Ob} {d:D} {v:Value} (ho:om[k]? = some o) (hl:o.live=true) (hg:hb (E.g k)=some b) (hset:obSet 0 p d o=some o') (hv:v.oneCell'=true) (hd:Rd E d v) :
  E.w.cell? ⟨b,p,none⟩≠none∧E.w.frozen? ⟨b,p,none⟩=false∧Ext E om { E with w:=E.w.setCell ⟨b,p,none⟩ v } (om.set k o')∧Rel { E with w:=E.w.setCell ⟨b,p,none⟩ v } (om.set k o')∧o'.live=true:=by
 have hlive:Live E om b:=⟨k,o,ho,hl,hg⟩
 have hlt:=hR.live_lt hlive
 have hk:k<om.length:=(List.getElem?_eq_some_iff.1 ho).1
 have hl':o'.live=true:=by
  cases o with
  | var ty c=>
   simp only [obSet] at hset
   split at hset
   ·simp only [Option.some.injEq] at hset; subst hset; rfl
   ·simp at hset
  | slc ty sz rows=>
   simp only [obSet] at hset
   split at hset
   ·simp only [Option.some.injEq] at hset; subst hset; rfl
   ·simp at hset
  | _=>simp [obSet] at hset
 have hget:∀ j o1,(om.set k o')[j]? = some o1→(j=k∧o1=o')∨(j≠k∧om[j]? = some o1):=by
  intro j o1 h
  rw [List.getElem?_set] at h
  split at h
  ·rename_i e
   have h':o'=o1:=by simpa [hk] using h
   exact .inl ⟨e.symm,h'.symm⟩
  ·rename_i e
   exact .inr ⟨fun h=>e h.symm,h⟩
 have hx:Ext E om { E with w:=E.w.setCell ⟨b,p,none⟩ v } (om.set k o'):=by
  refine ⟨Nat.le_refl _,fun _ _=>rfl,fun _ h=>h,by simp,rfl,rfl,rfl,fun b' hb' hn=>heap_setCell_ne _ _ _ _ _ (fun e=>hn (e ▸ hlive)),?_,fun b hA=>.inl hA⟩
  rintro b' ⟨j,o1,hj,hlj,hgj⟩
  rcases hget j o1 hj with ⟨rfl,rfl⟩ | ⟨_,h⟩
  ·exact .inl ⟨j,o,ho,hl,hgj⟩
  ·exact .inl ⟨j,o1,h,hlj,hgj⟩
 have hcore:∀ (cs:Array Value) (ty:TypeId) (c:List D),E.w.heap[b]? = some (.cells cs ty (0,0))→CellsR E c cs→p<cs.size →
   E.w.cell? ⟨b,p,none⟩≠none∧E.w.frozen? ⟨b,p,none⟩=false∧(E.w.setCell ⟨b,p,none⟩ v).heap[b]? = some (.cells (cs.setIfInBounds p v) ty (0,0))∧CellsR { E with w:=E.w.setCell ⟨b,p,none⟩ v } (c.set p d) (cs.setIfInBounds p v):=by
  intro cs ty c h1 h2 h3
  refine ⟨by rw [cell_of_heap h1]; simp [h3],by simp [World.frozen?,h1],heap_setCell _ _ _ _ _ _ h1,(h2.ext hR hx).set hv (hd.ext hR hx)⟩
 have hob:=hR.ob k o ho
 have main:E.w.cell? ⟨b,p,none⟩≠none∧E.w.frozen? ⟨b,p,none⟩=false∧ObR { E with w:=E.w.setCell ⟨b,p,none⟩ v } k o':=by
  cases o with
  | var ty c=>
   simp only [obSet] at hset
   split at hset
   ·rename_i hp
    simp only [Option.some.injEq] at hset
    subst hset
    obtain ⟨b',cs,h1,h2,h3,h4,h5⟩:=hob
    rw [h1] at hg
    simp only [hb,Option.some.injEq] at hg
    subst hg
    obtain ⟨q1,q2,q3,q4⟩:=hcore cs ty c h2 h5 (by omega)
    exact ⟨q1,q2,b',_,h1,q3,h3,by simp [h4],q4⟩
   ·simp at hset
  | slc ty sz rows=>
   simp only [obSet] at hset
   split at hset
   ·rename_i r hr
    simp only [Option.some.injEq] at hset
    subst hset
    obtain ⟨h0,hs,h1 | ⟨b',cs,cap,h1,h2,h3,h4,h5,h6,h7⟩⟩:=hob
    ·rw [h1.2] at hr; simp at hr
    ·rw [h1] at hg
     simp only [hb,Option.some.injEq] at hg
     subst hg
     have hi:=(List.getElem?_eq_some_iff.1 hr).1
     have hdm:p / sz * sz+p % sz=p:=by rw [Nat.mul_comm]; exact Nat.div_add_mod p sz
     have hmod:=Nat.mod_lt p h0
     have hp:p<rows.length * sz:=by
      have:(p / sz+1) * sz≤rows.length * sz:=Nat.mul_le_mul_right _ hi
      rw [za] at this
      omega
     have hpc:p<cs.size:=by rw [h4]; exact Nat.lt_of_lt_of_le hp (Nat.mul_le_mul_right _ h5)
     obtain ⟨q1,q2,q3,q4⟩:=hcore cs ty _ h2 h7 hpc
     refine ⟨q1,q2,h0,fun r' hr'=>?_,.inr ⟨b',_,cap,by simpa using h1,q3,h3,by simp [h4],by simpa using h5,h6,?_⟩⟩
     ·rcases List.mem_or_eq_of_mem_set hr' with h | h
      ·exact hs r' h
      ·subst h; simp; exact hs r (List.mem_of_getElem? hr)
     ·rw [set_flatten hs hr hmod,hdm]
      exact q4
   ·simp at hset
  | _=>simp [obSet] at hset
 refine ⟨main.1,main.2.1,hx,⟨by simp [hR.len],fun j o1 hj=>?_,fun j j' o1 o2 b' hj hj' hlj hlj' h1 h2=>?_,fun b' hA=>by have:=hR.old b' hA; simpa using this,hR.one,fun g c h=>(hR.gt g c h).ext hR hx⟩,hl'⟩
 ·rcases hget j o1 hj with ⟨rfl,rfl⟩ | ⟨hne,h⟩
  ·exact main.2.2
  ·refine ObR.keep hR hx (by rw [← hR.len]; exact (List.getElem?_eq_some_iff.1 h).1) (hR.ob j o1 h) fun hlj b' hgj=>⟨heap_setCell_ne _ _ _ _ _ fun e=>?_,(hR.live_lt ⟨j,o1,h,hlj,hgj⟩).2⟩
   subst e
   exact hne (hR.inj j k o1 o _ h ho hlj hl hgj hg)
 ·have back:∀ (i:Nat) (oi:Ob),(om.set k o')[i]? = some oi→oi.live=true→∃ oi',om[i]? = some oi'∧oi'.live=true:=by
   intro i oi hi hli
   rcases hget i oi hi with ⟨rfl,rfl⟩ | ⟨_,h⟩
   ·exact ⟨o,ho,hl⟩
   ·exact ⟨oi,h,hli⟩
  obtain ⟨a1,a2,a3⟩:=back j o1 hj hlj
  obtain ⟨c1,c2,c3⟩:=back j' o2 hj' hlj'
  exact hR.inj j j' a1 c1 b' a2 c2 a3 c3 h1 h2
def obPut:Ob→Nat→List D→Option Ob
 | o,_,[]=>some o
 | o,p,d :: c=>
  match obSet 0 p d o with
  | some o'=>obPut o' (p+1) c
  | none=>none
theorem storeCells_ok:∀ (c:List D) (vs:List Value) (i:Nat) (E:Env) (om:List Ob) (k b off:Nat) (o o':Ob),Rel E om→om[k]? = some o→o.live=true→hb (E.g k)=some b→obPut o (off+i) c=some o' →
  c.length=vs.length→(∀ (j:Nat) (d:D),c[j]? = some d→∃ y,vs[j]? = some y∧y.oneCell'=true∧Rd E d y) →
  ∃ E',(storeCells ⟨b,off,none⟩ vs i).run P E.w=.ok () E'.w∧Ext E om E' (om.set k o')∧Rel E' (om.set k o'):=by
 intro c
 induction c with
 | nil=>
  intro vs i E om k b off o o' hR ho hl hg hp hlen hv
  obtain rfl:vs=[]:=List.eq_nil_of_length_eq_zero (by simpa using hlen.symm)
  simp only [obPut,Option.some.injEq] at hp
  subst hp
  have:om.set k o=om:=by
   obtain ⟨hk,e⟩:=List.getElem?_eq_some_iff.1 ho
   rw [← e]
   exact List.set_getElem_self hk
  rw [this]
  exact ⟨E,rfl,Ext.refl _ _,hR⟩
 | cons d c ih=>
  intro vs i E om k b off o o' hR ho hl hg hp hlen hv
  cases vs with
  | nil=>simp at hlen
  | cons v vs=>
   simp only [obPut] at hp
   split at hp
   ·rename_i o1 hs
    obtain ⟨y,e1,e2,e3⟩:=hv 0 d (by simp)
    simp only [List.getElem?_cons_zero,Option.some.injEq] at e1
    subst e1
    obtain ⟨q1,q2,q3,q4,q5⟩:=setCell_ok hR ho hl hg hs e2 e3
    have hk:k<om.length:=(List.getElem?_eq_some_iff.1 ho).1
    obtain ⟨E',r1,r2,r3⟩:=ih vs (i+1) { E with w:=E.w.setCell ⟨b,off+i,none⟩ v } (om.set k o1) k b off o1 o' q4 (by simp [hk]) q5 hg hp (by simpa using hlen)
     (fun j d' hj=>by
      obtain ⟨y,f1,f2,f3⟩:=hv (j+1) d' (by simpa using hj)
      exact ⟨y,by simpa using f1,f2,f3.ext hR q3⟩)
    refine ⟨E',?_,?_,?_⟩
    ·simp only [storeCells,Sem.run_bind,add_mk,run_store P _ _ _ _ e2]
     cases hc:E.w.cell? ⟨b,off+i,none⟩ with
     | none=>exact absurd hc q1
     | some u=>simp only [q2,Bool.false_eq_true,if_false,Result.andThen_ok]; exact r1
    ·have:=q3.trans r2
     simpa using this
    ·simpa using r3
   ·simp at hp
def obAt (om:List Ob):D→Option (Nat × Nat)
 | .ref k off=>some (k,off)
 | .rel k sz i j=>some (k,i * sz+j)
 | _=>none
def qStore (T:Tab) (om:List Ob) (t:Nat) (a x:D):Option (List Ob):=
 match T t with
 | some i=>
  match obAt om a,cellsOf x with
  | some (k,p),some c=>
   if c.length=i.size then
    match om[k]? with
    | some o=>if o.live then (obPut o p c).map fun o'=>om.set k o' else none
    | none=>none
   else none
  | _,_=>none
 | none=>none
theorem qStore_ok (hT:TabOk P T) (hR:Rel E om) {t:Nat} {a x:D} {ya yx:Value} {om':List Ob} (h:qStore T om t a x=some om') (ha:Rd E a ya) (hx:Rd E x yx) :
  ∃ E',(Instr.storeAt t ya yx).run P E.w=.ok () E'.w∧Ext E om E' om'∧Rel E' om':=by
 unfold qStore at h
 split at h
 ·rename_i i ht
  split at h
  ·rename_i k p c ha' hc
   split at h
   ·rename_i hlen
    split at h
    ·rename_i o ho
     split at h
     ·rename_i hl
      simp only [Option.map_eq_some_iff] at h
      obtain ⟨o',hp,rfl⟩:=h
      obtain ⟨h1,h2⟩:=cellsOf_ok hR hc hx
      have hptr:∃ b,ya=.pointer (some ⟨b,p,none⟩)∧hb (E.g k)=some b:=by
       cases ha with
       | ref hk hg=>
        simp only [obAt,Option.some.injEq,Prod.mk.injEq] at ha'
        obtain ⟨rfl,rfl⟩:=ha'
        exact ⟨_,rfl,hg⟩
       | rel hk hg=>
        simp only [obAt,Option.some.injEq,Prod.mk.injEq] at ha'
        obtain ⟨rfl,rfl⟩:=ha'
        exact ⟨_,rfl,hg⟩
       | _=>simp [obAt] at ha'
      obtain ⟨b,rfl,hg⟩:=hptr
      obtain ⟨E',r1,r2,r3⟩:=storeCells_ok (P:=P) c yx.cells.toList 0 E om k b p o o' hR ho hl hg (by simpa using hp) (by simp [h1]) (fun j d hj=>by
       obtain ⟨y,e1,e2⟩:=h2 j d hj
       exact ⟨y,by simpa using e1,e2⟩)
      refine ⟨E',?_,r2,r3⟩
      have hsz:yx.cells.size=i.size:=by omega
      simp [Instr.storeAt,Instr.sureAddr,storeVar,(hT _ _ ht).sizeOf,hsz,r1]
     ·simp at h
    ·simp at h
   ·simp at h
  ·simp at h
 ·simp at h
end
end Go.Proofs.YtbmedfjmccnclaaGreat.AWP
namespace Go.Proofs.YtbmedfjmccnclaaGreat.AWP
open Go
open _root_.Option renaming map_eq_some_iff → za
open _root_.Nat renaming mul_le_mul_right → zb, succ_mul → zc
open _root_.List renaming replicate → zd
open _root_.Array renaming range → ze
section
variable {P:Program} {T:Tab} {E:Env} {om:List Ob}
def zeroD (i:TI):List D:=i.zero.map .v
theorem zero_cells {t:Nat} {i:TI} (hi:TIok P t i) {z:Value} (hz:z.cells.toList=i.zero):z.cells.size=(zeroD i).length∧CellsR E (zeroD i) z.cells:=by
 have hsz:z.cells.size=i.zero.length:=by rw [← hz]; simp
 refine ⟨by simp [zeroD,hsz],fun j d hj=>?_⟩
 simp only [zeroD,List.getElem?_map,za] at hj
 obtain ⟨v,hv,rfl⟩:=hj
 refine ⟨v,?_,hi.one v (List.mem_of_getElem? hv),.v v⟩
 rw [← hz] at hv
 simpa using hv
def fillD (place:Nat→Option (Nat × Nat)) (c:List D):List (Nat × D)→Option (List D)
 | []=>some c
 | (n,d) :: rest=>
  match place n,cellsOf d with
  | some (off,size),some cd=>if cd.length=size∧off+size≤c.length then fillD place (splc c off cd) rest else none
  | _,_=>none
theorem fill_ok (hR:Rel E om) (place:Nat→Option (Nat × Nat)):∀ (pd:List (Nat × D)) (pv:List (Nat × Value)) (c c':List D) (cs:Array Value),
  pd.length=pv.length→(∀ (j n:Nat) (d:D),pd[j]? = some (n,d)→∃ y,pv[j]? = some (n,y)∧Rd E d y)→CellsR E c cs→cs.size=c.length→fillD place c pd=some c' →
  ∃ cs',Instr.fill place cs pv=some cs'∧CellsR E c' cs'∧cs'.size=c'.length:=by
 intro pd
 induction pd with
 | nil=>
  intro pv c c' cs hl _ hc hs h
  obtain rfl:pv=[]:=List.eq_nil_of_length_eq_zero (by simpa using hl.symm)
  simp only [fillD,Option.some.injEq] at h
  subst h
  exact ⟨cs,rfl,hc,hs⟩
 | cons x pd ih=>
  intro pv c c' cs hl hp hc hs h
  obtain ⟨n,d⟩:=x
  cases pv with
  | nil=>simp at hl
  | cons z pv=>
   obtain ⟨y,e1,e2⟩:=hp 0 n d (by simp)
   simp only [List.getElem?_cons_zero,Option.some.injEq] at e1
   subst e1
   simp only [fillD] at h
   split at h
   ·rename_i off size cd hpl hcd
    split at h
    ·rename_i hle
     obtain ⟨rfl,hle⟩:=hle
     obtain ⟨q1,q2⟩:=cellsOf_ok hR hcd e2
     obtain ⟨r1,r2⟩:=hc.splc hs q2 q1 hle
     obtain ⟨cs',s1,s2,s3⟩:=ih pv (splc c off cd) c' _ (by simpa using hl) (fun j n d hj=>by
      obtain ⟨y,f1,f2⟩:=hp (j+1) n d (by simpa using hj)
      exact ⟨y,by simpa using f1,f2⟩) r1 r2 h
     refine ⟨cs',?_,s2,s3⟩
     have hcond:(decide (y.cells.size≠cd.length) || decide (off+y.cells.size > cs.size))=false:=by
      simp [q1]; omega
     simp only [Instr.fill,hpl]
     rw [if_neg (by simpa using hcond)]
     exact s1
    ·simp at h
   ·simp at h
def fieldPlaces (T:Tab):List (Nat × Nat)→Option (List (Nat × Nat))
 | []=>some []
 | (off,ft) :: r=>
  match T ft,fieldPlaces T r with
  | some i,some l=>some ((off,i.size) :: l)
  | _,_=>none
theorem fieldPlaces_ok (hT:TabOk P T) {w:World}:∀ (l:List Field) (pl:List (Nat × Nat)),fieldPlaces T (l.map fun f=>(f.offset,f.type))=some pl →
  (l.mapM fun f=>do pure (f.offset,← sizeOf f.type):Sem (List (Nat × Nat))).run P w=.ok pl w:=by
 intro l
 induction l with
 | nil=>intro pl h; simp only [List.map_nil,fieldPlaces,Option.some.injEq] at h; subst h; simp
 | cons f l ih=>
  intro pl h
  simp only [List.map_cons,fieldPlaces] at h
  split at h
  ·rename_i i l' h1 h2
   simp only [Option.some.injEq] at h
   subst h
   simp only [List.mapM_cons,Sem.run_bind,(hT _ _ h1).sizeOf,Result.andThen_ok,Sem.run_pure,ih l' h2]
  ·simp at h
def qBuild (T:Tab) (t:Nat) (parts:List (Nat × D)):Option D:=
 match T t with
 | some i=>
  match i.kd with
  | .struct fs=>
   match fieldPlaces T fs with
   | some pl=>(fillD (fun n=>pl[n]?) (zeroD i) parts).map .agg
   | none=>none
  | .arr _ e=>
   match T e with
   | some ei=>(fillD (fun n=>some (n * ei.size,ei.size)) (zeroD i) parts).map .agg
   | none=>none
  | _=>none
 | none=>none
theorem agg_of_cells {c:List D} {cs:Array Value} (h:CellsR E c cs) (hs:cs.size=c.length):Rd E (.agg c) (.agg cs):=by
 refine .agg cs hs (fun j hj=>?_) (fun j d hj=>h.of_getD hj)
 obtain ⟨y,e1,e2,_⟩:=h j _ (List.getElem?_eq_getElem (by omega))
 simpa [Array.getD_eq_getD_getElem?,e1] using e2
theorem qBuild_ok (hT:TabOk P T) (hR:Rel E om) {t:Nat} {pd:List (Nat × D)} {pv:List (Nat × Value)} {d:D} (h:qBuild T t pd=some d) (hl:pd.length=pv.length)
  (hp:∀ (j n:Nat) (d:D),pd[j]? = some (n,d)→∃ y,pv[j]? = some (n,y)∧Rd E d y) :
  ∃ z,(Instr.build t pv.toArray).run P E.w=.ok z E.w∧Rd E d z:=by
 unfold qBuild at h
 split at h
 ·rename_i i ht
  obtain ⟨z,hz1,hz2,_⟩:=(hT _ _ ht).zeroValue (w:=E.w)
  obtain ⟨hz3,hz4⟩:=zero_cells (E:=E) (hT _ _ ht) hz2
  split at h
  ·rename_i fs hk
   obtain ⟨l,hu,hfl⟩:=(hT _ _ ht).struct hk
   split at h
   ·rename_i pl hpl
    simp only [za] at h
    obtain ⟨c',hc',rfl⟩:=h
    rw [← hfl] at hpl
    obtain ⟨cs',s1,s2,s3⟩:=fill_ok hR (fun (n:Nat)=>pl[n]?) pd pv (zeroD i) c' z.cells hl hp hz4 hz3 hc'
    refine ⟨.agg cs',?_,agg_of_cells s2 s3⟩
    have hm:=fieldPlaces_ok hT (w:=E.w) l.toList pl hpl
    have hm':(l.mapM fun f=>do pure (f.offset,← sizeOf f.type):Sem (Array (Nat × Nat))).run P E.w=.ok pl.toArray E.w:=by
     rw [Array.mapM_eq_mapM_toList]
     simp only [Sem.run_map,hm,Result.andThen_ok]
    simp only [Instr.build,Sem.run_bind,hz1,Result.andThen_ok,run_underlying hu,hm']
    have e:(fun (n:Nat)=>(pl.toArray[n]?:Option (Nat × Nat)))=fun (n:Nat)=>pl[n]?:=by funext n; simp
    simp only [e,s1,Sem.run_pure]
   ·simp at h
  ·rename_i n e hk
   have hu:=(hT _ _ ht).arr hk
   split at h
   ·rename_i ei he
    simp only [za] at h
    obtain ⟨c',hc',rfl⟩:=h
    obtain ⟨cs',s1,s2,s3⟩:=fill_ok hR (fun n=>some (n * ei.size,ei.size)) pd pv (zeroD i) c' z.cells hl hp hz4 hz3 hc'
    refine ⟨.agg cs',?_,agg_of_cells s2 s3⟩
    simp only [Instr.build,Sem.run_bind,hz1,Result.andThen_ok,run_underlying hu,(hT _ _ he).sizeOf,s1,Sem.run_pure]
   ·simp at h
  ·simp at h
 ·simp at h
def RowsR (E:Env) (sz:Nat) (rows:List (List D)) (cs:Array Value):Prop:=
 ∀ (i:Nat) (r:List D) (j:Nat) (d:D),rows[i]? = some r→r[j]? = some d→∃ y,cs[i * sz+j]? = some y∧y.oneCell'=true∧Rd E d y
theorem RowsR.cells {sz:Nat} {rows:List (List D)} {cs:Array Value} (h:RowsR E sz rows cs) (hs:∀ r∈rows,r.length=sz):CellsR E rows.flatten cs:=by
 intro k d hk
 obtain ⟨i,r,j,h1,h2,h3,_⟩:=flatten_inv hs hk
 subst h3
 exact h i r j d h1 h2
def rowsPut (sz:Nat):List (List D)→List (Nat × D)→Option (List (List D))
 | rows,[]=>some rows
 | rows,(n,d) :: rest=>
  match cellsOf d with
  | some cd=>if cd.length=sz∧n<rows.length then rowsPut sz (rows.set n cd) rest else none
  | none=>none
theorem fillRows_ok (hR:Rel E om) (sz:Nat):∀ (pd:List (Nat × D)) (pv:List (Nat × Value)) (rows rows':List (List D)) (cs:Array Value),
  pd.length=pv.length→(∀ (j n:Nat) (d:D),pd[j]? = some (n,d)→∃ y,pv[j]? = some (n,y)∧Rd E d y)→(∀ r∈rows,r.length=sz)→RowsR E sz rows cs→cs.size=rows.length * sz→rowsPut sz rows pd=some rows' →
  ∃ cs',Instr.fill (fun i=>some (i * sz,sz)) cs pv=some cs'∧RowsR E sz rows' cs'∧cs'.size=rows'.length * sz∧(∀ r∈rows',r.length=sz)∧rows'.length=rows.length:=by
 intro pd
 induction pd with
 | nil=>
  intro pv rows rows' cs hl _ hs hc hsz h
  obtain rfl:pv=[]:=List.eq_nil_of_length_eq_zero (by simpa using hl.symm)
  simp only [rowsPut,Option.some.injEq] at h
  subst h
  exact ⟨cs,rfl,hc,hsz,hs,rfl⟩
 | cons x pd ih=>
  intro pv rows rows' cs hl hp hs hc hsz h
  obtain ⟨n,d⟩:=x
  cases pv with
  | nil=>simp at hl
  | cons z pv=>
   obtain ⟨y,e1,e2⟩:=hp 0 n d (by simp)
   simp only [List.getElem?_cons_zero,Option.some.injEq] at e1
   subst e1
   simp only [rowsPut] at h
   split at h
   ·rename_i cd hcd
    split at h
    ·rename_i hle
     obtain ⟨hcl,hn⟩:=hle
     obtain ⟨q1,q2⟩:=cellsOf_ok hR hcd e2
     have hmul:n * sz+sz≤cs.size:=by
      rw [hsz,← zc]
      exact zb _ hn
     obtain ⟨f1,f2⟩:=foldl_set y.cells.toList 0 (n * sz) cs
     have efold:y.cells.zipIdx.foldl (fun (cs:Array Value) (x:Value × Nat)=>cs.setIfInBounds (n * sz+x.2) x.1) cs=(y.cells.toList.zipIdx 0).foldl (fun (cs:Array Value) (x:Value × Nat)=>cs.setIfInBounds (n * sz+x.2) x.1) cs:=by
      rw [← Array.foldl_toList]
      simp
     obtain ⟨cs',s1,s2⟩:=ih pv (rows.set n cd) rows' (y.cells.zipIdx.foldl (fun (cs:Array Value) (x:Value × Nat)=>cs.setIfInBounds (n * sz+x.2) x.1) cs) (by simpa using hl) (fun j n d hj=>by
      obtain ⟨y,f1,f2⟩:=hp (j+1) n d (by simpa using hj)
      exact ⟨y,by simpa using f1,f2⟩)
      (fun r hr=>by
       rcases List.mem_or_eq_of_mem_set hr with h | h
       ·exact hs r h
       ·subst h; exact hcl)
      (fun i r j d' hi hj=>by
       rw [List.getElem?_set] at hi
       rw [efold,f2]
       simp only [Array.length_toList,q1,hcl,Nat.add_zero,Nat.sub_zero]
       split at hi
       ·rename_i e
        subst e
        have e':cd=r:=by simpa [hn] using hi
        subst e'
        have hjl:=(List.getElem?_eq_some_iff.1 hj).1
        obtain ⟨u,g1,g2⟩:=q2 j d' hj
        refine ⟨u,?_,g2⟩
        rw [if_pos (by omega)]
        have:n * sz+j - n * sz=j:=by omega
        rw [this]
        simpa using g1
       ·rename_i e
        have hjl:=(List.getElem?_eq_some_iff.1 hj).1
        rw [hs r (List.mem_of_getElem? hi)] at hjl
        obtain ⟨u,g1,g2⟩:=hc i r j d' hi hj
        refine ⟨u,?_,g2⟩
        rw [if_neg ?_]
        ·exact g1
        ·rintro ⟨a1,a2,_⟩
         rcases Nat.lt_or_ge i n with hlt | hge
         ·have:(i+1) * sz≤n * sz:=zb _ hlt
          rw [zc] at this
          omega
         ·have:(n+1) * sz≤i * sz:=zb _ (by omega)
          rw [zc] at this
          omega)
      (by rw [efold,f1,hsz]; simp) h
     refine ⟨cs',?_,by simpa using s2⟩
     have hcond:(decide (y.cells.size≠sz) || decide (n * sz+y.cells.size > cs.size))=false:=by
      simp [q1,hcl]; omega
     simp only [Instr.fill]
     rw [if_neg (by simpa using hcond)]
     exact s1
    ·simp at h
   ·simp at h
theorem zeroRows_ok {e:Nat} {ei:TI} (he:TIok P e ei) {z:Value} (hz:z.cells.toList=ei.zero) (n:Nat) :
  RowsR E ei.size (zd n (zeroD ei)) ((ze (n * ei.size)).map (z.cells[· % z.cells.size]!)):=by
 have hzs:z.cells.size=ei.size:=by rw [← he.len,← hz]; simp
 intro i r j d hi hj
 have hi':=(List.getElem?_eq_some_iff.1 hi).1
 simp only [List.length_replicate] at hi'
 rw [List.getElem?_replicate_of_lt hi',Option.some.injEq] at hi
 subst hi
 have hjl:=(List.getElem?_eq_some_iff.1 hj).1
 simp only [zeroD,List.length_map,he.len] at hjl
 obtain ⟨y,e1,e2⟩:=(zero_cells (E:=E) he hz).2 j d hj
 refine ⟨y,?_,e2⟩
 have hlt:i * ei.size+j<n * ei.size:=by
  have:(i+1) * ei.size≤n * ei.size:=zb _ hi'
  rw [zc] at this
  omega
 have hmod:(i * ei.size+j) % z.cells.size=j:=by rw [hzs,Nat.mul_comm,Nat.mul_add_mod,Nat.mod_eq_of_lt hjl]
 rw [Array.getElem?_map]
 simp only [Array.getElem?_range,hlt,if_true,Option.map_some,hmod]
 rw [getElem!_pos z.cells j (by omega)]
 rw [Array.getElem?_eq_getElem (by omega)] at e1
 exact e1
def qRows (T:Tab) (t len:Nat) (parts:List (Nat × D)):Option (Nat × Nat × List (List D)):=
 match T t with
 | some ⟨.slice e,_,_,_⟩=>
  match T e with
  | some ei=>if 0<ei.size∧len * ei.size≤16777216 then (rowsPut ei.size (zd len (zeroD ei)) parts).map fun rows=>(e,ei.size,rows) else none
  | none=>none
 | _=>none
theorem qRows_ok (hT:TabOk P T) (hR:Rel E om) {t len e sz:Nat} {pd:List (Nat × D)} {pv:List (Nat × Value)} {rows:List (List D)} (h:qRows T t len pd=some (e,sz,rows)) (hl:pd.length=pv.length)
  (hp:∀ (j n:Nat) (d:D),pd[j]? = some (n,d)→∃ y,pv[j]? = some (n,y)∧Rd E d y) :
  ∃ cs,(∀ w:World,w=E.w→(Instr.buildSlice t len pv.toArray).run P w=.ok (.slice (some ⟨w.heap.size,0,none⟩) rows.length rows.length) (w.alloc (.cells cs e))) ∧
   0<sz∧(∀ r∈rows,r.length=sz)∧cs.size=rows.length * sz∧rows.length≤maxLen∧CellsR E rows.flatten cs:=by
 unfold qRows at h
 split at h
 ·rename_i e' _ _ _ ht
  split at h
  ·rename_i ei he
   split at h
   ·rename_i hc
    simp only [za,Prod.mk.injEq] at h
    obtain ⟨rows',hr,rfl,rfl,rfl⟩:=h
    obtain ⟨z,hz1,hz2,_⟩:=(hT _ _ he).zeroValue (w:=E.w)
    have hz0:=zeroRows_ok (E:=E) (hT _ _ he) hz2 len
    obtain ⟨cs,s1,s2,s3,s4,s5⟩:=fillRows_ok hR ei.size pd pv (zd len (zeroD ei)) rows' _ hl hp (by intro r hr; rw [List.eq_of_mem_replicate hr]; simp [zeroD,(hT _ _ he).len]) hz0 (by simp) hr
    simp only [List.length_replicate] at s5
    refine ⟨cs,?_,hc.1,s4,s3,?_,s2.cells s4⟩
    ·rintro w rfl
     rw [s5]
     have hsmall:¬ (len * ei.size > 2 ^ 24):=by omega
     by_cases h0:len * ei.size=0
     ·have hl0:len=0:=by
       rcases Nat.mul_eq_zero.1 h0 with h | h
       ·exact h
       ·omega
      subst hl0
      have e0:(Array.map (fun (x:Nat)=>z.cells[x % z.cells.size]!) (ze (0 * ei.size))) = #[]:=by simp
      rw [e0] at s1
      have e1:Array.map (fun (_:Nat)=>(default:Value)) (ze 0) = #[]:=by simp
      simp [Instr.buildSlice,run_underlying ((hT _ _ ht).slice rfl),(hT _ _ he).sizeOf,newRow]
      rw [e1,s1]
      simp
     ·simp [Instr.buildSlice,run_underlying ((hT _ _ ht).slice rfl),(hT _ _ he).sizeOf,hsmall,h0,hz1,s1,newRow]
    ·rw [s5]
     have:len≤len * ei.size:=Nat.le_mul_of_pos_right _ hc.1
     simp only [maxLen]
     omega
   ·simp at h
  ·simp at h
 ·simp at h
end
end Go.Proofs.YtbmedfjmccnclaaGreat.AWP
namespace Go.Proofs.YtbmedfjmccnclaaGreat.AWP
open Go
theorem ba_beq (a b:ByteArray):(a == b)=true↔a=b:=by
 cases a with | mk x=>cases b with | mk y=>
 show (x == y)=true↔_
 rw [beq_iff_eq,ByteArray.mk.injEq]
def esFind (key:ByteArray):List (ByteArray × Value)→Option Value
 | []=>none
 | (s,v) :: l=>if key=s then some v else esFind key l
section
variable {P:Program} {T:Tab} {E:Env} {om:List Ob}
theorem put_okL (hR:Rel E om) {k b:Nat} {o0:Ob} (ho:om[k]? = some o0) (h0:o0.live=true) (hg:hb (E.g k)=some b) (obj:Obj) (o:Ob)
  (hob:Ext E om { E with w:=E.w.putObj b obj } (om.set k o)→ObR { E with w:=E.w.putObj b obj } k o):Ext E om { E with w:=E.w.putObj b obj } (om.set k o)∧Rel { E with w:=E.w.putObj b obj } (om.set k o):=by
 have hk:k<om.length:=(List.getElem?_eq_some_iff.1 ho).1
 have hlv:Live E om b:=⟨k,_,ho,h0,hg⟩
 have hget:∀ (j:Nat) (o1:Ob),(om.set k o)[j]? = some o1→(j=k∧o1=o)∨(j≠k∧om[j]? = some o1):=by
  intro j o1 h
  rw [List.getElem?_set] at h
  split at h
  ·rename_i e
   have h':o=o1:=by simpa [hk] using h
   exact .inl ⟨e.symm,h'.symm⟩
  ·rename_i e
   exact .inr ⟨fun h=>e h.symm,h⟩
 have same:∀ j,j≠b→(E.w.putObj b obj).heap[j]? = E.w.heap[j]?:=fun j hj=>World.putObj_heap_other hj
 have hx:Ext E om { E with w:=E.w.putObj b obj } (om.set k o):=by
  refine ⟨Nat.le_refl _,fun _ _=>rfl,fun _ h=>h,by show E.w.heap.size≤(E.w.putObj b obj).heap.size; rw [World.putObj_size]; exact Nat.le_refl _,rfl,rfl,rfl,fun b' hb' hn=>same b' (fun e=>hn (e ▸ hlv)),?_,fun b hA=>.inl hA⟩
  rintro b' ⟨j,o1,hj,hl,hgj⟩
  rcases hget j o1 hj with ⟨rfl,rfl⟩ | ⟨_,h⟩
  ·have hgj:hb (E.g j)=some b':=hgj
   rw [hg] at hgj
   injection hgj with e
   exact .inl (e ▸ hlv)
  ·exact .inl ⟨j,o1,h,hl,hgj⟩
 refine ⟨hx,by rw [List.length_set]; exact hR.len,fun j o1 hj=>?_,fun i j o1 o2 b' h1 h2 h3 h4 h5 h6=>?_,fun b' hA=>by show b'<(E.w.putObj b obj).heap.size; rw [World.putObj_size]; exact hR.old b' hA,hR.one,fun g c h=>(hR.gt g c h).ext hR hx⟩
 ·rcases hget j o1 hj with ⟨rfl,rfl⟩ | ⟨hne,h⟩
  ·exact hob hx
  ·refine ObR.keep hR hx (by rw [← hR.len]; exact (List.getElem?_eq_some_iff.1 h).1) (hR.ob j o1 h) fun hl b' hb'=>⟨same b' fun e=>hne (hR.inj j k _ _ b h ho hl h0 (e ▸ hb') hg),(hR.live_lt ⟨j,o1,h,hl,hb'⟩).2⟩
 ·have look:∀ (i:Nat) (o1:Ob),(om.set k o)[i]? = some o1→o1.live=true→∃ o2,om[i]? = some o2∧o2.live=true:=by
   intro i o1 h hl
   rcases hget i o1 h with ⟨rfl,rfl⟩ | ⟨_,h⟩
   ·exact ⟨_,ho,h0⟩
   ·exact ⟨o1,h,hl⟩
  obtain ⟨a1,q1,q2⟩:=look i o1 h1 h3
  obtain ⟨a2,q3,q4⟩:=look j o2 h2 h4
  exact hR.inj i j a1 a2 b' q1 q3 q2 q4 h5 h6
theorem findNow_mp (key:ByteArray):∀ (xs:List MapEntry) (es:List (ByteArray × Value)) (n:Nat),xs.map (fun e=>(e.key,e.val))=es.map (fun p=>(Value.string p.1,p.2)) →
  (∀ v,esFind key es=some v→∃ j,Instr.findNow .string (.string key) xs n=some (some (j,v)))∧(esFind key es=none→Instr.findNow .string (.string key) xs n=some none)
 | [],[],n,_=>⟨fun v h=>by simp [esFind] at h,fun _=>rfl⟩
 | [],_ :: _,n,h=>by simp at h
 | _ :: _,[],n,h=>by simp at h
 | x :: xs,(s,v) :: es,n,h=>by
  simp only [List.map_cons,List.cons.injEq,Prod.mk.injEq] at h
  obtain ⟨⟨hk,hv⟩,hr⟩:=h
  have ih:=findNow_mp key xs es (n+1) hr
  by_cases hs:key=s
  ·have hb:(key == s)=true:=(ba_beq _ _).2 hs
   refine ⟨fun v' h'=>?_,fun h'=>?_⟩
   ·rw [esFind,if_pos hs] at h'
    cases h'
    refine ⟨n,?_⟩
    rw [Instr.findNow,hk]
    simp only [Instr.sameNow,hb]
    rw [hv]
   ·rw [esFind,if_pos hs] at h'; cases h'
  ·have hb:(key == s)=false:=by
    cases h1:key == s
    ·rfl
    ·exact absurd ((ba_beq _ _).1 h1) hs
   refine ⟨fun v' h'=>?_,fun h'=>?_⟩
   ·rw [esFind,if_neg hs] at h'
    obtain ⟨j,hj⟩:=ih.1 v' h'
    refine ⟨j,?_⟩
    rw [Instr.findNow,hk]
    simp only [Instr.sameNow,hb]
    exact hj
   ·rw [esFind,if_neg hs] at h'
    rw [Instr.findNow,hk]
    simp only [Instr.sameNow,hb]
    exact ih.2 h'
theorem TIok.map {t k e:Nat} {z:Value} {i:TI} (h:TIok P t i) (hk:i.kd=.map k e z):P.underlying t=some (.map k e)∧P.underlying k=some .string∧∀ w,(Go.zeroValue e).run P w=.ok z w:=by
 obtain ⟨d,hd,hk'⟩:=h.und
 rw [hk] at hk'
 obtain ⟨h1,inf,h2,h3⟩:=h.mz k e z hk
 refine ⟨?_,h1,fun w=>?_⟩
 ·cases d <;> simp_all [KdR]
 ·unfold Go.zeroValue
  simp [Sem.run_bind,run_typeInfo w h2,h3]
theorem newMap_ok (hR:Rel E om):∃ E',E'.w=E.w.alloc (.map #[] 0)∧Ext E om E' (om++[.mp []])∧Rel E' (om++[.mp []])∧Rd E' (.own om.length) (.map (some E.w.heap.size)):=by
 obtain ⟨h1,h2,h3,_⟩:=push_ok hR (.map (some E.w.heap.size)) (E.w.alloc (.map #[] 0)) (.mp []) rfl (by simp) rfl rfl rfl (fun b hb'=>heap_alloc_lt _ _ _ hb')
  (fun b _ hb'=>by simp only [hb,Option.some.injEq] at hb'; omega)
  (fun hx=>⟨E.w.heap.size,#[],0,by simp [Env.push],heap_alloc_at _ _,fun hA=>by have:=hR.old _ hA; omega,rfl⟩)
 exact ⟨_,rfl,h1,h2,h3⟩
def mapK:Option TI→Option Unit
 | some ⟨.map _ _ _,_,_,_⟩=>some ()
 | _=>none
def qLookup (T:Tab) (om:List Ob) (t:Nat) (x i:D) (ok:Bool):Option D:=
 match T t,x,i with
 | some ⟨.map kt et z,_,_,_⟩,.own k,.v (.string key)=>
  match om[k]? with
  | some (.mp es)=>some (if ok then .tup [.v ((esFind key es).getD z),.b (esFind key es).isSome] else .v ((esFind key es).getD z))
  | _=>none
 | _,_,_=>none
theorem mp_get (hR:Rel E om) {k:Nat} {es:List (ByteArray × Value)} (ho:om[k]? = some (.mp es)) {y:Value} (hy:Rd E (.own k) y) :
  ∃ b xs ck,y=.map (some b)∧E.g k=.map (some b)∧E.w.heap[b]? = some (.map xs ck)∧¬ E.A b∧xs.toList.map (fun e=>(e.key,e.val))=es.map (fun p=>(Value.string p.1,p.2)):=by
 obtain ⟨b,xs,ck,h1,h2,h3,h4⟩:=hR.ob k _ ho
 cases hy with
 | own hk=>exact ⟨b,xs,ck,h1,h1,h2,h3,h4⟩
theorem run_getMap {w:World} {b:Nat} {xs:Array MapEntry} {ck:Nat} (h:w.heap[b]? = some (.map xs ck)):(getObj b).run P w=.ok (.map xs ck) w:=by
 simp [getObj,Sem.run,h]
theorem qLookup_ok (hT:TabOk P T) (hR:Rel E om) {t:Nat} {x i d:D} {ok:Bool} {yx yi:Value} (h:qLookup T om t x i ok=some d) (hx:Rd E x yx) (hi:Rd E i yi) :
  ∃ z,(Instr.lookup t yx yi ok).run P E.w=.ok z E.w∧Rd E d z:=by
 unfold qLookup at h
 split at h
 ·rename_i kt et z _ _ _ k key ht
  split at h
  ·rename_i es ho
   cases h
   obtain ⟨b,xs,ck,rfl,_,hh,_,hm⟩:=mp_get hR ho hx
   obtain ⟨u1,u2,u3⟩:=(hT _ _ ht).map rfl
   cases hi
   have hf:=findNow_mp key xs.toList es 0 hm
   have hck:(Instr.checkKey xs.isEmpty 10000 kt (.string key)).run P E.w=.ok () E.w:=by
    rw [Instr.checkKey]
    simp [Sem.run_bind,run_underlying u2]
   cases he:esFind key es with
   | none=>
    have hq:=hf.2 he
    refine ⟨if ok then .tuple #[z,.bool false] else z,?_,?_⟩
    ·simp [Instr.lookup,Sem.run_bind,run_underlying u1,run_getMap hh,hck,Instr.findKey,run_underlying u2,hq,u3]
    ·cases ok
     ·exact .v _
     ·refine .tup _ rfl fun j d hj=>?_
      match j with
      | 0=>cases hj; exact .v _
      | 1=>cases hj; exact .v _
      | j+2=>simp at hj
   | some v=>
    obtain ⟨j,hq⟩:=hf.1 v he
    refine ⟨if ok then .tuple #[v,.bool true] else v,?_,?_⟩
    ·simp [Instr.lookup,Sem.run_bind,run_underlying u1,run_getMap hh,hck,Instr.findKey,run_underlying u2,hq]
    ·cases ok
     ·exact .v _
     ·refine .tup _ rfl fun j d hj=>?_
      match j with
      | 0=>cases hj; exact .v _
      | 1=>cases hj; exact .v _
      | j+2=>simp at hj
  ·cases h
 ·cases h
def qMapUp (T:Tab) (om:List Ob) (t:Nat) (x i v:D):Option (List Ob):=
 match T t,x,i,v with
 | some ⟨.map kt et z,_,_,_⟩,.own k,.v (.string key),.v val=>
  match om[k]? with
  | some (.mp es)=>if esFind key es=none then some (om.set k (.mp (es++[(key,val)]))) else none
  | _=>none
 | _,_,_,_=>none
theorem qMapUp_ok (hT:TabOk P T) (hR:Rel E om) {t:Nat} {x i v:D} {om':List Ob} {yx yi yv:Value} (h:qMapUp T om t x i v=some om') (hx:Rd E x yx) (hi:Rd E i yi) (hv:Rd E v yv) :
  ∃ E',(Instr.mapUpdate t yx yi yv).run P E.w=.ok () E'.w∧Ext E om E' om'∧Rel E' om':=by
 unfold qMapUp at h
 split at h
 ·rename_i kt et z _ _ _ k key val ht
  split at h
  ·rename_i es ho
   split at h
   ·rename_i he
    cases h
    obtain ⟨b,xs,ck,rfl,hg,hh,hA,hm⟩:=mp_get hR ho hx
    obtain ⟨u1,u2,u3⟩:=(hT _ _ ht).map rfl
    obtain rfl:yv=val:=by cases hv; rfl
    cases hi
    have hq:=(findNow_mp key xs.toList es 0 hm).2 he
    have hck:(Instr.checkKey false 10000 kt (.string key)).run P E.w=.ok () E.w:=by
     rw [Instr.checkKey]
     simp [Sem.run_bind,run_underlying u2]
    have hlt:=(Array.getElem?_eq_some_iff.1 hh).1
    obtain ⟨hxx,hRR⟩:=put_okL hR ho rfl (by rw [hg]; rfl) (.map (xs.push { key:=.string key,val:=yv,born:=ck }) (ck+1)) (.mp (es++[(key,yv)])) (fun hx=>⟨b,_,_,hg,World.putObj_heap_same hlt,hA,by simp [hm]⟩)
    refine ⟨_,?_,hxx,hRR⟩
    simp [Instr.mapUpdate,Sem.run_bind,run_underlying u1,run_getMap hh,hck,Instr.findKey,run_underlying u2,hq,setObj,World.putObj,Sem.run,hh]
   ·cases h
  ·cases h
 ·cases h
def qRange (T:Tab) (t:Nat) (x:D):Option ByteArray:=
 match T t,x with
 | some ⟨.str,_,_,_⟩,.v (.string s)=>some s
 | _,_=>none
def qNext (om:List Ob) (x:D):Option (D × List Ob):=
 match x with
 | .ref k 0=>
  match om[k]? with
  | some (.it s pos)=>some (if pos<s.size then (.tup [.b true,.i pos,.v (.int .i32 (Utf8.decode s pos).1)],om.set k (.it s (pos+(Utf8.decode s pos).2))) else (.tup [.b false],om))
  | _=>none
 | _=>none
theorem newIt_ok (hR:Rel E om) (s:ByteArray):∃ E',E'.w=E.w.alloc (.stringIter s 0)∧Ext E om E' (om++[.it s 0])∧Rel E' (om++[.it s 0])∧Rd E' (.ref om.length 0) (.pointer (some ⟨E.w.heap.size,0,none⟩)):=by
 obtain ⟨h1,h2,_,h4⟩:=push_ok hR (.pointer (some ⟨E.w.heap.size,0,none⟩)) (E.w.alloc (.stringIter s 0)) (.it s 0) rfl (by simp) rfl rfl rfl (fun b hb'=>heap_alloc_lt _ _ _ hb')
  (fun b _ hb'=>by simp only [hb,Option.some.injEq] at hb'; omega)
  (fun hx=>⟨E.w.heap.size,by simp [Env.push],heap_alloc_at _ _,fun hA=>by have:=hR.old _ hA; omega⟩)
 exact ⟨_,rfl,h1,h2,h4 _ rfl⟩
theorem run_getIt {w:World} {b:Nat} {s:ByteArray} {pos:Nat} (h:w.heap[b]? = some (.stringIter s pos)):(getObj b).run P w=.ok (.stringIter s pos) w:=by
 simp [getObj,Sem.run,h]
theorem qNext_ok (hR:Rel E om) {x:D} {r:D × List Ob} {yx:Value} {ty:TypeId} (h:qNext om x=some r) (hx:Rd E x yx):Eff P (Instr.next yx true ty) E om r.1 r.2:=by
 unfold qNext at h
 split at h
 ·rename_i k
  split at h
  ·rename_i s pos ho
   cases h
   obtain ⟨b,q1,q2,q3⟩:=hR.ob k _ ho
   cases hx with
   | ref hk hg=>
    rw [q1] at hg
    simp only [hb,Option.some.injEq] at hg
    subst hg
    by_cases hp:pos<s.size
    ·rw [if_pos hp]
     have hlt:=(Array.getElem?_eq_some_iff.1 q2).1
     obtain ⟨hxx,hRR⟩:=put_okL hR ho rfl (by rw [q1]; rfl) (.stringIter s (pos+(Utf8.decode s pos).2)) (.it s (pos+(Utf8.decode s pos).2)) (fun hx=>⟨b,q1,World.putObj_heap_same hlt,q3⟩)
     refine ⟨_,.tuple #[.bool true,.int .i64 pos,.int .i32 (Utf8.decode s pos).1],?_,hxx,hRR,.tup _ rfl fun j d hj=>?_⟩
     ·simp [Instr.next,Sem.run_bind,run_getIt q2,hp,setObj,World.putObj,Sem.run,q2,goInt]
     ·match j with
      | 0=>cases hj; exact .v _
      | 1=>cases hj; exact .v _
      | 2=>cases hj; exact .v _
      | j+3=>simp at hj
    ·rw [if_neg hp]
     refine ⟨E,.tuple #[.bool false],?_,Ext.refl _ _,hR,.tup _ rfl fun j d hj=>?_⟩
     ·simp [Instr.next,Sem.run_bind,run_getIt q2,hp]
     ·match j with
      | 0=>cases hj; exact .v _
      | j+1=>simp at hj
  ·cases h
 ·cases h
end
end Go.Proofs.YtbmedfjmccnclaaGreat.AWP
namespace Go.Proofs.YtbmedfjmccnclaaGreat.AWP
open Go
open _root_.Nat renaming min_le_right → za
theorem set_same {α:Type} {l:List α} {k:Nat} {x:α} (h:l[k]? = some x):l.set k x=l:=by
 refine List.ext_getElem? fun j=>?_
 rw [List.getElem?_set]
 split
 ·rename_i e; subst e
  split
  ·exact h.symm
  ·rename_i hn; rw [List.getElem?_eq_none (by omega)]
 ·rfl
theorem put_okG {E:Env} {om:List Ob} (hR:Rel E om) {k b:Nat} {o0:Ob} (ho:om[k]? = some o0) (hlo:o0.live=true) (hg:hb (E.g k)=some b) (obj:Obj) (o:Ob)
  (hob:Ext E om { E with w:=E.w.putObj b obj } (om.set k o)→ObR { E with w:=E.w.putObj b obj } k o):Ext E om { E with w:=E.w.putObj b obj } (om.set k o)∧Rel { E with w:=E.w.putObj b obj } (om.set k o):=by
 have hk:k<om.length:=(List.getElem?_eq_some_iff.1 ho).1
 have hlv:Live E om b:=⟨k,_,ho,hlo,hg⟩
 have hget:∀ (j:Nat) (o1:Ob),(om.set k o)[j]? = some o1→(j=k∧o1=o)∨(j≠k∧om[j]? = some o1):=by
  intro j o1 h
  rw [List.getElem?_set] at h
  split at h
  ·rename_i e
   have h':o=o1:=by simpa [hk] using h
   exact .inl ⟨e.symm,h'.symm⟩
  ·rename_i e
   exact .inr ⟨fun h=>e h.symm,h⟩
 have same:∀ j,j≠b→(E.w.putObj b obj).heap[j]? = E.w.heap[j]?:=fun j hj=>World.putObj_heap_other hj
 have hx:Ext E om { E with w:=E.w.putObj b obj } (om.set k o):=by
  refine ⟨Nat.le_refl _,fun _ _=>rfl,fun _ h=>h,by show E.w.heap.size≤(E.w.putObj b obj).heap.size; rw [World.putObj_size]; exact Nat.le_refl _,rfl,rfl,rfl,fun b' hb' hn=>same b' (fun e=>hn (e ▸ hlv)),?_,fun b hA=>.inl hA⟩
  rintro b' ⟨j,o1,hj,hl,hgj⟩
  rcases hget j o1 hj with ⟨rfl,rfl⟩ | ⟨_,h⟩
  ·have hgj:hb (E.g j)=some b':=hgj
   rw [hg] at hgj
   injection hgj with e
   exact .inl (e ▸ hlv)
  ·exact .inl ⟨j,o1,h,hl,hgj⟩
 refine ⟨hx,by rw [List.length_set]; exact hR.len,fun j o1 hj=>?_,fun i j o1 o2 b' h1 h2 h3 h4 h5 h6=>?_,fun b' hA=>by show b'<(E.w.putObj b obj).heap.size; rw [World.putObj_size]; exact hR.old b' hA,hR.one,fun g c h=>(hR.gt g c h).ext hR hx⟩
 ·rcases hget j o1 hj with ⟨rfl,rfl⟩ | ⟨hne,h⟩
  ·exact hob hx
  ·refine ObR.keep hR hx (by rw [← hR.len]; exact (List.getElem?_eq_some_iff.1 h).1) (hR.ob j o1 h) fun hl b' hb'=>⟨same b' fun e=>hne (hR.inj j k _ _ b h ho hl hlo (e ▸ hb') hg),(hR.live_lt ⟨j,o1,h,hl,hb'⟩).2⟩
 ·have look:∀ (i:Nat) (o1:Ob),(om.set k o)[i]? = some o1→o1.live=true→∃ o2,om[i]? = some o2∧o2.live=true:=by
   intro i o1 h hl
   rcases hget i o1 h with ⟨rfl,rfl⟩ | ⟨_,h⟩
   ·exact ⟨_,ho,hlo⟩
   ·exact ⟨o1,h,hl⟩
  obtain ⟨a1,q1,q2⟩:=look i o1 h1 h3
  obtain ⟨a2,q3,q4⟩:=look j o2 h2 h4
  exact hR.inj i j a1 a2 b' q1 q3 q2 q4 h5 h6
theorem setRow_put {w:World} {g:Nat} {cur new:Array Value} {t:TypeId} (h:w.heap[g]? = some (.cells cur t (0,0))):w.setRow g new=w.putObj g (.cells new t (0,0)):=by
 unfold World.setRow World.putObj
 congr 1
 refine Array.ext_getElem? fun j=>?_
 rw [Array.getElem?_modify,Array.getElem?_setIfInBounds]
 by_cases e:g=j
 ·subst e
  rw [if_pos rfl,if_pos rfl,h]
  have hlt:g<w.heap.size:=(Array.getElem?_eq_some_iff.1 h).1
  rw [if_pos hlt]
  rfl
 ·rw [if_neg e,if_neg e]
theorem copy_ok {P:Program} {T:Tab} {E:Env} {om:List Ob} (hT:TabOk P T) (hR:Rel E om) {t t' ty e e':Nat} {i ei:TI} (ht:T t=some i) (hk:i.kd=.slice e) (he:T e=some ei) (h1:ei.size=1) {k:Nat} {rows rows':List (List D)} {src:D} {y:Value}
  (ho:om[k]? = some (.slc e' 1 rows)) (hsrc:srcRows om 1 src=some rows') (hy:Rd E src y) :
  Eff P (Builtin.copy_ #[t,t'] ty #[E.g k,y]) E om (.i (min rows'.length rows.length:Nat)) (om.set k (.slc e' 1 (rows'.take rows.length++rows.drop rows'.length))):=by
 have hu:=(hT _ _ ht).slice hk
 obtain ⟨inf,z,hinf,hsize,hbytes,hzero,hz,_⟩:=(hT _ _ he).info
 have hs1:(P.info? e).map (·.size)=some 1:=by rw [hinf]; simp [hsize,h1]
 obtain ⟨a,m,c,rfl,hs',hcase⟩:=srcRows_ok hR hsrc hy
 obtain ⟨_,hrs,hob⟩:=hR.ob k _ ho
 have nothing:min rows'.length rows.length=0→Nat.min m rows.length=0→Eff P (Builtin.copy_ #[t,t'] ty #[E.g k,.slice a m c]) E om (.i (min rows'.length rows.length:Nat)) (om.set k (.slc e' 1 (rows'.take rows.length++rows.drop rows'.length))):=by
  intro h0 h0'
  have er:rows'.take rows.length++rows.drop rows'.length=rows:=by
   rcases Nat.eq_zero_or_pos rows'.length with hz' | hz'
   ·rw [List.eq_nil_of_length_eq_zero hz']; simp
   ·have:rows.length=0:=by omega
    rw [List.eq_nil_of_length_eq_zero this]; simp
  rw [er,set_same ho,h0]
  have hrun:(Builtin.copy_ #[t,t'] ty #[E.g k,.slice a m c]).run P E.w=.ok (goInt 0) E.w:=by
   rcases hob with ⟨hg,hr0⟩ | ⟨b,cs,cap,hg,_⟩
   ·rw [hg]
    exact run_copy_none (P:=P) E.w t t' ty e none a 0 0 m c hu hs1 (Nat.min_zero m)
   ·rw [hg]
    exact run_copy_none (P:=P) E.w t t' ty e _ a _ cap m c hu hs1 h0'
  exact ⟨E,_,hrun,Ext.refl _ _,hR,.v _⟩
 by_cases h0:min rows'.length rows.length=0
 ·refine nothing h0 ?_
  rcases hcase with ⟨_,_,hm⟩ | ⟨hm,_⟩
  ·rw [hm]; exact Nat.zero_min _
  ·rw [hm]; exact h0
 have hr':rows'≠[]:=by rintro rfl; simp at h0
 have hr:rows≠[]:=by rintro rfl; simp at h0
 rcases hcase with ⟨h,_⟩ | ⟨hm,hcase⟩
 ·exact absurd h hr'
 rcases hcase with h | ⟨ad,ha,hrow⟩
 ·exact absurd h hr'
 subst ha hm
 rcases hob with ⟨_,h⟩ | ⟨b,cs,cap,hg,hheap,hnA,hsz,hle,hmx,hcells⟩
 ·exact absurd h hr
 have hrow1:∀ (j:Nat) (r:List D),rows'[j]? = some r→∃ d u,r=[d]∧E.w.cell? (ad.add j)=some u∧u.oneCell'=true∧Rd E d u:=by
  intro j r hj
  have hl:=hs' r (List.mem_of_getElem? hj)
  obtain ⟨d,rfl⟩:∃ d,r=[d]:=by
   match r,hl with
   | [d],_=>exact ⟨d,rfl⟩
  obtain ⟨u,q1,q2,q3⟩:=hrow j _ hj 0 d rfl
  refine ⟨d,u,rfl,?_,q2,q3⟩
  rw [Nat.mul_one,add_add,Nat.add_zero] at q1
  exact q1
 let n:=min rows'.length rows.length
 let new:List Value:=(List.range n).map fun j=>(E.w.cell? (ad.add j)).getD undef
 have hnew:∀ j,j<n→∃ d u,rows'[j]? = some [d]∧new[j]? = some u∧E.w.cell? (ad.add j)=some u∧u.oneCell'=true∧Rd E d u:=by
  intro j hj
  have hj':j<rows'.length:=Nat.lt_of_lt_of_le hj (Nat.min_le_left _ _)
  obtain ⟨d,u,q0,q1,q2,q3⟩:=hrow1 j _ (List.getElem?_eq_getElem hj')
  refine ⟨d,u,by rw [List.getElem?_eq_getElem hj',q0],?_,q1,q2,q3⟩
  simp only [new,List.getElem?_map,List.getElem?_range hj,Option.map_some,q1,Option.getD_some]
 have hnl:new.length=n:=by simp [new]
 have hrun:=run_copy_row P E.w t t' ty e b 0 rows.length cap ad rows'.length c cs e' new hu hs1 hheap (by rw [hnl]) (fun j v hj=>by
   have hjn:j<n:=by rw [← hnl]; exact (List.getElem?_eq_some_iff.1 hj).1
   obtain ⟨d,u,_,q1,q2,_⟩:=hnew j hjn
   rw [q1] at hj; cases hj
   exact q2) (by rw [hnl,hsz]; have:=za rows'.length rows.length; show 0+n≤cap * 1; omega) (fun v hv=>by
   obtain ⟨j,hj⟩:=List.getElem?_of_mem hv
   have hjn:j<n:=by rw [← hnl]; exact (List.getElem?_eq_some_iff.1 hj).1
   obtain ⟨d,u,_,q1,_,q3,_⟩:=hnew j hjn
   rw [q1] at hj; cases hj
   exact q3)
 have hrun':(Builtin.copy_ #[t,t'] ty #[E.g k,.slice (some ad) rows'.length c]).run P E.w=.ok (.int .i64 (n:Nat)) (E.w.putObj b (.cells (cs.toList.take 0++new++cs.toList.drop (0+new.length)).toArray e' (0,0))):=by
  rw [hg,hrun,setRow_put hheap,hnl]
  rfl
 generalize hcs':(cs.toList.take 0++new++cs.toList.drop (0+new.length)).toArray=cs' at hrun'
 have hcsL:cs'=(new++cs.toList.drop n).toArray:=by rw [← hcs',hnl]; simp
 have hget:∀ j:Nat,cs'[j]? = (new++cs.toList.drop n)[j]?:=fun j=>by rw [hcsL]; simp
 have hcsz:cs'.size=n+(cs.size - n):=by rw [hcsL]; simp [hnl]
 have hgb:hb (E.g k)=some b:=by rw [hg]; rfl
 obtain ⟨hx,hR'⟩:=put_okG hR ho rfl hgb (.cells cs' e' (0,0)) (.slc e' 1 (rows'.take rows.length++rows.drop rows'.length)) (fun hx=>by
  refine ⟨Nat.one_pos,?_,.inr ⟨b,cs',cap,?_,?_,hnA,?_,?_,hmx,?_⟩⟩
  ·intro r hr
   rcases List.mem_append.1 hr with h | h
   ·exact hs' r (List.mem_of_mem_take h)
   ·exact hrs r (List.mem_of_mem_drop h)
  ·show E.g k=_
   rw [hg]
   congr 1
   simp; omega
  ·exact World.putObj_heap_same (Array.getElem?_eq_some_iff.1 hheap).1
  ·rw [hcsz,hsz]
   have:=za rows'.length rows.length
   show n+(cap * 1 - n)=cap * 1
   omega
  ·simp; omega
  ·intro j d hj
   have hall:∀ r∈rows'.take rows.length++rows.drop rows'.length,r.length=1:=by
    intro r hr
    rcases List.mem_append.1 hr with h | h
    ·exact hs' r (List.mem_of_mem_take h)
    ·exact hrs r (List.mem_of_mem_drop h)
   obtain ⟨i',r,j',q1,q2,q3,q4⟩:=flatten_inv hall hj
   have hr1:=hall r (List.mem_of_getElem? q1)
   have hj0:j'=0:=by have:=(List.getElem?_eq_some_iff.1 q2).1; omega
   subst hj0
   have hji:j=i':=by omega
   subst hji
   rw [hget]
   by_cases hjn:j<n
   ·obtain ⟨d',u,p1,p2,p3,p4,p5⟩:=hnew j hjn
    have hjr:j<rows.length:=Nat.lt_of_lt_of_le hjn (za _ _)
    rw [List.getElem?_append_left (by rw [List.length_take]; omega),List.getElem?_take_of_lt hjr,p1] at q1
    cases q1
    simp at q2
    subst q2
    exact ⟨u,by rw [List.getElem?_append_left (by rw [hnl]; exact hjn)]; exact p2,p4,p5.ext hR hx⟩
   ·have hlt:(rows'.take rows.length).length=n:=by rw [List.length_take]; omega
    rw [List.getElem?_append_right (by omega),hlt,List.getElem?_drop] at q1
    have hjl:=(List.getElem?_eq_some_iff.1 q1).1
    have hn2:n=rows'.length:=by omega
    have ej:rows'.length+(j - n)=j:=by omega
    rw [ej] at q1
    obtain ⟨u,p1,p2,p3⟩:=hcells j d (by have:=flatten_get hrs q1 q2; rwa [Nat.mul_one,Nat.add_zero] at this)
    refine ⟨u,?_,p2,p3.ext hR hx⟩
    rw [List.getElem?_append_right (by rw [hnl]; omega),hnl,List.getElem?_drop,show n+(j - n)=j from by omega]
    simpa using p1)
 exact ⟨_,_,hrun',hx,hR',.v _⟩
end Go.Proofs.YtbmedfjmccnclaaGreat.AWP
namespace Go.Proofs.YtbmedfjmccnclaaGreat.AWP
open Go
open _root_.Array renaming toArray_toList → za, getD_eq_getD_getElem? → zd, range → zg
open _root_.Option renaming map_eq_some_iff → zb
open _root_.List renaming length_replicate → zc, replicate → ze, getElem?_map → zf
def bytesOfRows:List (List D)→Option (List UInt8)
 | []=>some []
 | [.v (.int .u8 n)] :: rows=>if 0≤n∧n<256 then (bytesOfRows rows).map (UInt8.ofNat n.toNat :: ·) else none
 | _=>none
def byteRows (l:List UInt8):List (List D):=l.map fun b=>[.v (.int .u8 b.toNat)]
theorem bytesOfRows_inv:∀ {rows:List (List D)} {l:List UInt8},bytesOfRows rows=some l→rows=byteRows l
 | [],l,h=>by simp only [bytesOfRows,Option.some.injEq] at h; subst h; rfl
 | r :: rows,l,h=>by
  unfold bytesOfRows at h
  split at h
  ·rename_i h'; simp at h'
  ·rename_i n rows' h'
   simp only [List.cons.injEq] at h'
   obtain ⟨rfl,rfl⟩:=h'
   split at h
   ·rename_i hn
    simp only [zb] at h
    obtain ⟨l',hl',rfl⟩:=h
    rw [bytesOfRows_inv hl']
    have:((UInt8.ofNat n.toNat).toNat:Int)=n:=by
     rw [UInt8.toNat_ofNat']
     omega
    simp only [byteRows,List.map_cons,this]
   ·simp at h
  ·simp at h
def qConvO (T:Tab) (om:List Ob) (src dst:Nat) (x:D):Option D:=
 match T src,T dst with
 | some ⟨.slice e,_,_,_⟩,some ⟨.str,_,_,_⟩=>
  match T e with
  | some ⟨.int .u8,_,_,_⟩=>((srcRows om 1 x).bind bytesOfRows).map fun l=>.v (.string ⟨l.toArray⟩)
  | _=>none
 | _,_=>qConv T src dst x
theorem qConvO_ok {P:Program} {T:Tab} {E:Env} {om:List Ob} (hT:TabOk P T) (hR:Rel E om) {src dst:Nat} {x d:D} {a:Value} (h:qConvO T om src dst x=some d) (hx:Rd E x a):∃ z,(convert src dst a).run P E.w=.ok z E.w∧Rd E d z:=by
 unfold qConvO at h
 split at h
 ·rename_i e _ _ _ _ _ _ hs hd
  split at h
  ·rename_i _ _ _ he
   simp only [zb,Option.bind_eq_some_iff] at h
   obtain ⟨l,⟨rows,hr,hl⟩,rfl⟩:=h
   obtain rfl:=bytesOfRows_inv hl
   obtain ⟨ad,m,c,rfl,_,hh⟩:=srcRows_ok hR hr hx
   have us:=(hT _ _ hs).slice rfl
   have ud:=(hT _ _ hd).str rfl
   have ue:=(hT _ _ he).int rfl
   rcases hh with ⟨h1,rfl,rfl⟩ | ⟨hm,hh⟩
   ·have:l=[]:=by simpa [byteRows] using h1
    subst this
    exact ⟨.string .empty,by simp [convert,run_underlying us,run_underlying ud,run_underlying ue,Conv.bytesToString],.v _⟩
   ·have hm:m=l.length:=by simpa [byteRows] using hm
    subst hm
    cases ad with
    | none=>
     rcases hh with h1 | ⟨ad,h1,_⟩
     ·have:l=[]:=by simpa [byteRows] using h1
      subst this
      exact ⟨.string .empty,by simp [convert,run_underlying us,run_underlying ud,run_underlying ue,Conv.bytesToString],.v _⟩
     ·cases h1
    | some ad=>
     refine ⟨_,run_convert_bytes_back E.w src dst e ad c l us ue ud (fun j hj=>?_),.v _⟩
     rcases hh with h1 | ⟨ad',h1,h2⟩
     ·have:l=[]:=by simpa [byteRows] using h1
      subst this
      simp at hj
     ·injection h1 with h1
      subst h1
      obtain ⟨u,e1,_,e3⟩:=h2 j [.v (.int .u8 l[j].toNat)] (by simp [byteRows,hj]) 0 _ rfl
      rw [e3.v_inv] at e1
      simpa [add_add] using e1
  ·simp at h
 ·exact qConv_ok hT h hx
structure LOp where
 dst:Option Tmp
 op:Op
 guard:Option (Nat × Bool)
def lop (o:Oper):LOp:=⟨o.dst,o.op,o.guard⟩
def opt {α:Type}:Option α→(α→Prop)→Prop
 | some a,K=>K a
 | none,_=>False
@[simp] theorem opt_some {α:Type} (a:α) (K:α→Prop):opt (some a) K=K a:=rfl
@[simp] theorem opt_none {α:Type} (K:α→Prop):opt none K=False:=rfl
theorem opt_elim {α:Type} {x:Option α} {K:α→Prop} (h:opt x K):∃ a,x=some a∧K a:=by
 cases x with
 | none=>exact h.elim
 | some a=>exact ⟨a,rfl,h⟩
def ACall (P:Program) (f:FuncId) (ds:List D) (om:List Ob) (K:Out→List Ob→Prop):Prop:=
 ∃ R,AC P f ds om R∧∀ o om',R o om'→K o om'
def AY (P:Program) (k:Nat) (ds:List D) (om:List Ob) (R:Out→List Ob→Prop):Prop:=
 ∀ E vs b,Rel E om→RdA E ds vs→hb (E.g k)=some b→∃ fn tmps assign body,(Instr.yield b vs).run P E.w=.ok (.round b fn tmps assign body) E.w ∧
  RoundIn Fence.wide 0 P b fn tmps assign body E.w fun e w'=>∃ E' o om',R o om'∧E'.w=w'∧Ext E om E' om'∧Rel E' om'∧OutR E' o e
def YCall (P:Program) (k:Nat) (ds:List D) (om:List Ob) (K:Out→List Ob→Prop):Prop:=
 ∃ R,AY P k ds om R∧∀ o om',R o om'→K o om'
def strArg (T:Tab) (t:Nat) (x:D):Option ByteArray:=
 match T t with
 | some ⟨.str,_,_,_⟩=>
  match x with
  | .v (.string m)=>some m
  | _=>none
 | _=>none
theorem strArg_some {T:Tab} {t:Nat} {x:D} {m:ByteArray} (h:strArg T t x=some m):(∃ i,T t=some i∧i.kd=.str)∧x=.v (.string m):=by
 unfold strArg at h
 split at h
 ·rename_i h1
  split at h
  ·cases h; exact ⟨⟨_,h1,rfl⟩,rfl⟩
  ·cases h
 ·cases h
def maxP (up:Bool) (x y:D) (K:D→Prop):Prop:=
 match x,y with
 | .v (.int k a),.v (.int _ b)=>K (.v (.int k (if up then (if b > a then b else a) else (if b<a then b else a))))
 | _,_=>False
def aCall (P:Program) (T:Tab) (c:Call) (dst:Option Tmp) (s:St) (K:St→Prop) (KP:D→St→Prop):Prop:=
 match c.callee with
 | .value f=>
  match evD s.env f with
  | .fn g cap=>ACall P g (c.args.toList.map (evD s.env)++cap) s.om fun o om'=>
    match o with
    | .ret d=>K (St.put ⟨s.env,om'⟩ dst d)
    | .panic d=>KP d ⟨s.env,om'⟩
  | .yld k=>YCall P k (c.args.toList.map (evD s.env)) s.om fun o om'=>
    match o with
    | .ret d=>K (St.put ⟨s.env,om'⟩ dst d)
    | .panic d=>KP d ⟨s.env,om'⟩
  | _=>False
 | .builtin .len=>
  match c.args.toList,c.argTypes.toList with
  | [x],[t]=>opt (qLen T s.om t (evD s.env x)) fun d=>K (s.put dst d)
  | _,_=>False
 | .builtin .append=>
  match c.args.toList,c.argTypes.toList with
  | [b,x],[t,t']=>
   match T t with
   | some ⟨.slice e,_,_,_⟩=>
    match T e with
    | some ei=>
     match strArg T t' (evD s.env x) with
     | some m=>
      ei.size=1∧ei.bytes=1 ∧
      match evD s.env b with
      | .v (.slice none 0 0)=>m.size≤140737488355328∧K (St.put ⟨s.env,s.om++[.slc e ei.size (strRows m)]⟩ dst (.own s.om.length))
      | .own k=>
       match s.om[k]? with
       | some (.slc e' sz rows)=>e'=e∧sz=ei.size∧rows.length+m.size≤140737488355328∧K (St.put ⟨s.env,s.om.set k .dead++[.slc e' sz (rows++strRows m)]⟩ dst (.own s.om.length))
       | _=>False
      | _=>False
     | none=>
     t'=t∧0<ei.size∧0<ei.bytes ∧
     match evD s.env b with
     | .v (.slice none 0 0)=>
      opt (srcRows s.om ei.size (evD s.env x)) fun rows'=>(rows'.length) * ei.bytes≤140737488355328∧K (St.put ⟨s.env,s.om++[.slc e ei.size rows']⟩ dst (.own s.om.length))
     | .own k=>
      match s.om[k]? with
      | some (.slc e' sz rows)=>e'=e∧sz=ei.size ∧
       opt (srcRows s.om sz (evD s.env x)) fun rows'=>(rows.length+rows'.length) * ei.bytes≤140737488355328∧K (St.put ⟨s.env,s.om.set k .dead++[.slc e' sz (rows++rows')]⟩ dst (.own s.om.length))
      | _=>False
     | _=>False
    | none=>False
   | _=>False
  | _,_=>False
 | .builtin .copy=>
  match c.args.toList,c.argTypes.toList with
  | [b,x],[t,t']=>
   match T t with
   | some ⟨.slice e,_,_,_⟩=>
    match T e with
    | some ei=>
     ei.size=1 ∧
     match evD s.env b with
     | .own k=>
      match s.om[k]? with
      | some (.slc e' 1 rows)=>opt (srcRows s.om 1 (evD s.env x)) fun rows'=>K (St.put ⟨s.env,s.om.set k (.slc e' 1 (rows'.take rows.length++rows.drop rows'.length))⟩ dst (.i (min rows'.length rows.length:Nat)))
      | _=>False
     | _=>False
    | none=>False
   | _=>False
  | _,_=>False
 | .builtin .max=>
  match c.args.toList with
  | [x,y]=>maxP true (evD s.env x) (evD s.env y) fun d=>K (s.put dst d)
  | _=>False
 | .builtin .min=>
  match c.args.toList with
  | [x,y]=>maxP false (evD s.env x) (evD s.env y) fun d=>K (s.put dst d)
  | _=>False
 | _=>False
def aop (P:Program) (T:Tab) (own:Bool) (o:Op) (dst:Option Tmp) (s:St) (K:St→Prop) (KP:D→St→Prop):Prop:=
 match o with
 | .move x=>K (s.put dst (evD s.env x))
 | .assign x=>K (s.put dst (evD s.env x))
 | .pick c a b=>
  match evD s.env c with
  | .v (.bool t)=>K (s.put dst (if t then evD s.env a else evD s.env b))
  | _=>False
 | .load t x=>opt (qLoad T s.om t (evD s.env x)) fun d=>K (s.put dst d)
 | .fieldAddr t x f=>opt (qFieldAddr T t (evD s.env x) f) fun d=>K (s.put dst d)
 | .indexAddr t x i=>opt (qIndexAddr T s.om t (evD s.env x) (evD s.env i)) fun d=>K (s.put dst d)
 | .field t x f=>opt (qField T t (evD s.env x) f) fun d=>K (s.put dst d)
 | .index t x i=>opt (qIndex T t (evD s.env x) (evD s.env i)) fun d=>K (s.put dst d)
 | .slice t x lo hi none=>opt (qSlice T s.om t (evD s.env x) (lo.map (evD s.env)) (hi.map (evD s.env))) fun d=>K (s.put dst d)
 | .binOp op t x y _=>opt (qBin T op t (evD s.env x) (evD s.env y)) fun d=>K (s.put dst d)
 | .unOp op _ x=>opt (qUn op (evD s.env x)) fun d=>K (s.put dst d)
 | .convert a b x=>opt (qConvO T s.om a b (evD s.env x)) fun d=>K (s.put dst d)
 | .extract x i=>
  match evD s.env x with
  | .tup c=>opt (c[i]?) fun d=>K (s.put dst d)
  | _=>False
 | .nilCheck x=>
  match evD s.env x with
  | .pel r=>K (s.put dst (.pel r))
  | .ref k o=>K (s.put dst (.ref k o))
  | .rel k z i j=>K (s.put dst (.rel k z i j))
  | _=>False
 | .makeFunc (.func f) first cap=>
  if first.size=0 then K (s.put dst (.fn f (cap.toList.map (evD s.env))))
  else
   match first.toList,cap.toList with
   | [x],[]=>K (s.put dst (.bm f (evD s.env x)))
   | _,_=>False
 | .makeInterface t x=>P.concrete t=true∧K (s.put dst (.ifc t (evD s.env x)))
 | .build t parts=>opt (qBuild T t (parts.toList.map fun p=>(p.1,evD s.env p.2))) fun d=>K (s.put dst d)
 | .buildSlice t len parts=>opt (qRows T t len (parts.toList.map fun p=>(p.1,evD s.env p.2))) fun r=>
   if own then K (St.put ⟨s.env,s.om++[.slc r.1 r.2.1 r.2.2]⟩ dst (.own s.om.length)) else K (s.put dst (.sl r.2.1 r.2.2))
 | .makeSlice t l c=>
  match T t,evD s.env l,evD s.env c with
  | some ⟨.slice e,_,_,_⟩,.v (.int _ n),.v (.int _ m)=>
   match T e with
   | some ei=>0<ei.size∧0≤n∧n≤m∧ei.bytes * m≤281474976710656∧m≤281474976710656∧(if own then K (St.put ⟨s.env,s.om++[.slc e ei.size (ze n.toNat (zeroD ei))]⟩ dst (.own s.om.length)) else K (s.put dst (.sl ei.size (ze n.toNat (zeroD ei)))))
   | none=>False
  | _,_,_=>False
 | .box t x=>opt (cellsOf (evD s.env x)) fun c=>if own then K (St.put ⟨s.env,s.om++[.var t c]⟩ dst (.ref s.om.length 0)) else K (s.put dst (.pel c))
 | .alloc t=>opt (T t) fun i=>K (St.put ⟨s.env,s.om++[.var t (zeroD i)]⟩ dst (.ref s.om.length 0))
 | .store t a x=>opt (qStore T s.om t (evD s.env a) (evD s.env x)) fun om'=>K (St.put ⟨s.env,om'⟩ dst .any)
 | .makeMap t none=>
  opt (mapK (T t)) fun _=>K (St.put ⟨s.env,s.om++[.mp []]⟩ dst (.own s.om.length))
 | .range t x=>opt (qRange T t (evD s.env x)) fun b=>K (St.put ⟨s.env,s.om++[.it b 0]⟩ dst (.ref s.om.length 0))
 | .next x true=>opt (qNext s.om (evD s.env x)) fun r=>K (St.put ⟨s.env,r.2⟩ dst r.1)
 | .lookup t x i ok=>opt (qLookup T s.om t (evD s.env x) (evD s.env i) ok) fun d=>K (s.put dst d)
 | .mapUpdate t m k v=>opt (qMapUp T s.om t (evD s.env m) (evD s.env k) (evD s.env v)) fun om'=>K (St.put ⟨s.env,om'⟩ dst .any)
 | .call c=>aCall P T c dst s K KP
 | .panic x=>
  match evD s.env x with
  | .ifc t d=>KP (.ifc t d) s
  | _=>False
 | _=>False
section
variable {P:Program} {T:Tab} {E:Env}
def notDefer (o:Oper):Prop:=∀ c,o.op≠.defer c
def Done (lo:Lo) (P:Program) (o:Oper) (a:Act) (E:Env) (s:St) (K:St→Prop) (KP:D→St→Prop) (next:Act→World→Prop) (Q:Exit→Act→World→Prop):Prop:=
 ∀ r,notDefer o→(∀ E' s' a',K s'→Ext E s.om E' s'.om→Sat lo E' s' a'→next a' E'.w)→(∀ E' s' y d,KP d s'→Ext E s.om E' s'.om→Sat lo E' s' a→Rd E' d y→Q (.panic [{ v:=y,recovered:=false }]) a E'.w)→o.wpIn (fence r) 0 P a E.w next Q
theorem Done.of {lo:Lo} {o:Oper} {a:Act} {s:St} {K:St→Prop} {KP:D→St→Prop} {next:Act→World→Prop} {Q:Exit→Act→World→Prop}
  (h:∀ r,(∀ E' s' a',K s'→Ext E s.om E' s'.om→Sat lo E' s' a'→next a' E'.w)→(∀ E' s' y d,KP d s'→Ext E s.om E' s'.om→Sat lo E' s' a→Rd E' d y→Q (.panic [{ v:=y,recovered:=false }]) a E'.w) →
   o.uponIn (fence r) 0 P a next Q ((execOp a.eval o).run P E.w)):Done lo P o a E s K KP next Q:=by
 intro r hd h1 h2
 refine ⟨fun _ _=>trivial,?_⟩
 rw [Oper.semAt_eq _ _ _ hd]
 exact h r h1 h2
theorem Done.value {lo:Lo} {o:Oper} {a:Act} {s:St} {K:St→Prop} {KP:D→St→Prop} {next:Act→World→Prop} {Q:Exit→Act→World→Prop} (hs:Sat lo E s a) {m:Sem Value} (ho:execOp a.eval o=(do pure (.value (← m)))) {d:D}
  {z:Value} (hrun:m.run P E.w=.ok z E.w) (hd:Rd E d z) (h:K (s.put o.dst d)):Done lo P o a E s K KP next Q:=by
 refine .of fun r hn _=>?_
 rw [ho]
 simp only [Sem.run_bind,hrun,Result.andThen_ok,Sem.run_pure,Oper.uponIn]
 have hx:=Ext.refl E s.om
 refine hn E _ _ h ?_ (hs.put hx hs.rel hd o.dst)
 cases o.dst <;> exact hx
theorem Done.eff {lo:Lo} {o:Oper} {a:Act} {s:St} {K:St→Prop} {KP:D→St→Prop} {next:Act→World→Prop} {Q:Exit→Act→World→Prop} (hs:Sat lo E s a) {m:Sem Value} (ho:execOp a.eval o=(do pure (.value (← m)))) {d:D} {om':List Ob}
  (he:Eff P m E s.om d om') (h:K (St.put ⟨s.env,om'⟩ o.dst d)):Done lo P o a E s K KP next Q:=by
 refine .of fun r hn _=>?_
 obtain ⟨E',z,hrun,hx,hr,hd⟩:=he
 rw [ho]
 simp only [Sem.run_bind,hrun,Result.andThen_ok,Sem.run_pure,Oper.uponIn]
 refine hn E' _ _ h ?_ (hs.put hx hr hd o.dst)
 cases o.dst <;> exact hx
theorem mapParts {lo:Lo} {s:St} {a:Act} (hs:Sat lo E s a) (parts:List (Nat × Operand)) :
  (∀ (j n:Nat) (d:D),(parts.map fun p=>(p.1,evD s.env p.2))[j]? = some (n,d)→∃ y,(parts.map fun p=>(p.1,a.eval p.2))[j]? = some (n,y)∧Rd E d y):=by
 intro j n d hj
 simp only [zf,zb,Prod.mk.injEq] at hj
 obtain ⟨p,hp,rfl,rfl⟩:=hj
 exact ⟨a.eval p.2,by simp [hp],hs.ev p.2⟩
theorem optArg {lo:Lo} {s:St} {a:Act} (hs:Sat lo E s a) (x:Option Operand):(∀ d,x.map (evD s.env)=some d→∃ v,x.map a.eval=some v∧Rd E d v)∧(x.map (evD s.env)=none→x.map a.eval=none):=by
 cases x with
 | none=>simp
 | some x=>exact ⟨fun d hd=>⟨a.eval x,rfl,by simp only [Option.map_some,Option.some.injEq] at hd; subst hd; exact hs.ev x⟩,by simp⟩
theorem callFunc_ok {f:FuncId} (h:callOk P f=true) (w:World) (args:Array Value):(callFunc f args).run P w=.ok (.enter f args) w:=by
 unfold callOk at h
 cases hf:P.funcs[f]? with
 | none=>simp [hf] at h
 | some fn=>
  simp only [hf,Bool.and_eq_true,Bool.not_eq_true',beq_eq_false_iff_ne] at h
  have hb:fn.body.isNone=false:=by cases hb:fn.body <;> simp_all
  unfold callFunc
  simp [hf,h.2,hb]
  intro h0
  simp [h0] at h
theorem OutR.ret_inv {E:Env} {d:D} {e:Ending} (h:OutR E (.ret d) e):∃ y,e=.returned y∧Rd E d y:=by
 cases e <;> simp only [OutR] at h
 exact ⟨_,rfl,h⟩
theorem OutR.panic_inv {E:Env} {d:D} {e:Ending} (h:OutR E (.panic d) e):∃ y,e=.panicked [{ v:=y,recovered:=false }]∧Rd E d y:=by
 cases e <;> simp only [OutR] at h
 obtain ⟨y,rfl,hd⟩:=h
 exact ⟨y,rfl,hd⟩
theorem rdA_of_env {lo:Lo} {s:St} {a:Act} (hs:Sat lo E s a) (xs:Array Operand) (cap:List D) (vs:Array Value) (hvs:vs.size=cap.length) (hd:∀ (j:Nat) (d:D),cap[j]? = some d→Rd E d (vs.getD j undef)) :
  RdA E (xs.toList.map (evD s.env)++cap) (xs.map a.eval++vs):=by
 refine ⟨by simp [hvs],fun j d hj=>?_⟩
 rw [List.getElem?_append] at hj
 simp only [List.length_map,Array.length_toList] at hj
 split at hj
 ·rename_i hlt
  simp only [zf,zb,Array.getElem?_toList] at hj
  obtain ⟨x,hx,rfl⟩:=hj
  have e:(xs.map a.eval++vs).getD j undef=a.eval x:=by
   simp [zd,Array.getElem?_append,hlt]
   rw [(Array.getElem?_eq_some_iff.1 hx).2]
  rw [e]
  exact hs.ev x
 ·rename_i hge
  have e:(xs.map a.eval++vs).getD j undef=vs.getD (j - xs.size) undef:=by
   simp [zd,Array.getElem?_append,hge]
  rw [e]
  exact hd _ _ hj
theorem aCall_ok {lo:Lo} (hT:TabOk P T) {o:Oper} {c:Call} (ho:o.op=.call c) {a:Act} {s:St} (hs:Sat lo E s a) {K:St→Prop} {KP:D→St→Prop} {next:Act→World→Prop} {Q:Exit→Act→World→Prop}
  (h:aCall P T c o.dst s K KP):Done lo P o a E s K KP next Q:=by
 unfold aCall at h
 split at h
 ·rename_i f hc
  split at h
  ·rename_i g cap hf
   obtain ⟨R,⟨hok,hR⟩,hK⟩:=h
   have hv:=hs.ev f
   rw [hf] at hv
   refine .of fun r hn hp=>?_
   generalize hvf:a.eval f=vf at hv
   cases hv with
   | fn vs hvs hd=>
    have hargs:=rdA_of_env hs c.args cap vs hvs hd
    have hcall:=hR E _ hs.rel hargs
    have hrun:(execOp a.eval o).run P E.w=.ok (.enter g (c.args.map a.eval++vs)) E.w:=by
     simp only [execOp,ho,resolve,hc,hvf,Deferred.ofValue,Sem.run_bind,Sem.run_pure,Result.andThen_ok,invoke,Array.empty_append]
     rw [callFunc_ok hok]
    rw [hrun]
    simp only [Oper.uponIn]
    refine ⟨fun h=>(by simp [Fence.wide] at h),?_⟩
    refine (calls_fence hcall).mono ?_
    rintro e w' ⟨E',out,om',hRo,rfl,hx,hr,hout⟩
    have hk:=hK out om' hRo
    cases out with
    | ret d=>
     obtain ⟨y,rfl,hd⟩:=hout.ret_inv
     refine hn E' _ _ hk ?_ (hs.put hx hr hd o.dst)
     cases o.dst <;> exact hx
    | panic d=>
     obtain ⟨y,rfl,hd⟩:=hout.panic_inv
     exact hp E' ⟨s.env,om'⟩ y d hk hx ⟨hr,hs.defs.ext hs.rel hx,hs.size,fun t=>(hs.rd t).ext hs.rel hx⟩ hd
  ·rename_i k hf
   obtain ⟨R,hR,hK⟩:=h
   have hv:=hs.ev f
   rw [hf] at hv
   refine .of fun r hn hp=>?_
   generalize hvf:a.eval f=vf at hv
   cases hv with
   | yld hk hg=>
    rename_i b
    have hargs:RdA E (c.args.toList.map (evD s.env)) (c.args.map a.eval):=by
     have:=rdA_of_env hs c.args [] #[] rfl (fun j d hd=>by simp at hd)
     simpa using this
    obtain ⟨fn,tmps,assign,body,hy,hround⟩:=hR E _ b hs.rel hargs hg
    have hrun:(execOp a.eval o).run P E.w=.ok (.round b fn tmps assign body) E.w:=by
     simp only [execOp,ho,resolve,hc,hvf,Deferred.ofValue,Sem.run_bind,Sem.run_pure,Result.andThen_ok,invoke,Array.empty_append,Array.append_empty]
     exact hy
    rw [hrun]
    simp only [Oper.uponIn]
    refine ⟨fun h=>(by simp [Fence.wide] at h),?_⟩
    have hround':RoundIn (fence r) (0 - 1) P b fn tmps assign body E.w _:=hround
    refine hround'.mono ?_
    rintro e w' ⟨E',out,om',hRo,rfl,hx,hr,hout⟩
    have hk:=hK out om' hRo
    cases out with
    | ret d=>
     obtain ⟨y,rfl,hd⟩:=hout.ret_inv
     refine hn E' _ _ hk ?_ (hs.put hx hr hd o.dst)
     cases o.dst <;> exact hx
    | panic d=>
     obtain ⟨y,rfl,hd⟩:=hout.panic_inv
     exact hp E' ⟨s.env,om'⟩ y d hk hx ⟨hr,hs.defs.ext hs.rel hx,hs.size,fun t=>(hs.rd t).ext hs.rel hx⟩ hd
  ·exact h.elim
 ·rename_i hc
  split at h
  ·rename_i x t hx ht
   obtain ⟨d,hd,hk⟩:=opt_elim h
   have ex:c.args = #[x]:=by rw [← za (xs:=c.args),hx]
   have et:c.argTypes = #[t]:=by rw [← za (xs:=c.argTypes),ht]
   obtain ⟨z,hz,hzd⟩:=qLen_ok hT hs.rel (ty:=o.type) hd (hs.ev x)
   refine Done.value hs (m:=Builtin.len_ #[t] o.type #[a.eval x]) ?_ hz hzd hk
   simp only [execOp,ho,resolve,hc,ex,et]
   simp [invoke,builtin]
  ·exact h.elim
 ·rename_i hc
  split at h
  ·rename_i b x t t' hx ht
   have ex:c.args = #[b,x]:=by rw [← za (xs:=c.args),hx]
   have et:c.argTypes = #[t,t']:=by rw [← za (xs:=c.argTypes),ht]
   split at h
   ·rename_i e _ _ _ htt
    split at h
    ·rename_i ei he
     have hb0:=hs.ev b
     split at h
     ·rename_i m hsa
      obtain ⟨⟨ui,hui,huk⟩,hxe⟩:=strArg_some hsa
      obtain ⟨h0,h1,h⟩:=h
      have hxv:a.eval x=.string m:=by
       have:=hs.ev x
       rw [hxe] at this
       exact this.v_inv
      have hm:execOp a.eval o=(do pure (.value (← Builtin.append_ #[t,t'] o.type #[a.eval b,.string m])):Sem Next):=by
       rw [← hxv]
       simp only [execOp,ho,resolve,hc,ex,et]
       simp [invoke,builtin]
      split at h
      ·rename_i hbv
       rw [hbv] at hb0
       have:=append_str_ok hT hs.rel (ty:=o.type) htt rfl hui huk he h0 h1 (rows:=[]) (s:=m) (.inl ⟨hb0.v_inv,rfl,rfl⟩) (by simpa using h.1)
       exact Done.eff hs hm (by simpa using this) h.2
      ·rename_i k hbv
       rw [hbv] at hb0
       split at h
       ·rename_i e' sz rows ho'
        obtain ⟨rfl,rfl,hroom,hk⟩:=h
        have hbe:a.eval b=E.g k:=by
         generalize a.eval b=y at hb0
         cases hb0 with
         | own hk=>rfl
        have:=append_str_ok hT hs.rel (ty:=o.type) htt rfl hui huk he h0 h1 (.inr ⟨k,hbe,ho',rfl⟩) hroom
        exact Done.eff hs hm this hk
       ·exact h.elim
      ·exact h.elim
     obtain ⟨rfl,h0,h1,h⟩:=h
     have hm:execOp a.eval o=(do pure (.value (← Builtin.append_ #[t',t'] o.type #[a.eval b,a.eval x])):Sem Next):=by
      simp only [execOp,ho,resolve,hc,ex,et]
      simp [invoke,builtin]
     have hb':=hs.ev b
     split at h
     ·rename_i hbv
      rw [hbv] at hb'
      obtain ⟨rows',hr,hroom,hk⟩:=opt_elim h
      have:=append_ok hT hs.rel (ty:=o.type) htt rfl he h0 (rows:=[]) (.inl ⟨hb'.v_inv,rfl,rfl⟩) hr (hs.ev x) (by simpa using hroom) h1
      exact Done.eff hs hm (by simpa using this) hk
     ·rename_i k hbv
      rw [hbv] at hb'
      split at h
      ·rename_i e' sz rows ho'
       obtain ⟨rfl,rfl,h⟩:=h
       obtain ⟨rows',hr,hroom,hk⟩:=opt_elim h
       have hbe:a.eval b=E.g k:=by
        generalize a.eval b=y at hb'
        cases hb' with
        | own hk=>rfl
       have:=append_ok hT hs.rel (ty:=o.type) htt rfl he h0 (.inr ⟨k,hbe,ho',rfl⟩) hr (hs.ev x) hroom h1
       exact Done.eff hs hm this hk
      ·exact h.elim
     ·exact h.elim
    ·exact h.elim
   ·exact h.elim
  ·exact h.elim
 ·rename_i hc
  split at h
  ·rename_i b x t t' hx ht
   have ex:c.args = #[b,x]:=by rw [← za (xs:=c.args),hx]
   have et:c.argTypes = #[t,t']:=by rw [← za (xs:=c.argTypes),ht]
   split at h
   ·rename_i e _ _ _ htt
    split at h
    ·rename_i ei he
     obtain ⟨h1,h⟩:=h
     have hm:execOp a.eval o=(do pure (.value (← Builtin.copy_ #[t,t'] o.type #[a.eval b,a.eval x])):Sem Next):=by
      simp only [execOp,ho,resolve,hc,ex,et]
      simp [invoke,builtin]
     have hb':=hs.ev b
     split at h
     ·rename_i k hbv
      rw [hbv] at hb'
      split at h
      ·rename_i e' rows ho'
       obtain ⟨rows',hr,hk⟩:=opt_elim h
       have hbe:a.eval b=E.g k:=by
        generalize a.eval b=y at hb'
        cases hb' with
        | own hk=>rfl
       rw [hbe] at hm
       exact Done.eff hs hm (copy_ok hT hs.rel (ty:=o.type) htt rfl he h1 ho' hr (hs.ev x)) hk
      ·exact h.elim
     ·exact h.elim
    ·exact h.elim
   ·exact h.elim
  ·exact h.elim
 ·rename_i hc
  split at h
  ·rename_i x y hx
   have ex:c.args = #[x,y]:=by rw [← za (xs:=c.args),hx]
   unfold maxP at h
   split at h
   ·rename_i k a' k' b' e1 e2
    have h1:=hs.ev x
    have h2:=hs.ev y
    rw [e1] at h1
    rw [e2] at h2
    refine Done.value hs (m:=Builtin.max_ c.argTypes o.type #[a.eval x,a.eval y]) ?_ ?_ (.v _) h
    ·simp only [execOp,ho,resolve,hc,ex]
     simp [invoke,builtin]
    ·rw [h1.v_inv,h2.v_inv]
     rfl
   ·exact h.elim
  ·exact h.elim
 ·rename_i hc
  split at h
  ·rename_i x y hx
   have ex:c.args = #[x,y]:=by rw [← za (xs:=c.args),hx]
   unfold maxP at h
   split at h
   ·rename_i k a' k' b' e1 e2
    have h1:=hs.ev x
    have h2:=hs.ev y
    rw [e1] at h1
    rw [e2] at h2
    refine Done.value hs (m:=Builtin.min_ c.argTypes o.type #[a.eval x,a.eval y]) ?_ ?_ (.v _) h
    ·simp only [execOp,ho,resolve,hc,ex]
     simp [invoke,builtin]
    ·rw [h1.v_inv,h2.v_inv]
     rfl
   ·exact h.elim
  ·exact h.elim
 ·exact h.elim
theorem Eff.of_mk {m:Sem Value} {om om':List Ob} {d:D} {z:Value} {w':World} (hrun:m.run P E.w=.ok z w') (h:∃ E',E'.w=w'∧Ext E om E' om'∧Rel E' om'∧Rd E' d z):Eff P m E om d om':=by
 obtain ⟨E',rfl,h⟩:=h
 exact ⟨E',z,hrun,h⟩
set_option maxHeartbeats 1000000 in
theorem aop_ok {lo:Lo} (hT:TabOk P T) (own:Bool) {o:Oper} {a:Act} {s:St} (hs:Sat lo E s a) {K:St→Prop} {KP:D→St→Prop} {next:Act→World→Prop} {Q:Exit→Act→World→Prop}
  (h:aop P T own o.op o.dst s K KP):Done lo P o a E s K KP next Q:=by
 have hdep:4≤P.depth:=by simp only [Program.depth,Made.depth]; omega
 generalize hop:o.op=op at h
 cases op <;> simp only [aop] at h
 case move x=>exact Done.value hs (m:=pure (a.eval x)) (by simp [execOp,hop]) rfl (hs.ev x) h
 case assign x=>exact Done.value hs (m:=pure (a.eval x)) (by simp [execOp,hop]) rfl (hs.ev x) h
 case pick c x y=>
  split at h
  ·rename_i t hc
   have hv:=hs.ev c
   rw [hc] at hv
   have hcb:=hv.v_inv
   refine Done.value hs (m:=pure (if t then a.eval x else a.eval y)) ?_ rfl ?_ h
   ·simp only [execOp,hop,hcb,asBool,pure_bind]
   ·cases t
    ·exact hs.ev y
    ·exact hs.ev x
  ·exact h.elim
 case load t x=>
  obtain ⟨d,hd,hk⟩:=opt_elim h
  obtain ⟨z,hz,hzd⟩:=qLoad_ok hT hs.rel hd (hs.ev x)
  exact Done.value hs (by simp [execOp,hop]) hz hzd hk
 case fieldAddr t x f=>
  obtain ⟨d,hd,hk⟩:=opt_elim h
  obtain ⟨z,hz,hzd⟩:=qFieldAddr_ok hT hd (hs.ev x)
  exact Done.value hs (by simp [execOp,hop]) hz hzd hk
 case indexAddr t x i=>
  obtain ⟨d,hd,hk⟩:=opt_elim h
  obtain ⟨z,hz,hzd⟩:=qIndexAddr_ok hT hs.rel hd (hs.ev x) (hs.ev i)
  exact Done.value hs (by simp [execOp,hop]) hz hzd hk
 case field t x f=>
  obtain ⟨d,hd,hk⟩:=opt_elim h
  obtain ⟨z,hz,hzd⟩:=qField_ok hT hd (hs.ev x)
  exact Done.value hs (by simp [execOp,hop]) hz hzd hk
 case index t x i=>
  obtain ⟨d,hd,hk⟩:=opt_elim h
  obtain ⟨z,hz,hzd⟩:=qIndex_ok hT hd (hs.ev x) (hs.ev i)
  exact Done.value hs (by simp [execOp,hop]) hz hzd hk
 case slice t x lo hi mx=>
  cases mx with
  | some m=>exact h.elim
  | none=>
   obtain ⟨d,hd,hk⟩:=opt_elim h
   obtain ⟨z,hz,hzd⟩:=qSlice_ok hT hs.rel hd (hs.ev x) (optArg hs lo).1 (optArg hs lo).2 (optArg hs hi).1 (optArg hs hi).2
   exact Done.value hs (by simp [execOp,hop]) hz hzd hk
 case binOp op t x y yt=>
  obtain ⟨d,hd,hk⟩:=opt_elim h
  obtain ⟨z,hz,hzd⟩:=qBin_ok hT hdep x y hd (hs.ev x) (hs.ev y)
  exact Done.value hs (by simp [execOp,hop]) hz hzd hk
 case unOp op t x=>
  obtain ⟨d,hd,hk⟩:=opt_elim h
  obtain ⟨z,hz,hzd⟩:=qUn_ok hd (hs.ev x)
  exact Done.value hs (by simp [execOp,hop]) hz hzd hk
 case convert t u x=>
  obtain ⟨d,hd,hk⟩:=opt_elim h
  obtain ⟨z,hz,hzd⟩:=qConvO_ok hT hs.rel hd (hs.ev x)
  exact Done.value hs (by simp [execOp,hop]) hz hzd hk
 case extract x i=>
  split at h
  ·rename_i c hc
   obtain ⟨d,hd,hk⟩:=opt_elim h
   have hv:=hs.ev x
   rw [hc] at hv
   generalize hy:a.eval x=y at hv
   cases hv with
   | tup vs hvs hvd=>
    have hlt:=(List.getElem?_eq_some_iff.1 hd).1
    have hlt':i<vs.size:=by omega
    have hg:=hvd i d hd
    refine Done.value hs (m:=Instr.extract (.tuple vs) i) (z:=vs[i]) (by simp [execOp,hop,hy]) (by simp [Instr.extract,hlt']) (by simpa [Array.getD,hlt'] using hg) hk
  ·exact h.elim
 case nilCheck x=>
  have hv:=hs.ev x
  split at h
  ·rename_i r hc
   rw [hc] at hv
   obtain ⟨ad,hy,_⟩:=hv.pel_inv
   exact Done.value hs (m:=pure (a.eval x)) (by simp [execOp,hop,hy]) rfl hv h
  ·rename_i k off hc
   rw [hc] at hv
   have hy:∃ ad,a.eval x=.pointer (some ad):=by
    generalize a.eval x=y at hv
    cases hv with
    | ref _ _=>exact ⟨_,rfl⟩
   obtain ⟨ad,hy⟩:=hy
   exact Done.value hs (m:=pure (a.eval x)) (by simp [execOp,hop,hy]) rfl hv h
  ·rename_i k z i j hc
   rw [hc] at hv
   have hy:∃ ad,a.eval x=.pointer (some ad):=by
    generalize a.eval x=y at hv
    cases hv with
    | rel _ _=>exact ⟨_,rfl⟩
   obtain ⟨ad,hy⟩:=hy
   exact Done.value hs (m:=pure (a.eval x)) (by simp [execOp,hop,hy]) rfl hv h
  ·exact h.elim
 case makeFunc fn first cap=>
  cases fn <;> simp only at h <;> try exact h.elim
  rename_i f
  split at h
  ·rename_i h0
   have e0:first = #[]:=Array.eq_empty_of_size_eq_zero h0
   refine Done.value hs (m:=Instr.makeFunc (.func f) (first.map a.eval) (cap.map a.eval)) (by simp [execOp,hop]) (z:=.func (.func f) #[] (cap.map a.eval)) (by simp [Instr.makeFunc,e0]) ?_ h
   refine .fn _ (by simp) fun j d hj=>?_
   simp only [zf,zb,Array.getElem?_toList] at hj
   obtain ⟨x,hx,rfl⟩:=hj
   have e:(cap.map a.eval).getD j undef=a.eval x:=by simp [zd,hx]
   rw [e]
   exact hs.ev x
  ·split at h
   ·rename_i x e1 e2
    have e0:first = #[x]:=Array.toList_inj.1 e1
    have e3:cap = #[]:=Array.toList_inj.1 e2
    subst e0; subst e3
    exact Done.value hs (m:=Instr.makeFunc (.func f) #[a.eval x] #[]) (by simp [execOp,hop]) (z:=.func (.func f) #[a.eval x] #[]) (by simp [Instr.makeFunc]) (.bm (hs.ev x)) h
   ·exact h.elim
 case makeInterface t x=>
  exact Done.value hs (m:=Instr.makeInterface t (a.eval x)) (by simp [execOp,hop]) (run_makeInterface E.w t _ h.1) (.ifc (hs.ev x)) h.2
 case build t parts=>
  obtain ⟨d,hd,hk⟩:=opt_elim h
  obtain ⟨z,hz,hzd⟩:=qBuild_ok hT hs.rel (pv:=parts.toList.map fun p=>(p.1,a.eval p.2)) hd (by simp) (mapParts hs _)
  have hpe:(parts.map fun (i,x)=>(i,a.eval x))=(parts.toList.map fun p=>(p.1,a.eval p.2)).toArray:=by
   apply Array.ext'
   simp
  exact Done.value hs (m:=Instr.build t (parts.map fun (i,x)=>(i,a.eval x))) (by simp [execOp,hop]) (by rw [hpe]; exact hz) hzd hk
 case buildSlice t len parts=>
  obtain ⟨⟨e,sz,rows⟩,hd,hk⟩:=opt_elim h
  obtain ⟨cs,h1,h2,h3,h4,h5,h6⟩:=qRows_ok hT hs.rel (pv:=parts.toList.map fun p=>(p.1,a.eval p.2)) hd (by simp) (mapParts hs _)
  have hrun:=h1 E.w rfl
  have hpe:(parts.map fun (i,x)=>(i,a.eval x))=(parts.toList.map fun p=>(p.1,a.eval p.2)).toArray:=by
   apply Array.ext'
   simp
  have hexec:execOp a.eval o=(do pure (.value (← Instr.buildSlice t len (parts.toList.map fun p=>(p.1,a.eval p.2)).toArray)):Sem Next):=by
   rw [← hpe]
   simp only [execOp,hop]
  dsimp only at hk
  cases own with
  | true=>
   simp only [if_true] at hk
   have hE:=Eff.of_mk hrun (newRow_ok hs.rel e sz h2 h3 h4 h5 h6)
   exact Done.eff hs hexec hE hk
  | false=>
   simp only [Bool.false_eq_true,if_false] at hk
   have hE:=Eff.of_mk hrun (newImm_ok hs.rel e sz h3 h5 h6)
   exact Done.eff hs hexec hE hk
 case makeSlice t l c=>
  split at h
  ·rename_i e _ _ _ k n k' m ht hl hc
   split at h
   ·rename_i ei he
    obtain ⟨h0,h1,hnm,h2,h3,hk⟩:=h
    have el:=hs.ev l
    have ec:=hs.ev c
    rw [hl] at el
    rw [hc] at ec
    have el:=el.v_inv
    have ec:=ec.v_inv
    obtain ⟨inf,z,hinf,hsize,hbytes,hzero,hz,_⟩:=(hT _ _ he).info
    obtain ⟨q,rfl⟩:=Int.eq_ofNat_of_zero_le h1
    obtain ⟨p,rfl⟩:=Int.eq_ofNat_of_zero_le (Int.le_trans h1 hnm)
    have hqp:q≤p:=by omega
    have hzr:RowsR E ei.size (ze q (zeroD ei)) ((zg (p * ei.size)).map (z.cells[· % z.cells.size]!)):=by
     intro i r j d hi hj
     have hi':=(List.getElem?_eq_some_iff.1 hi).1
     simp only [zc] at hi'
     rw [List.getElem?_replicate_of_lt hi'] at hi
     exact zeroRows_ok (E:=E) (hT _ _ he) hz p i r j d (by rw [List.getElem?_replicate_of_lt (by omega)]; exact hi) hj
    have hall:∀ r∈ze q (zeroD ei),r.length=ei.size:=by intro r hr; rw [List.eq_of_mem_replicate hr]; simp [zeroD,(hT _ _ he).len]
    have hrun:(Instr.makeSlice t (a.eval l) (a.eval c)).run P E.w=.ok (.slice (some ⟨E.w.heap.size,0,none⟩) q p) (E.w.alloc (.cells ((zg (p * ei.size)).map (z.cells[· % z.cells.size]!)) e)):=by
     rw [el,ec]
     have:=run_make (P:=P) E.w t e inf z ((hT _ _ ht).slice rfl) hinf hzero k k' (q:Int) (p:Int) h1 (by omega) (by rw [hbytes]; exact h2) (by omega)
     rw [hsize] at this
     simpa [madeCells] using this
    simp only [Int.toNat_natCast] at hk
    cases own with
    | true=>
     simp only [if_true] at hk
     have:=newRowC_ok hs.rel e ei.size h0 hall (cs:=(zg (p * ei.size)).map (z.cells[· % z.cells.size]!)) p (by simp) (by simp only [zc]; exact hqp) (by simp only [maxLen]; omega) (hzr.cells hall)
     simp only [zc] at this
     exact Done.eff hs (m:=Instr.makeSlice t (a.eval l) (a.eval c)) (by simp [execOp,hop]) (Eff.of_mk hrun this) hk
    | false=>
     simp only [Bool.false_eq_true,if_false] at hk
     have:=newImmC_ok hs.rel e ei.size hall (cs:=(zg (p * ei.size)).map (z.cells[· % z.cells.size]!)) p (by simp only [zc]; exact hqp) (by simp only [maxLen]; omega) (hzr.cells hall)
     simp only [zc] at this
     exact Done.eff hs (m:=Instr.makeSlice t (a.eval l) (a.eval c)) (by simp [execOp,hop]) (Eff.of_mk hrun this) hk
   ·exact h.elim
  ·exact h.elim
 case box t x=>
  obtain ⟨c,hc,hk⟩:=opt_elim h
  obtain ⟨h1,h2⟩:=cellsOf_ok hs.rel hc (hs.ev x)
  cases own
  ·refine Done.eff hs (om':=s.om) (m:=Instr.box t (a.eval x)) (by simp [execOp,hop]) (Eff.of_mk (z:=.pointer (some ⟨E.w.heap.size,0,none⟩)) (w':=E.w.alloc (.cells (a.eval x).cells t)) ?_ (newImmVar_ok hs.rel t h1 h2)) hk
   simp [Instr.box,newVar,newRow]
  ·refine Done.eff hs (m:=Instr.box t (a.eval x)) (by simp [execOp,hop]) (Eff.of_mk (z:=.pointer (some ⟨E.w.heap.size,0,none⟩)) (w':=E.w.alloc (.cells (a.eval x).cells t)) ?_ (newVar_ok hs.rel t h1 h2)) hk
   simp [Instr.box,newVar,newRow]
 case alloc t=>
  obtain ⟨i,hi,hk⟩:=opt_elim h
  obtain ⟨z,hz1,hz2,_⟩:=(hT _ _ hi).zeroValue (w:=E.w)
  obtain ⟨h1,h2⟩:=zero_cells (E:=E) (hT _ _ hi) hz2
  refine Done.eff hs (m:=Instr.alloc t true (.tuple #[])) (by simp [execOp,hop]) (Eff.of_mk (z:=.pointer (some ⟨E.w.heap.size,0,none⟩)) (w':=E.w.alloc (.cells z.cells t)) ?_ (newVar_ok hs.rel t h1 h2)) hk
  simp [Instr.alloc,hz1,newVar,newRow]
 case store t x y=>
  obtain ⟨om',hd,hk⟩:=opt_elim h
  obtain ⟨E',hrun,hx,hr⟩:=qStore_ok hT hs.rel hd (hs.ev x) (hs.ev y)
  refine .of fun r hn _=>?_
  simp only [execOp,hop,Sem.run_bind,hrun,Result.andThen_ok,Sem.run_pure,Oper.uponIn]
  refine hn E' _ _ hk ?_ (hs.put hx hr (.any undef) o.dst)
  cases o.dst <;> exact hx
 case makeMap t r=>
  cases r with
  | some r=>exact h.elim
  | none=>
   obtain ⟨u,hu,h⟩:=opt_elim h
   unfold mapK at hu
   split at hu
   ·rename_i ht
    obtain ⟨u1,_,_⟩:=(hT _ _ ht).map rfl
    refine Done.eff hs (m:=Instr.makeMap t none) (by simp [execOp,hop]) (Eff.of_mk (z:=.map (some E.w.heap.size)) (w':=E.w.alloc (.map #[] 0)) ?_ (newMap_ok hs.rel)) h
    simp [Instr.makeMap,Sem.run_bind,run_underlying u1,newObj,Sem.run]
   ·cases hu
 case range t x=>
  obtain ⟨b,hd,hk⟩:=opt_elim h
  unfold qRange at hd
  split at hd
  ·rename_i s' ht hv
   cases hd
   have hx:=hs.ev x
   rw [hv] at hx
   obtain ⟨d,hu,hkd⟩:=(hT _ _ ht).und
   have hu:P.underlying t=some .string:=by cases d <;> simp_all [KdR]
   generalize hy:a.eval x=y at hx
   cases hx
   refine Done.eff hs (m:=Instr.range t (a.eval x)) (by simp [execOp,hop]) (Eff.of_mk (z:=.pointer (some ⟨E.w.heap.size,0,none⟩)) (w':=E.w.alloc (.stringIter _ 0)) ?_ (newIt_ok hs.rel _)) hk
   rw [hy]
   simp [Instr.range,Sem.run_bind,run_underlying hu,newObj,Sem.run]
  ·cases hd
 case next x b=>
  cases b with
  | false=>exact h.elim
  | true=>
   obtain ⟨r,hd,hk⟩:=opt_elim h
   exact Done.eff hs (m:=Instr.next (a.eval x) true o.type) (by simp [execOp,hop]) (qNext_ok hs.rel hd (hs.ev x)) hk
 case lookup t x i ok=>
  obtain ⟨d,hd,hk⟩:=opt_elim h
  obtain ⟨z,hz1,hz2⟩:=qLookup_ok hT hs.rel hd (hs.ev x) (hs.ev i)
  exact Done.value hs (m:=Instr.lookup t (a.eval x) (a.eval i) ok) (by simp [execOp,hop]) hz1 hz2 hk
 case mapUpdate t m k v=>
  obtain ⟨om',hd,hk⟩:=opt_elim h
  obtain ⟨E',hrun,hx,hr⟩:=qMapUp_ok hT hs.rel hd (hs.ev m) (hs.ev k) (hs.ev v)
  refine .of fun r hn _=>?_
  simp only [execOp,hop,Sem.run_bind,hrun,Result.andThen_ok,Sem.run_pure,Oper.uponIn]
  refine hn E' _ _ hk ?_ (hs.put hx hr (.any undef) o.dst)
  cases o.dst <;> exact hx
 case call c=>exact aCall_ok hT hop hs h
 case panic x=>
  split at h
  ·rename_i t d hc
   have hv:=hs.ev x
   rw [hc] at hv
   refine .of fun r _ hp=>?_
   generalize hy:a.eval x=y at hv
   cases hv with
   | ifc hd=>
    simp only [execOp,hop,hy,Instr.panic,Sem.run_bind,run_goPanic,Result.andThen_halt,Oper.uponIn]
    exact hp E s _ _ h (Ext.refl _ _) hs (.ifc hd)
  ·exact h.elim
 all_goals exact h.elim
theorem aop_notDefer {own:Bool} {o:Oper} {dst:Option Tmp} {s:St} {K:St→Prop} {KP:D→St→Prop} (h:aop P T own o.op dst s K KP):notDefer o:=by
 intro c hc
 rw [hc] at h
 exact h
end
end Go.Proofs.YtbmedfjmccnclaaGreat.AWP
