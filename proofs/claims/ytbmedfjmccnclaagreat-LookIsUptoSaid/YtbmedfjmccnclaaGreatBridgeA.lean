/- Rows of things that are read one by one. -/
import Derived.Test.YtbmedfjmccnclaaGreatMathA
import Derived.ProofKit
import Derived.OpenShut
import Derived.Carry
import Derived.Below
import Derived.Deep.Strs
import Derived.SliceStrings
set_option linter.unusedVariables false
set_option linter.unusedSimpArgs false
set_option linter.unusedSectionVars false
namespace Go.Proofs.YtbmedfjmccnclaaGreat.AWP
open Go
def envAt (W:World):Env:=⟨0,fun _=>.nilFunc,fun b=>b<W.heap.size,W⟩
theorem envAt_rel (W:World) (hg:∀ (g:Nat) (c:List D),gtab g=some c→Rd (envAt W) (.pel c) (.pointer (some ⟨g,0,none⟩))):Rel (envAt W) []:=⟨rfl,fun k o h=>by simp at h,fun k k' o o' b h=>by simp at h,fun b hA=>hA,fun k hk=>absurd hk (Nat.not_lt_zero _),hg⟩
theorem cell_lt {w:World} {a:Addr} {v:Value} (h:w.cell? a=some v):a.block<w.heap.size:=by
 rcases Nat.lt_or_ge a.block w.heap.size with hl | hl
 ·exact hl
 ·have:w.heap[a.block]? = none:=by simp [hl]
  simp [World.cell?,this] at h
def CellsL (E:Env) (cs:List Value) (c:List D):Prop:=cs.length=c.length∧∀ (j:Nat) (d:D),c[j]? = some d→∃ y,cs[j]? = some y∧y.oneCell'=true∧Rd E d y
theorem pick_list {α:Type} {p:Nat→α→Prop}:∀ (n:Nat),(∀ i,i<n→∃ r,p i r)→∃ l:List α,l.length=n∧∀ i r,l[i]? = some r→p i r
 | 0,_=>⟨[],rfl,fun i r h=>by simp at h⟩
 | n+1,h=>by
  obtain ⟨l,h1,h2⟩:=pick_list n fun i hi=>h i (by omega)
  obtain ⟨r,hr⟩:=h n (by omega)
  refine ⟨l++[r],by simp [h1],fun i x hx=>?_⟩
  rw [List.getElem?_append] at hx
  split at hx
  ·exact h2 i x hx
  ·rename_i hge
   have:i=n:=by
    have:=(List.getElem?_eq_some_iff.1 hx).1
    simp at this
    omega
   subst this
   rw [← h1] at hx
   simp at hx
   subst hx
   exact hr
structure ReT (P:Program) (tRe tU8 tSet tW tRes:TypeId):Prop where
 re:∃ f0 f1 f2:Field,P.underlying tRe=some (.struct #[f0,f1,f2])∧(f0.type=tU8∧f0.offset=0)∧(f1.type=tSet∧f1.offset=1)∧(f2.type=tRes∧f2.offset=5)
 u8:P.underlying tU8=some (.int .u8)
 set:P.underlying tSet=some (.array 4 tW)
 w:P.underlying tW=some (.int .u64)
 res:P.underlying tRes=some (.slice tRe)
 cRe:P.cellsOf tRe=6
 cU8:P.cellsOf tU8=1
 cSet:P.cellsOf tSet=4
 cW:P.cellsOf tW=1
 cRes:P.cellsOf tRes=1
section
variable {H:Type} {enc:TypeId × Value→H} {P:Program} {W:World} {sp:Nat→Bool} {hd:Bool} {tRe tU8 tSet tW tRes:TypeId}
end
end Go.Proofs.YtbmedfjmccnclaaGreat.AWP
namespace Go.Proofs.YtbmedfjmccnclaaGreat.AWP
open Go Go.ChangeShapes Go.WideShapes Go.ChangeAt Go.RowKit
theorem below_of_ext {W:World} {E':Env} (h:Ext (envAt W) [] E' []):Below W.heap.size W E'.w:=
 ⟨h.os,h.tape,h.output,h.size,fun k hk=>h.keep k hk (by rintro ⟨i,o,ho,_⟩; simp at ho)⟩
theorem trodAll_below {H:Type} {enc:TypeId × Value→H} {P:Program} (hl:laidOutB P=true) {W W':World} (hb:Below W.heap.size W W') {sp:Nat→Bool} :
  ∀ {ts:List TypeId} {vs:List Value} {ds:List (DataW H)} {ps:List MemPlace},(∀ t∈ts,P.readableRec t=true∧t<P.types.size)→DataW.TrodAll enc P W 0 (fun _=>true) true ts vs ds ps→(∀ x∈ps,x.block<W.heap.size) →
   DataW.TrodAll enc P W' 0 (fun b=>decide (b<W.heap.size)) true ts vs ds ps
 | [],[],[],_,_,h,_=>h
 | t :: ts,v :: vs,d :: ds,_,ht,⟨p,q,h1,h2,e⟩,hlt=>by
  subst e
  exact ⟨p,q,Below.trod hl (ht t (by simp)).1 (ht t (by simp)).2 h1 hb (fun x hx=>hlt x (by simp [hx])),trodAll_below hl hb (sp:=sp) (fun t' h'=>ht t' (by simp [h'])) h2 (fun x hx=>hlt x (by simp [hx])),rfl⟩
theorem rdA_of {E:Env} {ds:List D} {vs:List Value} (hl:vs.length=ds.length) (h:∀ (j:Nat) (d:D) (v:Value),ds[j]? = some d→vs[j]? = some v→Rd E d v):RdA E ds vs.toArray:=by
 refine ⟨by simpa using hl,fun j d hj=>?_⟩
 have hj':j<vs.length:=by rw [hl]; exact (List.getElem?_eq_some_iff.1 hj).1
 have e:=List.getElem?_eq_getElem hj'
 have:=h j d _ hj e
 have e2:vs.toArray.getD j undef=vs[j]:=by simp [Array.getD_eq_getD_getElem?,e]
 rw [e2]
 exact this
theorem rdA_3 {E:Env} {d0 d1 d2:D} {v0 v1 v2:Value} (h0:Rd E d0 v0) (h1:Rd E d1 v1) (h2:Rd E d2 v2):RdA E [d0,d1,d2] #[v0,v1,v2]:=
 rdA_of (vs:=[v0,v1,v2]) rfl fun j d v hj hv=>by
  match j,hj,hv with
  | 0,hj,hv=>simp at hj hv; subst hj; subst hv; exact h0
  | 1,hj,hv=>simp at hj hv; subst hj; subst hv; exact h1
  | 2,hj,hv=>simp at hj hv; subst hj; subst hv; exact h2
  | j+3,hj,_=>simp at hj
theorem calls_true {P:Program} {f:FuncId} {ds:List D} (h:AP P f ds (.b true)) {W:World} {args:Array Value} (ha:RdA (envAt W) ds args) (hg:∀ (g:Nat) (c:List D),gtab g=some c→Rd (envAt W) (.pel c) (.pointer (some ⟨g,0,none⟩)):=by intro g c h; cases h):Calls P f args W fun e W'=>e=.returned (.bool true)∧Below W.heap.size W W':=by
 refine (h.2 (envAt W) args (envAt_rel W hg) ha).mono ?_
 rintro e W' ⟨E',o,om',⟨rfl,rfl⟩,rfl,hx,_,ho⟩
 refine ⟨?_,below_of_ext hx⟩
 cases e with
 | returned y=>simp only [OutR] at ho; rw [ho.v_inv]
 | _=>simp [OutR] at ho
theorem post_true {H:Type} {enc:TypeId × Value→H} {P:Program} (hl:laidOutB P=true) {f:Func} {s:ChangeSpec} {apart fresh handsOn:Bool} {W W':World} {args:Array Value} {ds gs:List (DataW H)} {before:List MemPlace} {tB:TypeId}
  (hW:DataW.Whole enc P f.params.toList s.vars apart W args.toList ds gs before) (hb:Below W.heap.size W W') (hr:f.resultTypes = #[tB]) (hB:P.underlying tB=some .bool) (hv:s.vars=[])
  (ht:∀ t∈f.params.toList,P.readableRec t=true∧t<P.types.size) (hfn:(s.fn H (ds++gs)).results=[.lit (.bool true)]∧(s.fn H (ds++gs)).args=ds∧(s.fn H (ds++gs)).vars=[]) :
  s.post enc P f apart fresh handsOn false W args (.bool true) W':=by
 have hlt:=hW.lt
 obtain ⟨p,q,hA,hV,rfl,hz,hn⟩:=id hW
 have hV':=hV
 rw [hv] at hV'
 obtain ⟨rfl,rfl⟩:=trodVars_none hV'
 refine ⟨ds,[],p++[],[],p,[],hW,?_,?_,?_,World.keptBut_mono (fun x hx=>⟨hx,.inr (.inl (by simpa using hx))⟩) (hb.frame _),fun h=>by cases h⟩
 ·rw [hfn.1,hr]
  exact trodAll_mk1 (shut_bool hB true)
 ·rw [hfn.2.1]
  exact trodAll_below hl hb (sp:=fun _=>true) ht hA (fun x hx=>hlt x (by simp [hx]))
 ·rw [hfn.2.2,hv]
  exact rfl
end Go.Proofs.YtbmedfjmccnclaaGreat.AWP
namespace Go.Proofs.YtbmedfjmccnclaaGreat.AWP
open Go Go.ChangeShapes Go.WideShapes Go.ChangeAt Go.RowKit
end Go.Proofs.YtbmedfjmccnclaaGreat.AWP
namespace Go.Proofs.YtbmedfjmccnclaaGreat.AWP
open Go Go.ChangeShapes Go.WideShapes Go.ChangeAt Go.RowKit
end Go.Proofs.YtbmedfjmccnclaaGreat.AWP
namespace Go.Proofs.YtbmedfjmccnclaaGreat.AWP
open Go Go.ChangeShapes Go.WideShapes Go.ChangeAt Go.RowKit
open _root_.List renaming take_append_drop → za
section
variable {H:Type} {enc:TypeId × Value→H} {P:Program} {W:World} {sp:Nat→Bool} {hd:Bool}
theorem slice_read {α:Type} {c:α→List D} {tE tS:TypeId} {sz:Nat} (hS:P.underlying tS=some (.slice tE)) (hcE:P.cellsOf tE=sz) (hsz:0<sz) (hc:∀ a,(c a).length=sz) (Q:α→DataW H→Prop) {n:Nat}
  (ih:∀ m,m<n→∀ cs x,DataW.trod enc P W 0 sp hd m tE cs=some x→∃ a:α,CellsL (envAt W) cs (c a)∧Q a x.1) {cs:List Value} {x:DataW H × List MemPlace}
  (hx:DataW.trod enc P W 0 sp hd n tS cs=some x):∃ (l:List α) (y:Value),cs=[y]∧y.oneCell'=true∧Rd (envAt W) (.sl sz (l.map c)) y ∧
   ((l=[]∧x.1=.nil)∨∃ ds rest,x.1=.slice ds rest∧ds.length=l.length∧∀ (i:Nat) (a:α) (d:DataW H),l[i]? = some a→ds[i]? = some d→Q a d):=by
 rcases DataW.trod_slice hS hx with ⟨rfl,rfl⟩ | ⟨a,len,cap,elems,rest,m,rfl,rfl,rfl,hb,hl,hm,hlen,hel,_,_⟩
 ·exact ⟨[],_,rfl,rfl,Rd.sl (rows:=[]) ⟨0,0,none⟩ (fun _=>.nilFunc) (by simp) (Nat.le_refl _) (Nat.zero_le _) (.inl rfl) (by simp) (by simp),.inl ⟨rfl,rfl⟩⟩
 ·obtain ⟨ks,h1,h2⟩:=pick_list (α:=α) (p:=fun i r=>(∀ (j:Nat) (d:D),(c r)[j]? = some d→∃ u,W.cell? ((a.add (i * sz)).add j)=some u∧u.oneCell'=true∧Rd (envAt W) d u)∧(∀ e,elems[i]? = some e→Q r e.1)) len (fun i hi=>by
   have e:=hel i hi
   rw [List.getElem?_eq_getElem (by omega)] at e
   obtain ⟨cs',e1,e2⟩:=Option.bind_eq_some_iff.1 e
   obtain ⟨r,⟨hr1,hr2⟩,hr3⟩:=ih m (by omega) cs' _ e2
   obtain ⟨_,q2,q3⟩:=World.cells?_some e1
   refine ⟨r,fun j d hj=>?_,fun e he=>?_⟩
   ·obtain ⟨y,y1,y2,y3⟩:=hr2 j d hj
    have hj6:j<P.cellsOf tE:=by
     have:=(List.getElem?_eq_some_iff.1 y1).1
     rw [hcE,← hc r,← hr1]
     exact this
    exact ⟨y,by rw [← y1,← q3 j hj6,hcE],y2,y3⟩
   ·rw [List.getElem?_eq_getElem (by omega)] at he
    cases he
    exact hr3)
  refine ⟨ks,_,rfl,rfl,?_,.inr ⟨_,_,rfl,by rw [List.length_map]; omega,fun i r d hr hd=>?_⟩⟩
  ·refine Rd.sl_mk (by simp [h1]) (fun r hr=>?_) (by simp [h1]; exact hl) hm ?_
   ·obtain ⟨x,_,rfl⟩:=List.mem_map.1 hr
    exact hc x
   ·rcases Nat.eq_zero_or_pos len with h0 | h0
    ·left
     simp [List.eq_nil_of_length_eq_zero (h1.trans h0)]
    ·right
     refine ⟨a,rfl,?_,fun i r hi j d hj=>?_⟩
     ·obtain ⟨r0,hr0⟩:=get_ex (l:=ks) (i:=0) (by omega)
      obtain ⟨d0,hd0⟩:=get_ex (l:=c r0) (i:=0) (by rw [hc]; exact hsz)
      obtain ⟨u,hu,_⟩:=(h2 0 r0 hr0).1 0 d0 hd0
      have:=cell_lt hu
      rw [add_block,add_block] at this
      exact this
     ·simp only [List.getElem?_map,Option.map_eq_some_iff] at hi
      obtain ⟨r0,hr0,rfl⟩:=hi
      exact (h2 i r0 hr0).1 j d hj
  ·rw [List.getElem?_map,Option.map_eq_some_iff] at hd
   obtain ⟨e,he,rfl⟩:=hd
   exact (h2 i r hr).2 e he
theorem str_read {t:TypeId} (ht:P.underlying t=some .string) {n:Nat} {cs:List Value} {x:DataW H × List MemPlace} (hx:DataW.trod enc P W 0 sp hd n t cs=some x) :
  ∃ s:ByteArray,CellsL (envAt W) cs [.s s]∧x.1=.lit (.string s.data.toList):=by
 obtain ⟨s,rfl,rfl,_⟩:=DataW.trod_string ht hx
 refine ⟨s,⟨rfl,fun j d hj=>?_⟩,rfl⟩
 match j,hj with
 | 0,hj=>simp at hj; subst hj; exact ⟨_,rfl,rfl,.v _⟩
 | j+1,hj=>simp at hj
theorem int_read {t:TypeId} {k:IntKind} (ht:P.underlying t=some (.int k)) {n:Nat} {cs:List Value} {x:DataW H × List MemPlace} (hx:DataW.trod enc P W 0 sp hd n t cs=some x) :
  ∃ z:Int,cs=[.int k z]∧CellsL (envAt W) cs [.v (.int k z)]∧x.1=.lit (.int k z)∧(Lit.int k z).wf=true:=by
 obtain ⟨z,rfl,rfl,hw⟩:=DataW.trod_int ht hx
 refine ⟨z,rfl,⟨rfl,fun j d hj=>?_⟩,rfl,hw⟩
 match j,hj with
 | 0,hj=>simp at hj; subst hj; exact ⟨_,rfl,rfl,.v _⟩
 | j+1,hj=>simp at hj
theorem CellsL.append {E:Env} {cs cs':List Value} {c c':List D} (h:CellsL E cs c) (h':CellsL E cs' c'):CellsL E (cs++cs') (c++c'):=by
 refine ⟨by simp [h.1,h'.1],fun j d hj=>?_⟩
 rw [List.getElem?_append] at hj
 split at hj
 ·rename_i hlt
  obtain ⟨y,h1,h2⟩:=h.2 j d hj
  exact ⟨y,by rw [List.getElem?_append_left (List.getElem?_eq_some_iff.1 h1).1]; exact h1,h2⟩
 ·rename_i hge
  obtain ⟨y,h1,h2⟩:=h'.2 _ d hj
  refine ⟨y,?_,h2⟩
  rw [List.getElem?_append_right (by rw [h.1]; omega),h.1]
  exact h1
theorem CellsL.one {E:Env} {y:Value} {d:D} (h1:y.oneCell'=true) (h:Rd E d y):CellsL E [y] [d]:=by
 refine ⟨rfl,fun j d' hj=>?_⟩
 match j,hj with
 | 0,hj=>simp at hj; subst hj; exact ⟨_,rfl,h1,h⟩
 | j+1,hj=>simp at hj
theorem struct2_read {α β:Type} {c:α→List D} {c':β→List D} {t t0 t1:TypeId} {k0 k1:Nat} (ht:∃ f0 f1:Field,P.underlying t=some (.struct #[f0,f1])∧(f0.type=t0∧f0.offset=0)∧(f1.type=t1∧f1.offset=k0))
  (hc0:P.cellsOf t0=k0) (hc1:P.cellsOf t1=k1) (hct:P.cellsOf t=k0+k1) (Q:α→DataW H→Prop) (Q':β→DataW H→Prop) {n:Nat}
  (h0:∀ m,m<n→∀ cs x,DataW.trod enc P W 0 sp hd m t0 cs=some x→∃ a:α,CellsL (envAt W) cs (c a)∧Q a x.1)
  (h1:∀ m,m<n→∀ cs x,DataW.trod enc P W 0 sp hd m t1 cs=some x→∃ b:β,CellsL (envAt W) cs (c' b)∧Q' b x.1)
  {cs:List Value} {x:DataW H × List MemPlace} (hx:DataW.trod enc P W 0 sp hd n t cs=some x) :
  ∃ (a:α) (b:β) (d d':DataW H),CellsL (envAt W) cs (c a++c' b)∧x.1=.agg [d,d']∧Q a d∧Q' b d':=by
 obtain ⟨f0,f1,hs,⟨t0e,o0⟩,⟨t1e,o1⟩⟩:=ht
 obtain ⟨xs,m,rfl,rfl,hl,hlen,hf⟩:=DataW.trod_struct hs hx
 have hlen2:xs.length=2:=hlen
 match xs,hlen2 with
 | [y0,y1],_=>
  have q0:=hf 0 f0 rfl
  have q1:=hf 1 f1 rfl
  rw [t0e,o0,hc0,List.drop_zero] at q0
  rw [t1e,o1,hc1] at q1
  obtain ⟨a,a1,a2⟩:=h0 m (by omega) _ _ q0
  obtain ⟨b,b1,b2⟩:=h1 m (by omega) _ _ q1
  refine ⟨a,b,_,_,?_,rfl,a2,b2⟩
  have e:cs=cs.take k0++(cs.drop k0).take k1:=by
   rw [List.take_of_length_le (l:=cs.drop k0) (by rw [List.length_drop]; omega),za]
  rw [e]
  exact a1.append b1
theorem struct3_read {α β γ:Type} {c:α→List D} {c':β→List D} {c2:γ→List D} {t t0 t1 t2:TypeId} {k0 k1 k2:Nat} (ht:∃ f0 f1 f2:Field,P.underlying t=some (.struct #[f0,f1,f2])∧(f0.type=t0∧f0.offset=0)∧(f1.type=t1∧f1.offset=k0)∧(f2.type=t2∧f2.offset=k0+k1))
  (hc0:P.cellsOf t0=k0) (hc1:P.cellsOf t1=k1) (hc2:P.cellsOf t2=k2) (hct:P.cellsOf t=k0+k1+k2) (Q:α→DataW H→Prop) (Q':β→DataW H→Prop) (Q2:γ→DataW H→Prop) {n:Nat}
  (h0:∀ m,m<n→∀ cs x,DataW.trod enc P W 0 sp hd m t0 cs=some x→∃ a:α,CellsL (envAt W) cs (c a)∧Q a x.1)
  (h1:∀ m,m<n→∀ cs x,DataW.trod enc P W 0 sp hd m t1 cs=some x→∃ b:β,CellsL (envAt W) cs (c' b)∧Q' b x.1)
  (h2:∀ m,m<n→∀ cs x,DataW.trod enc P W 0 sp hd m t2 cs=some x→∃ b:γ,CellsL (envAt W) cs (c2 b)∧Q2 b x.1)
  {cs:List Value} {x:DataW H × List MemPlace} (hx:DataW.trod enc P W 0 sp hd n t cs=some x) :
  ∃ (a:α) (b:β) (g:γ) (d d' d2:DataW H),CellsL (envAt W) cs (c a++(c' b++c2 g))∧x.1=.agg [d,d',d2]∧Q a d∧Q' b d'∧Q2 g d2:=by
 obtain ⟨f0,f1,f2,hs,⟨t0e,o0⟩,⟨t1e,o1⟩,⟨t2e,o2⟩⟩:=ht
 obtain ⟨xs,m,rfl,rfl,hl,hlen,hf⟩:=DataW.trod_struct hs hx
 have hlen2:xs.length=3:=hlen
 match xs,hlen2 with
 | [y0,y1,y2],_=>
  have q0:=hf 0 f0 rfl
  have q1:=hf 1 f1 rfl
  have q2:=hf 2 f2 rfl
  rw [t0e,o0,hc0,List.drop_zero] at q0
  rw [t1e,o1,hc1] at q1
  rw [t2e,o2,hc2] at q2
  obtain ⟨a,a1,a2⟩:=h0 m (by omega) _ _ q0
  obtain ⟨b,b1,b2⟩:=h1 m (by omega) _ _ q1
  obtain ⟨g,g1,g2⟩:=h2 m (by omega) _ _ q2
  refine ⟨a,b,g,_,_,_,?_,rfl,a2,b2,g2⟩
  have e:cs=cs.take k0++((cs.drop k0).take k1++(cs.drop (k0+k1)).take k2):=by
   rw [List.take_of_length_le (l:=cs.drop (k0+k1)) (by rw [List.length_drop]; omega),← List.drop_drop,za,za]
  rw [e]
  exact a1.append (b1.append g1)
theorem agg_arg {v:Value} {c:List D} (hv:∃ cs,v=.agg cs) (h:CellsL (envAt W) v.cells.toList c):Rd (envAt W) (.agg c) v:=by
 obtain ⟨cs,rfl⟩:=hv
 have hl:cs.size=c.length:=by simpa [Value.cells] using h.1
 refine .agg cs hl (fun j hj=>?_) (fun j d' hj=>?_)
 ·obtain ⟨d',hd'⟩:=get_ex (l:=c) (i:=j) (by omega)
  obtain ⟨y,e1,e2,_⟩:=h.2 j d' hd'
  have:cs.getD j undef=y:=by
   have e1':cs[j]? = some y:=by simpa [Value.cells] using e1
   simp [Array.getD_eq_getD_getElem?,e1']
  rw [this]; exact e2
 ·obtain ⟨y,e1,_,e3⟩:=h.2 j d' hj
  have:cs.getD j undef=y:=by
   have e1':cs[j]? = some y:=by simpa [Value.cells] using e1
   simp [Array.getD_eq_getD_getElem?,e1']
  rw [this]; exact e3
theorem agg_of {v:Value} {c:List D} (h:CellsL (envAt W) v.cells.toList c) (h2:2≤c.length):∃ cs,v=.agg cs:=by
 cases v with
 | agg cs=>exact ⟨cs,rfl⟩
 | _=>have:=h.1; simp [Value.cells] at this; omega
end
end Go.Proofs.YtbmedfjmccnclaaGreat.AWP
