/- A function that defers one call of a function literal, behind its first region. -/
import Derived.Test.YtbmedfjmccnclaaGreatLogicB
import Derived.RangeFuncLeaves
import Derived.RecoverIn
set_option linter.unusedVariables false
set_option linter.unusedSimpArgs false
set_option linter.unusedSectionVars false
namespace Go.Proofs.YtbmedfjmccnclaaGreat.AWP
open Go
open _root_.List renaming getD_eq_getElem?_getD → za, getElem?_eq_getElem → zb, mem_of_getElem? → zc, eq_nil_of_length_eq_zero → zd, getElem?_cons_zero → zg, getElem?_cons_succ → zh, getElem?_of_mem → zj
open _root_.Nat renaming zero_le → ze, le_refl → zf, not_lt_zero → zk, zero_add → zl
open _root_.Array renaming getD_eq_getD_getElem? → zi
inductive Cv (om:List Ob) (F:Nat→Bool) (ks:List (Option Nat)):D→D→Prop where
 | same {d:D} (h:Bl 0 d):Cv om F ks d d
 | any {d:D}:Cv om F ks d .any
 | nil {sz:Nat}:Cv om F ks (.v (.slice none 0 0)) (.sl sz [])
 | nilOwn {j:Nat} (h:ks[j]? = some none):Cv om F ks (.v (.slice none 0 0)) (.own j)
 | own {k j:Nat} (h:ks[j]? = some (some k)):Cv om F ks (.own k) (.own j)
 | ref {k j off:Nat} (h:ks[j]? = some (some k)):Cv om F ks (.ref k off) (.ref j off)
 | rel {k j sz i l:Nat} (h:ks[j]? = some (some k)):Cv om F ks (.rel k sz i l) (.rel j sz i l)
 | yld {k j:Nat} (h:ks[j]? = some (some k)):Cv om F ks (.yld k) (.yld j)
 | bm {f:FuncId} {d d':D} (h:Cv om F ks d d'):Cv om F ks (.bm f d) (.bm f d')
 | frz {k ty sz:Nat} {rows rows':List (List D)} (h:om[k]? = some (.slc ty sz rows)) (hF:F k=true) (hl:rows'.length=rows.length)
   (hr:∀ (i:Nat) (r r':List D),rows[i]? = some r→rows'[i]? = some r'→r'.length=r.length)
   (hc:∀ (i:Nat) (r r':List D) (j:Nat) (d d':D),rows[i]? = some r→rows'[i]? = some r'→r[j]? = some d→r'[j]? = some d'→Cv om F ks d d'):Cv om F ks (.own k) (.sl sz rows')
 | frz' {k sz:Nat} {rows rows':List (List D)} (h:om[k]? = some (.frz sz rows)) (hl:rows'.length=rows.length)
   (hr:∀ (i:Nat) (r r':List D),rows[i]? = some r→rows'[i]? = some r'→r'.length=r.length)
   (hc:∀ (i:Nat) (r r':List D) (j:Nat) (d d':D),rows[i]? = some r→rows'[i]? = some r'→r[j]? = some d→r'[j]? = some d'→Cv om F ks d d'):Cv om F ks (.own k) (.sl sz rows')
 | frv {k ty off:Nat} {c c':List D} (h:om[k]? = some (.var ty c)) (hF:F k=true) (hl:c'.length+off≤c.length)
   (hc:∀ (j:Nat) (d d':D),c[off+j]? = some d→c'[j]? = some d'→Cv om F ks d d'):Cv om F ks (.ref k off) (.pel c')
 | frv' {k off:Nat} {c c':List D} (h:om[k]? = some (.frv c)) (hl:c'.length+off≤c.length)
   (hc:∀ (j:Nat) (d d':D),c[off+j]? = some d→c'[j]? = some d'→Cv om F ks d d'):Cv om F ks (.ref k off) (.pel c')
 | sl {sz:Nat} {rows rows':List (List D)} (hl:rows'.length=rows.length)
   (hr:∀ (i:Nat) (r r':List D),rows[i]? = some r→rows'[i]? = some r'→r'.length=r.length)
   (hc:∀ (i:Nat) (r r':List D) (j:Nat) (d d':D),rows[i]? = some r→rows'[i]? = some r'→r[j]? = some d→r'[j]? = some d'→Cv om F ks d d'):Cv om F ks (.sl sz rows) (.sl sz rows')
 | agg {c c':List D} (hl:c'.length=c.length) (hc:∀ (j:Nat) (d d':D),c[j]? = some d→c'[j]? = some d'→Cv om F ks d d'):Cv om F ks (.agg c) (.agg c')
 | tup {c c':List D} (hl:c'.length=c.length) (hc:∀ (j:Nat) (d d':D),c[j]? = some d→c'[j]? = some d'→Cv om F ks d d'):Cv om F ks (.tup c) (.tup c')
 | pel {c c':List D} (hl:c'.length=c.length) (hc:∀ (j:Nat) (d d':D),c[j]? = some d→c'[j]? = some d'→Cv om F ks d d'):Cv om F ks (.pel c) (.pel c')
 | fn {f:FuncId} {c c':List D} (hl:c'.length=c.length) (hc:∀ (j:Nat) (d d':D),c[j]? = some d→c'[j]? = some d'→Cv om F ks d d'):Cv om F ks (.fn f c) (.fn f c')
 | ifc {t:TypeId} {d d':D} (h:Cv om F ks d d'):Cv om F ks (.ifc t d) (.ifc t d')
structure CvOk (E E':Env) (om:List Ob) (F:Nat→Bool) (ks:List (Option Nat)):Prop where
 A:∀ b,E.A b→E'.A b
 w:E'.w=E.w
 n:ks.length≤E'.n
 g:∀ j k:Nat,ks[j]? = some (some k)→E'.g j=E.g k
 g0:∀ j:Nat,ks[j]? = some none→E'.g j=.slice none 0 0
 frz:∀ (k:Nat) (o:Ob) (b:Nat),om[k]? = some o→o.live=true→F k=true→hb (E.g k)=some b→E'.A b
section
variable {E E':Env} {om om':List Ob} {F:Nat→Bool} {ks:List (Option Nat)}
theorem get_of_len {α:Type} {c c':List α} {j:Nat} {d':α} (hl:c'.length=c.length) (h:c'[j]? = some d'):∃ d,c[j]? = some d:=by
 have:=(List.getElem?_eq_some_iff.1 h).1
 exact ⟨c[j],zb (by omega)⟩
theorem Cv.rd (hR:Rel E om) (ok:CvOk E E' om F ks) {d d':D} (h:Cv om F ks d d'):∀ {y:Value},Rd E d y→Rd E' d' y:=by
 have kl:∀ {j:Nat} {x:Option Nat},ks[j]? = some x→j<E'.n:=fun h=>Nat.lt_of_lt_of_le (List.getElem?_eq_some_iff.1 h).1 ok.n
 induction h with
 | same h=>intro y hd; exact Rd.bl (n:=0) (ze _) (fun k hk=>by omega) ok.A ok.w hd h
 | any=>intro y _; exact .any _
 | nil=>intro y hd; rw [hd.v_inv]; exact Rd.sl (rows:=[]) ⟨0,0,none⟩ (fun _=>.nilFunc) (by simp) (zf _) (ze _) (.inl rfl) (by simp) (by simp)
 | nilOwn h=>intro y hd; rw [hd.v_inv,← ok.g0 _ h]; exact .own (kl h)
 | own h=>intro y hd; cases hd with | own hk=>rw [← ok.g _ _ h]; exact .own (kl h)
 | ref h=>intro y hd; cases hd with | ref hk hg=>exact .ref (kl h) (by rw [ok.g _ _ h]; exact hg)
 | rel h=>intro y hd; cases hd with | rel hk hg=>exact .rel (kl h) (by rw [ok.g _ _ h]; exact hg)
 | yld h=>intro y hd; cases hd with | yld hk hg=>exact .yld (kl h) (by rw [ok.g _ _ h]; exact hg)
 | bm h ih=>intro y hd; cases hd with | bm hd=>exact .bm (ih hd)
 | @frz k ty sz rows rows' h hF hl hr hc ih=>
  intro y hd
  cases hd with
  | own hk=>
   obtain ⟨h0,hs,⟨e1,e2⟩ | ⟨b,cs,cap,q1,q2,q3,q4,q5,q6,q7⟩⟩:=hR.ob k _ h
   ·subst e2
    have:rows'=[]:=zd (by simpa using hl)
    subst this
    rw [e1]
    exact Rd.sl (rows:=[]) ⟨0,0,none⟩ (fun _=>.nilFunc) (by simp) (zf _) (ze _) (.inl rfl) (by simp) (by simp)
   ·rw [q1,← hl]
    have hA:=ok.frz k _ b h rfl hF (by rw [q1]; rfl)
    refine Rd.sl_mk rfl (fun r' hr'=>?_) (by omega) q6 (.inr ⟨⟨b,0,none⟩,rfl,hA,fun i r' hi j d' hj=>?_⟩)
    ·obtain ⟨i,hi⟩:=zj hr'
     obtain ⟨r,hri⟩:=get_of_len hl hi
     rw [hr i r r' hri hi]
     exact hs r (zc hri)
    ·obtain ⟨r,hri⟩:=get_of_len hl hi
     obtain ⟨d,hdj⟩:=get_of_len (hr i r r' hri hi) hj
     obtain ⟨v,e1,e2,e3⟩:=q7 _ d (flatten_get hs hri hdj)
     refine ⟨v,?_,e2,ih i r r' j d d' hri hi hdj hj e3⟩
     rw [ok.w,add_mk,add_mk,cell_of_heap q2,zl]
     exact e1
 | @frz' k sz rows rows' h hl hr hc ih=>
  intro y hd
  cases hd with
  | own hk=>
   have hob:=(hR.ob k _ h).1
   generalize E.g k=y at hob
   cases hob with
   | sl ad u hr0 hl0 hm ha hcc hd0=>
    rw [← hl]
    refine .sl ad u (fun r' hr'=>?_) (by omega) hm ?_ (fun i r' j d' hi hj=>?_) (fun i r' j d' hi hj=>?_)
    ·obtain ⟨i,hi⟩:=zj hr'
     obtain ⟨r,hri⟩:=get_of_len hl hi
     rw [hr i r r' hri hi]
     exact hr0 r (zc hri)
    ·rcases ha with rfl | ha
     ·exact .inl (zd (by simpa using hl))
     ·exact .inr ⟨ha.1,ok.A _ ha.2⟩
    ·obtain ⟨r,hri⟩:=get_of_len hl hi
     obtain ⟨d,hdj⟩:=get_of_len (hr i r r' hri hi) hj
     rw [ok.w]
     exact hcc i r j d hri hdj
    ·obtain ⟨r,hri⟩:=get_of_len hl hi
     obtain ⟨d,hdj⟩:=get_of_len (hr i r r' hri hi) hj
     exact ih i r r' j d d' hri hi hdj hj (hd0 i r j d hri hdj)
 | @frv k ty off c c' h hF hl hc ih=>
  intro y hd
  cases hd with
  | ref hk hg=>
   obtain ⟨b,cs,q1,q2,q3,q4,q5⟩:=hR.ob k _ h
   rw [q1] at hg
   simp only [hb,Option.some.injEq] at hg
   subst hg
   have hA:=ok.frz k _ b h rfl hF (by rw [q1]; rfl)
   refine Rd.pel_mk hA fun j d' hj=>?_
   have hjl:=(List.getElem?_eq_some_iff.1 hj).1
   obtain ⟨v,e1,e2,e3⟩:=q5 (off+j) c[off+j] (zb (by omega))
   refine ⟨v,?_,e2,ih j _ d' (zb (by omega)) hj e3⟩
   rw [ok.w,add_mk,cell_of_heap q2]
   exact e1
 | @frv' k off c c' h hl hc ih=>
  intro y hd
  cases hd with
  | ref hk hg=>
   obtain ⟨hp,b,q1⟩:=hR.ob k _ h
   rw [q1] at hg hp
   simp only [hb,Option.some.injEq] at hg
   subst hg
   cases hp with
   | pel ad u hA hcc hd0=>
    refine Rd.pel_mk (ok.A _ hA) fun j d' hj=>?_
    have hjl:=(List.getElem?_eq_some_iff.1 hj).1
    have e:=zb (l:=c) (i:=off+j) (by omega)
    refine ⟨u (off+j),?_,(hcc _ _ e).2,ih j _ d' e hj (hd0 _ _ e)⟩
    rw [ok.w,add_mk]
    have:=(hcc _ _ e).1
    rw [add_mk,zl] at this
    exact this
 | @sl sz rows rows' hl hr hc ih=>
  intro y hd
  cases hd with
  | sl ad u hr0 hl0 hm ha hcc hd0=>
   rw [← hl]
   refine .sl ad u (fun r' hr'=>?_) (by omega) hm ?_ (fun i r' j d' hi hj=>?_) (fun i r' j d' hi hj=>?_)
   ·obtain ⟨i,hi⟩:=zj hr'
    obtain ⟨r,hri⟩:=get_of_len hl hi
    rw [hr i r r' hri hi]
    exact hr0 r (zc hri)
   ·rcases ha with rfl | ha
    ·exact .inl (zd (by simpa using hl))
    ·exact .inr ⟨ha.1,ok.A _ ha.2⟩
   ·obtain ⟨r,hri⟩:=get_of_len hl hi
    obtain ⟨d,hdj⟩:=get_of_len (hr i r r' hri hi) hj
    rw [ok.w]
    exact hcc i r j d hri hdj
   ·obtain ⟨r,hri⟩:=get_of_len hl hi
    obtain ⟨d,hdj⟩:=get_of_len (hr i r r' hri hi) hj
    exact ih i r r' j d d' hri hi hdj hj (hd0 i r j d hri hdj)
 | agg hl hc ih=>
  intro y hd
  cases hd with
  | agg vs hs h1 hd=>
   refine .agg vs (by omega) h1 fun j d' hj=>?_
   obtain ⟨d,hdj⟩:=get_of_len hl hj
   exact ih j d d' hdj hj (hd j d hdj)
 | tup hl hc ih=>
  intro y hd
  cases hd with
  | tup vs hs hd=>
   refine .tup vs (by omega) fun j d' hj=>?_
   obtain ⟨d,hdj⟩:=get_of_len hl hj
   exact ih j d d' hdj hj (hd j d hdj)
 | pel hl hc ih=>
  intro y hd
  cases hd with
  | pel ad u hA hcc hd=>
   refine .pel ad u (ok.A _ hA) (fun j d' hj=>?_) fun j d' hj=>?_
   ·obtain ⟨d,hdj⟩:=get_of_len hl hj
    rw [ok.w]
    exact hcc j d hdj
   ·obtain ⟨d,hdj⟩:=get_of_len hl hj
    exact ih j d d' hdj hj (hd j d hdj)
 | fn hl hc ih=>
  intro y hd
  cases hd with
  | fn vs hs hd=>
   refine .fn vs (by omega) fun j d' hj=>?_
   obtain ⟨d,hdj⟩:=get_of_len hl hj
   exact ih j d d' hdj hj (hd j d hdj)
 | ifc h ih=>intro y hd; cases hd with | ifc hd=>exact .ifc (ih hd)
inductive MvO (om:List Ob) (F:Nat→Bool) (ks:List (Option Nat)):Option Nat→Ob→Prop where
 | nil {ty sz:Nat} (h:0<sz):MvO om F ks none (.slc ty sz [])
 | var {k ty:Nat} {c c':List D} (h:om[k]? = some (.var ty c)) (hl:c'.length=c.length) (hc:∀ (j:Nat) (d d':D),c[j]? = some d→c'[j]? = some d'→Cv om F ks d d'):MvO om F ks (some k) (.var ty c')
 | slc {k ty sz:Nat} {rows rows':List (List D)} (h:om[k]? = some (.slc ty sz rows)) (hl:rows'.length=rows.length)
   (hr:∀ (i:Nat) (r r':List D),rows[i]? = some r→rows'[i]? = some r'→r'.length=r.length)
   (hc:∀ (i:Nat) (r r':List D) (j:Nat) (d d':D),rows[i]? = some r→rows'[i]? = some r'→r[j]? = some d→r'[j]? = some d'→Cv om F ks d d'):MvO om F ks (some k) (.slc ty sz rows')
 | lp {k:Nat} {ps:Array Tmp} {as bo:Code} {st:LoopState} {pe:Option Code} {c c':List D} (h:om[k]? = some (.lp ps as bo st pe c)) (hl:c'.length=c.length) (hc:∀ (j:Nat) (d d':D),c[j]? = some d→c'[j]? = some d'→Cv om F ks d d'):MvO om F ks (some k) (.lp ps as bo st pe c')
 | mp {k:Nat} {es:List (ByteArray × Value)} (h:om[k]? = some (.mp es)):MvO om F ks (some k) (.mp es)
 | it {k:Nat} {s:ByteArray} {pos:Nat} (h:om[k]? = some (.it s pos)):MvO om F ks (some k) (.it s pos)
 | alt {k ty:Nat} {cs:List (List D)} (h:om[k]? = some (.alt ty cs)):MvO om F ks (some k) (.alt ty cs)
 | dead {k:Nat} {o:Ob} (h:om[k]? = some o):MvO om F ks (some k) .dead
theorem mv_ok {base:Nat} (hF:∀ (k:Nat) (j:Nat),F k=true→ks[j]? = some (some k)→False) (hnd:∀ (j j' k:Nat),ks[j]? = some (some k)→ks[j']? = some (some k)→j=j') (hlen:om'.length=ks.length)
  (hbase:∀ j:Nat,j<base→ks[j]? = some (some j)) (hob:∀ (j:Nat) (x:Option Nat) (o:Ob),ks[j]? = some x→om'[j]? = some o→MvO om F ks x o) (hR:Rel E om) :
  ∃ E',E'.w=E.w∧ExtB base E om E' om'∧Rel E' om'∧CvOk E E' om F ks:=by
 let E':Env:=⟨ks.length,fun j=>match ks[j]? with | some (some k)=>E.g k | _=>.slice none 0 0,fun b=>E.A b∨∃ k o,om[k]? = some o∧o.live=true∧F k=true∧hb (E.g k)=some b,E.w⟩
 have hg:∀ j k:Nat,ks[j]? = some (some k)→E'.g j=E.g k:=fun j k h=>by simp only [E',h]
 have hg0:∀ j:Nat,ks[j]? = some none→E'.g j=.slice none 0 0:=fun j h=>by simp only [E',h]
 have ok:CvOk E E' om F ks:=⟨fun b h=>.inl h,rfl,zf _,hg,hg0,fun k o b h1 h2 h3 h4=>.inr ⟨k,o,h1,h2,h3,h4⟩⟩
 have kget:∀ {j:Nat} {o:Ob},om'[j]? = some o→∃ x,ks[j]? = some x∧MvO om F ks x o:=by
  intro j o h
  have hj:=(List.getElem?_eq_some_iff.1 h).1
  have e:=zb (l:=ks) (i:=j) (by omega)
  exact ⟨_,e,hob j _ o e h⟩
 have notA:∀ {j k b:Nat} {o:Ob},ks[j]? = some (some k)→om[k]? = some o→o.live=true→hb (E.g k)=some b→¬ E'.A b:=by
  intro j k b o h1 h2 h3 h4 hA
  rcases hA with hA | ⟨k',o',q1,q2,q3,q4⟩
  ·exact (hR.live_lt ⟨k,o,h2,h3,h4⟩).2 hA
  ·obtain rfl:=hR.inj _ _ _ _ b q1 h2 q2 h3 q4 h4
   exact hF _ _ q3 h1
 have live:∀ {j b:Nat} {o:Ob},om'[j]? = some o→o.live=true→hb (E'.g j)=some b→∃ k o0,ks[j]? = some (some k)∧om[k]? = some o0∧o0.live=true∧hb (E.g k)=some b:=by
  intro j b o h1 h2 h3
  obtain ⟨x,hx,ho⟩:=kget h1
  cases ho with
  | nil h=>rw [hg0 _ hx] at h3; simp [hb] at h3
  | var h hl hc=>exact ⟨_,_,hx,h,rfl,by rw [← hg _ _ hx]; exact h3⟩
  | slc h hl hr hc=>exact ⟨_,_,hx,h,rfl,by rw [← hg _ _ hx]; exact h3⟩
  | lp h hl hc=>exact ⟨_,_,hx,h,rfl,by rw [← hg _ _ hx]; exact h3⟩
  | mp h=>exact ⟨_,_,hx,h,rfl,by rw [← hg _ _ hx]; exact h3⟩
  | it h=>exact ⟨_,_,hx,h,rfl,by rw [← hg _ _ hx]; exact h3⟩
  | alt h=>exact ⟨_,_,hx,h,rfl,by rw [← hg _ _ hx]; exact h3⟩
  | dead h=>simp [Ob.live] at h2
 refine ⟨E',rfl,⟨?_,fun j hj=>hg j j (hbase j hj),ok.A,zf _,rfl,rfl,rfl,fun _ _ _=>rfl,?_,?_⟩,⟨hlen,?_,?_,?_,?_,?_⟩,ok⟩
 ·rcases Nat.eq_zero_or_pos base with h | h
  ·omega
  ·have:=(List.getElem?_eq_some_iff.1 (hbase (base - 1) (by omega))).1
   show base≤ks.length
   omega
 ·rintro b ⟨j,o,h1,h2,h3⟩
  obtain ⟨k,o0,q1,q2,q3,q4⟩:=live h1 h2 h3
  exact .inl ⟨k,o0,q2,q3,q4⟩
 ·rintro b (hA | ⟨k,o,q1,q2,q3,q4⟩)
  ·exact .inl hA
  ·exact .inr (.inl ⟨k,o,q1,q2,q4⟩)
 ·intro j o hj
  obtain ⟨x,hx,ho⟩:=kget hj
  cases ho with
  | nil h=>exact ⟨h,by simp,.inl ⟨hg0 _ hx,rfl⟩⟩
  | @var k ty c c' h hl hc=>
   obtain ⟨b,cs,q1,q2,q3,q4,q5⟩:=hR.ob k _ h
   refine ⟨b,cs,by rw [hg _ _ hx]; exact q1,q2,notA hx h rfl (by rw [q1]; rfl),by omega,fun i d' hi=>?_⟩
   obtain ⟨d,hd⟩:=get_of_len hl hi
   obtain ⟨v,e1,e2,e3⟩:=q5 i d hd
   exact ⟨v,e1,e2,(hc i d d' hd hi).rd hR ok e3⟩
  | @slc k ty sz rows rows' h hl hr hc=>
   obtain ⟨h0,hs,hh⟩:=hR.ob k _ h
   have hs':∀ r'∈rows',r'.length=sz:=fun r' hr'=>by
    obtain ⟨i,hi⟩:=zj hr'
    obtain ⟨r,hri⟩:=get_of_len hl hi
    rw [hr i r r' hri hi]
    exact hs r (zc hri)
   refine ⟨h0,hs',?_⟩
   rcases hh with ⟨e1,e2⟩ | ⟨b,cs,cap,q1,q2,q3,q4,q5,q6,q7⟩
   ·subst e2
    exact .inl ⟨by rw [hg _ _ hx]; exact e1,zd (by simpa using hl)⟩
   ·refine .inr ⟨b,cs,cap,by rw [hg _ _ hx,hl]; exact q1,q2,notA hx h rfl (by rw [q1]; rfl),q4,by omega,q6,fun p d' hp=>?_⟩
    obtain ⟨i,r',j,e1,e2,rfl,e4⟩:=flatten_inv hs' hp
    obtain ⟨r,hri⟩:=get_of_len hl e1
    obtain ⟨d,hdj⟩:=get_of_len (hr i r r' hri e1) e2
    obtain ⟨v,f1,f2,f3⟩:=q7 _ d (flatten_get hs hri hdj)
    exact ⟨v,f1,f2,(hc i r r' j d d' hri e1 hdj e2).rd hR ok f3⟩
  | @lp k ps as bo st pe c c' h hl hc=>
   obtain ⟨b,r,q1,q2,q3,q4,q5,q6,q7,q8,q9,q10⟩:=hR.ob k _ h
   refine ⟨b,r,by rw [hg _ _ hx]; exact q1,q2,notA hx h rfl (by rw [q1]; rfl),q4,q5,q6,q7,q8,by omega,fun t=>?_⟩
   by_cases ht:t<c'.length
   ·have e':=zb ht
    obtain ⟨d,hd⟩:=get_of_len hl e'
    have:=q10 t
    rw [za,hd] at this
    rw [za,e']
    exact (hc t d _ hd e').rd hR ok this
   ·rw [za,List.getElem?_eq_none (by omega)]
    exact .any _
  | @mp k es h=>
   obtain ⟨b,xs,ck,q1,q2,q3,q4⟩:=hR.ob k _ h
   exact ⟨b,xs,ck,by rw [hg _ _ hx]; exact q1,q2,notA hx h rfl (by rw [q1]; rfl),q4⟩
  | @it k s pos h=>
   obtain ⟨b,q1,q2,q3⟩:=hR.ob k _ h
   exact ⟨b,by rw [hg _ _ hx]; exact q1,q2,notA hx h rfl (by rw [q1]; rfl)⟩
  | @alt k ty cs h=>
   obtain ⟨c,p1,p2,b,a,q1,q2,q3,q4,q5⟩:=hR.ob k _ h
   refine ⟨c,p1,p2,b,a,by rw [hg _ _ hx]; exact q1,q2,notA hx h rfl (by rw [q1]; rfl),q4,fun i d hi=>?_⟩
   obtain ⟨v,e1,e2,e3⟩:=q5 i d hi
   exact ⟨v,e1,e2,(Cv.same (p2 d (zc hi))).rd hR ok e3⟩
  | dead h=>trivial
 ·intro j j' o o' b h1 h2 h3 h4 h5 h6
  obtain ⟨k,o0,q1,q2,q3,q4⟩:=live h1 h3 h5
  obtain ⟨k',o0',q1',q2',q3',q4'⟩:=live h2 h4 h6
  obtain rfl:=hR.inj _ _ _ _ b q2 q2' q3 q3' q4 q4'
  exact hnd _ _ _ q1 q1'
 ·rintro b (hA | ⟨k,o,q1,q2,q3,q4⟩)
  ·exact hR.old b hA
  ·exact (hR.live_lt ⟨k,o,q1,q2,q4⟩).1
 ·intro j hj
  obtain ⟨x,hx⟩:∃ x,ks[j]? = some x:=⟨ks[j],zb hj⟩
  cases x with
  | none=>rw [hg0 _ hx]; rfl
  | some k=>
   rw [hg _ _ hx]
   have hj':j<om'.length:=by rw [hlen]; exact hj
   have ho:=hob j _ _ hx (zb hj')
   generalize om'[j]=o' at ho
   have:∃ o,om[k]? = some o:=by
    cases ho with
    | var h _ _=>exact ⟨_,h⟩
    | slc h _ _ _=>exact ⟨_,h⟩
    | lp h _ _=>exact ⟨_,h⟩
    | mp h=>exact ⟨_,h⟩
    | it h=>exact ⟨_,h⟩
    | alt h=>exact ⟨_,h⟩
    | dead h=>exact ⟨_,h⟩
   obtain ⟨o,ho⟩:=this
   exact hR.one k (by rw [← hR.len]; exact (List.getElem?_eq_some_iff.1 ho).1)
 ·intro g c h; exact Rd.bl (n:=0) (ze _) (fun _ h=>absurd h (zk _)) ok.A ok.w (hR.gt g c h) (gtab_bl h)
def Mv (base:Nat) (s s':St):Prop:=∀ lo E a,base≤E.n→Sat lo E s a→∃ E',E'.w=E.w∧ExtB base E s.om E' s'.om∧Sat lo E' s' a
def CvL (om:List Ob) (F:Nat→Bool) (ks:List (Option Nat)):List D→List D→Prop
 | [],[]=>True
 | d :: e,d' :: e'=>Cv om F ks d d'∧CvL om F ks e e'
 | _,_=>False
theorem CvL.len:∀ {e e':List D},CvL om F ks e e'→e'.length=e.length
 | [],[],_=>rfl
 | d :: e,d' :: e',h=>by simp only [List.length_cons]; rw [h.2.len]
theorem CvL.get:∀ {e e':List D},CvL om F ks e e'→∀ (j:Nat) (d d':D),e[j]? = some d→e'[j]? = some d'→Cv om F ks d d'
 | [],[],_,j,d,d',h1,h2=>by simp at h1
 | d :: e,d' :: e',h,0,x,x',h1,h2=>by
  simp only [zg,Option.some.injEq] at h1 h2
  subst h1; subst h2
  exact h.1
 | d :: e,d' :: e',h,j+1,x,x',h1,h2=>by
  simp only [zh] at h1 h2
  exact h.2.get j x x' h1 h2
def MvL (om:List Ob) (F:Nat→Bool) (ks:List (Option Nat)):List (Option Nat)→List Ob→Prop
 | [],[]=>True
 | x :: l,o :: l'=>MvO om F ks x o∧MvL om F ks l l'
 | _,_=>False
theorem MvL.len:∀ {l:List (Option Nat)} {l':List Ob},MvL om F ks l l'→l'.length=l.length
 | [],[],_=>rfl
 | x :: l,o :: l',h=>by simp only [List.length_cons]; rw [h.2.len]
theorem MvL.get:∀ {l:List (Option Nat)} {l':List Ob},MvL om F ks l l'→∀ (j:Nat) (x:Option Nat) (o:Ob),l[j]? = some x→l'[j]? = some o→MvO om F ks x o
 | [],[],_,j,x,o,h1,h2=>by simp at h1
 | x :: l,o :: l',h,0,y,p,h1,h2=>by
  simp only [zg,Option.some.injEq] at h1 h2
  subst h1; subst h2
  exact h.1
 | x :: l,o :: l',h,j+1,y,p,h1,h2=>by
  simp only [zh] at h1 h2
  exact h.2.get j y p h1 h2
def ksOk (base:Nat) (ks:List (Option Nat)):Bool:=
 (ks.filterMap id).Nodup && (List.range base).all fun j=>ks[j]? == some (some j)
def kF (ks:List (Option Nat)):Nat→Bool:=fun k=>!ks.contains (some k)
theorem nodup_of:∀ {ks:List (Option Nat)},(ks.filterMap id).Nodup→∀ (j j' k:Nat),ks[j]? = some (some k)→ks[j']? = some (some k)→j=j'
 | [],_,j,j',k,h,_=>by simp at h
 | x :: ks,hn,j,j',k,h,h'=>by
  have hmem:∀ i:Nat,ks[i]? = some (some k)→k∈ks.filterMap id:=fun i hi=>List.mem_filterMap.2 ⟨some k,zc hi,rfl⟩
  cases x with
  | none=>
   simp only [List.filterMap_cons_none,id] at hn
   cases j with
   | zero=>simp at h
   | succ j=>
    cases j' with
    | zero=>simp at h'
    | succ j'=>simp only [zh] at h h'; rw [nodup_of hn j j' k h h']
  | some x=>
   rw [show (some x :: ks).filterMap id=x :: ks.filterMap id from rfl,List.nodup_cons] at hn
   cases j with
   | zero=>
    simp only [zg,Option.some.injEq] at h
    subst h
    cases j' with
    | zero=>rfl
    | succ j'=>exact (hn.1 (hmem j' (by simpa using h'))).elim
   | succ j=>
    cases j' with
    | zero=>
     simp only [zg,Option.some.injEq] at h'
     subst h'
     exact (hn.1 (hmem j (by simpa using h))).elim
    | succ j'=>simp only [zh] at h h'; rw [nodup_of hn.2 j j' k h h']
theorem mv_ok' {base:Nat} (ks:List (Option Nat)) (hk:ksOk base ks=true) (hob:MvL om (kF ks) ks ks om') (hR:Rel E om) :
  ∃ E',E'.w=E.w∧ExtB base E om E' om'∧Rel E' om'∧CvOk E E' om (kF ks) ks:=by
 simp only [ksOk,Bool.and_eq_true,decide_eq_true_eq] at hk
 refine mv_ok (fun k j h1 h2=>?_) (nodup_of hk.1) hob.len (fun j hj=>?_) hob.get hR
 ·have:=zc h2
  simp [kF,this] at h1
 ·have:=List.all_eq_true.1 hk.2 j (by simp [hj])
  simpa using this
theorem Mv.of {base:Nat} {env env':List D} (ks:List (Option Nat)) (hk:ksOk base ks=true) (hob:MvL om (kF ks) ks ks om') (he:CvL om (kF ks) ks env env'):Mv base ⟨env,om⟩ ⟨env',om'⟩:=by
 intro lo E a hb hs
 obtain ⟨E',h1,h2,h3,ok⟩:=mv_ok' (base:=base) ks hk hob hs.rel
 refine ⟨E',h1,h2,h3,hs.defs.extB hs.rel h2,by rw [hs.size]; exact he.len.symm,fun t=>?_⟩
 show Rd E' (env'.getD t .any) _
 by_cases ht:t<env'.length
 ·have e':=zb ht
  have ht':t<env.length:=by rw [← he.len]; exact ht
  have e:=zb ht'
  have:=hs.rd t
  rw [za,e] at this
  rw [za,e']
  exact (he.get t _ _ e e').rd hs.rel ok this
 ·rw [za,List.getElem?_eq_none (by omega)]
  exact .any _
variable {P:Program} {T:Tab} {Q:AX→St→Prop} {s s':St} {base:Nat}
theorem Mv.refl:Mv base s s:=fun lo E a hb hs=>⟨E,rfl,(Ext.refl _ _).toB hb,hs⟩
theorem ALW.mv {l:LC} (h:Mv base s s') (k:ALW base P l Q s'):ALW base P l Q s:=by
 intro c hc r lo E a hr hb hs
 obtain ⟨E',h1,h2,h3⟩:=h lo E a hb hs
 have:=k c hc r lo E' a hr h2.n h3
 rw [h1] at this
 exact wpIn_mono this (Post.trans h2)
theorem AW.loopM {c:Code} (I:Nat→St→Prop) (h0:∃ n s0,I n s0∧Mv base s s0) (round:∀ n s,I n s→AW base P c (thenQ (fun s'=>∃ m s1,m<n∧I m s1∧Mv base s' s1) Q) s):AW base P (.loop c) Q s:=by
 intro r lo E a hr hb hs b k cs hro hbf hroom
 have key:∀ n E1 a1 s1,I n s1→Sat lo E1 s1 a1→ExtB base E s.om E1 s1.om →
   ∃ e a' w',Post lo base Q E s.om e a' w'∧ArrivesIn (Machine.fenced P (fence r)) P (lone (b.atR a1 (.code c :: .inLoop c :: k)) cs E1.w) b k cs e a' w':=by
  intro n
  induction n using Nat.strongRecOn with
  | _ n ih=>
   intro E1 a1 s1 hI hsat hext
   obtain ⟨e,a2,w2,⟨E2,x,s2,hq,hx,rfl,hext2,hsat2⟩,harr⟩:=round n s1 hI r lo E1 a1 hr hext.n hsat b (.inLoop c :: k) cs hro hbf hroom
   cases x <;> cases e <;> simp only [cx] at hx
   ·obtain ⟨m,s3,hm,hI2,hmv⟩:=hq
    obtain ⟨E3,q1,q2,q3⟩:=hmv lo E2 a2 hext2.n hsat2
    obtain ⟨e,a',w',h1,h2⟩:=ih m hm E3 a2 s3 hI2 q3 ((hext.trans hext2).trans q2)
    rw [q1] at h2
    exact ⟨e,a',w',h1,.of_steps (StepsIn.trans harr (.one (fenced_calm hbf hroom rfl) stepR_inLoop)) h2⟩
   ·subst hx
    exact ⟨.exit _,a2,E2.w,⟨E2,.exit _,s2,hq,rfl,rfl,hext.trans hext2,hsat2⟩,.pass (x:=.inLoop c) rfl (fun _ _=>.inl (by simp)) harr⟩
   ·exact ⟨.ret,a2,E2.w,⟨E2,.ret,s2,hq,trivial,rfl,hext.trans hext2,hsat2⟩,.pass (x:=.inLoop c) rfl (fun _ _=>.inl (by simp)) harr⟩
   ·exact ⟨.panic _,a2,E2.w,⟨E2,.panic _,s2,hq,hx,rfl,hext.trans hext2,hsat2⟩,.pass (x:=.inLoop c) rfl (fun _ _=>.inl (by simp)) harr⟩
 obtain ⟨n,s0,hI,hmv⟩:=h0
 obtain ⟨E0,q1,q2,q3⟩:=hmv lo E a hb hs
 obtain ⟨e,a',w',h1,h2⟩:=key n E0 a s0 hI q3 q2
 rw [q1] at h2
 exact ⟨e,a',w',h1,.of_steps (.one (fenced_calm hbf hroom rfl) stepR_loop) h2⟩
theorem xl_loopM (hT:TabOk P T) (hm:P.follows .mixedOrders=true) {a:LC} {ι:Type} (inv:ι→St) (pre:ι→Prop) (ms:ι→Nat) (i0:ι) (hpre:pre i0) (h0:Mv base s (inv i0))
  (round:∀ i,pre i→xl base P T a (thenQ (fun s'=>∃ i',pre i'∧ms i'<ms i∧Mv base s' (inv i')) Q) (inv i)):ALW base P (.loop a) Q s:=by
 intro c hc
 obtain ⟨x,rfl,hx⟩:=lc_inv.2.2.2.2.2.2.2.1 _ hc
 refine AW.loopM (fun n s=>∃ i,pre i∧ms i=n∧s=inv i) ⟨ms i0,_,⟨i0,hpre,rfl,rfl⟩,h0⟩ ?_
 rintro n _ ⟨i,hi,rfl,rfl⟩
 refine (xl_ok hT hm (round i hi) x hx).mono ?_
 intro z s' hq
 cases z
 ·obtain ⟨i',h1,h2,h3⟩:=hq
  exact ⟨ms i',inv i',h2,⟨i',h1,rfl,rfl⟩,h3⟩
 ·exact hq
 ·exact hq
 ·exact hq
theorem Fin.mv {om0:List Ob} {d d':D} {R:Out→List Ob→Prop} (ks:List (Option Nat)) (hk:ksOk om0.length ks=true) (hob:MvL om (kF ks) ks ks om') (hd:Cv om (kF ks) ks d d') (hr:R (.ret d') om'):Fin om0 om (.ret d) R:=by
 intro E0 E e hR0 hx hR ho
 obtain ⟨E',h1,h2,h3,ok⟩:=mv_ok' (base:=om0.length) ks hk hob hR
 refine ⟨E',.ret d',om',hr,h1,?_,h3,?_⟩
 ·have:=(hx.toB (base:=om0.length) (Nat.le_of_eq hR0.len)).trans h2
  rw [hR0.len] at this
  exact this.toExt
 ·cases e <;> simp only [OutR] at ho ⊢
  exact hd.rd hR ok ho
theorem Fin.nil {d d':D} {R:Out→List Ob→Prop} (hd:Cv om (fun _=>true) [] d d') (hr:R (.ret d') []):Fin [] om (.ret d) R:=by
 have:kF []=fun _=>true:=by funext k; simp [kF]
 exact Fin.mv (om':=[]) [] rfl trivial (by rw [this]; exact hd) hr
theorem Fin.pnil {d d':D} {R:Out→List Ob→Prop} (hd:Cv om (fun _=>true) [] d d') (hr:R (.panic d') []):Fin [] om (.panic d) R:=by
 have hk:kF []=fun _=>true:=by funext k; simp [kF]
 intro E0 E e hR0 hx hR ho
 obtain ⟨E',h1,h2,h3,ok⟩:=mv_ok' (base:=0) (om:=om) (om':=[]) [] rfl trivial hR
 refine ⟨E',.panic d',[],hr,h1,?_,h3,?_⟩
 ·have:=(hx.toB (base:=0) (ze _)).trans h2
  have hn:=hR0.len
  simp only [List.length_nil] at hn
  rw [hn] at this
  exact this.toExt
 ·cases e <;> simp only [OutR] at ho ⊢
  obtain ⟨y,h1,h2⟩:=ho
  exact ⟨y,h1,(hk ▸ hd).rd hR (hk ▸ ok) h2⟩
def AO (P:Program) (f:FuncId) (ds:List D) (o:Out):Prop:=AC P f ds [] fun o' om'=>o'=o∧om'=[]
abbrev AP (P:Program) (f:FuncId) (ds:List D) (d:D):Prop:=AO P f ds (.ret d)
inductive Plain:D→Prop where
 | v (x:Value):Plain (.v x)
 | any:Plain .any
 | agg {c:List D} (h:∀ d∈c,Plain d):Plain (.agg c)
 | tup {c:List D} (h:∀ d∈c,Plain d):Plain (.tup c)
theorem Plain.rd {d:D} (h:Plain d):∀ {y:Value},Rd E d y→Rd E' d y:=by
 induction h with
 | v x=>intro y h; rw [h.v_inv]; exact .v x
 | any=>intro y h; exact .any y
 | agg h ih=>
  intro y hd
  cases hd with
  | agg vs hs h1 hd=>exact .agg vs hs h1 fun j d hj=>ih d (zc hj) (hd j d hj)
 | tup h ih=>
  intro y hd
  cases hd with
  | tup vs hs hd=>exact .tup vs hs fun j d hj=>ih d (zc hj) (hd j d hj)
def Out.d:Out→D
 | .ret d=>d
 | .panic d=>d
def frzOb:Ob→Ob
 | .slc _ sz rows=>.frz sz rows
 | .var _ c=>.frv c
 | .lp .. => .dead
 | .mp .. => .dead
 | .it .. => .dead
 | .alt .. => .dead
 | o=>o
def frzL (F:Nat→Bool) (om:List Ob):List Ob:=om.mapIdx fun k o=>if F k then frzOb o else o
theorem rdA_of_cvL {as ds:List D} {vs:Array Value} (hR:Rel E om) (ok:CvOk E E' om F ks) (h:CvL om F ks as ds) (hv:RdA E as vs):RdA E' ds vs:=by
 refine ⟨by rw [hv.1,h.len],fun j d' hj=>?_⟩
 obtain ⟨d,hd⟩:=get_of_len h.len hj
 exact (h.get j d d' hd hj).rd hR ok (hv.2 j d hd)
theorem OutR.map {o:Out} {e:Ending} (h:OutR E o e) (hd:∀ y,Rd E o.d y→Rd E' o.d y):OutR E' o e:=by
 cases o <;> cases e <;> simp only [OutR] at h ⊢
 ·exact hd _ h
 ·obtain ⟨y,h1,h2⟩:=h; exact ⟨y,h1,hd _ h2⟩
theorem AO.callF {f:FuncId} {as ds:List D} {o:Out} {K:Out→List Ob→Prop} (F:Nat→Bool) (h:AO P f ds o) (hv:CvL om F [] as ds) (hbl:Bl 0 o.d) (hk:K o (frzL F om)):ACall P f as om K:=by
 refine ⟨fun o' om'=>o'=o∧om'=frzL F om,⟨h.1,fun E vs hR hA=>?_⟩,by rintro o' om' ⟨rfl,rfl⟩; exact hk⟩
 let E1:Env:=⟨0,E.g,fun b=>E.A b∨∃ k o,om[k]? = some o∧o.live=true∧F k=true∧hb (E.g k)=some b,E.w⟩
 have ok:CvOk E E1 om F []:=⟨fun b h=>.inl h,rfl,zf _,fun j k h=>by simp at h,fun j h=>by simp at h,fun k o b h1 h2 h3 h4=>.inr ⟨k,o,h1,h2,h3,h4⟩⟩
 have hold1:∀ b,E1.A b→b<E.w.heap.size:=by
  rintro b (hA | ⟨k,o,q1,q2,q3,q4⟩)
  ·exact hR.old b hA
  ·exact (hR.live_lt ⟨k,o,q1,q2,q4⟩).1
 have hR1:Rel E1 []:=⟨rfl,fun k o h=>by simp at h,fun k k' o o' b h=>by simp at h,hold1,fun k hk=>absurd hk (zk _),fun g c h=>Rd.bl (E:=E) (E2:=E1) (n:=0) (ze _) (fun _ h=>absurd h (zk _)) (ok.A) rfl (hR.gt g c h) (gtab_bl h)⟩
 refine (h.2 E1 vs hR1 (rdA_of_cvL hR ok hv hA)).mono ?_
 rintro e w' ⟨E2,o2,om2,⟨rfl,rfl⟩,rfl,hx,hR2,ho⟩
 let E3:Env:=⟨E.n,E.g,E2.A,E2.w⟩
 have noL:∀ b,¬ Live E1 [] b:=by rintro b ⟨k,o,h1,_⟩; simp at h1
 have getF:∀ (k:Nat) (o:Ob),(frzL F om)[k]? = some o→∃ o0,om[k]? = some o0∧o=if F k then frzOb o0 else o0:=by
  intro k o hk
  simp only [frzL,List.getElem?_mapIdx,Option.map_eq_some_iff] at hk
  obtain ⟨o0,h1,h2⟩:=hk
  exact ⟨o0,h1,h2.symm⟩
 have liveF:∀ (k:Nat) (o:Ob),(frzL F om)[k]? = some o→o.live=true→om[k]? = some o∧F k=false:=by
  intro k o hk hl
  obtain ⟨o0,h1,rfl⟩:=getF k o hk
  cases hFk:F k with
  | false=>simp [h1]
  | true=>
   rw [hFk] at hl
   cases o0 <;> simp [frzOb,Ob.live] at hl
 have hx3:Ext E om E3 (frzL F om):=by
  refine ⟨zf _,fun _ _=>rfl,fun b hA=>hx.A b (.inl hA),hx.size,hx.os,hx.tape,hx.output,fun b hb' hn=>hx.keep b hb' (noL b),?_,?_⟩
  ·rintro b ⟨k,o,h1,h2,h3⟩
   exact .inl ⟨k,o,(liveF k o h1 h2).1,h2,h3⟩
  ·intro b hA
   rcases hx.newA b hA with hA | hA | hA
   ·rcases hA with hA | ⟨k,o,q1,q2,q3,q4⟩
    ·exact .inl hA
    ·exact .inr (.inl ⟨k,o,q1,q2,q4⟩)
   ·exact (noL b hA).elim
   ·exact .inr (.inr hA)
 refine ⟨E3,_,_,⟨rfl,rfl⟩,rfl,hx3,?_,ho.map fun y hy=>Rd.bl (E:=E2) (n:=0) (E2:=E3) (ze _) (fun k hk=>by omega) (fun _ h=>h) rfl hy hbl⟩
 have keep:∀ (k:Nat) (o:Ob),om[k]? = some o→o.live=true→F k=false→∀ b,hb (E.g k)=some b→E2.w.heap[b]? = E.w.heap[b]?∧¬ E2.A b:=by
  intro k o h1 h2 h3 b h4
  have hl:=hR.live_lt ⟨k,o,h1,h2,h4⟩
  refine ⟨hx.keep b hl.1 (noL b),fun hA=>?_⟩
  rcases hx.newA b hA with hA | hA | hA
  ·rcases hA with hA | ⟨k',o',q1,q2,q3,q4⟩
   ·exact hl.2 hA
   ·obtain rfl:=hR.inj _ _ _ _ b q1 h1 q2 h2 q4 h4
    rw [q3] at h3
    cases h3
  ·exact noL b hA
  ·have h':E.w.heap.size≤b:=hA
   omega
 have kn:∀ {k:Nat} {o:Ob},om[k]? = some o→k<E.n:=fun h=>by rw [← hR.len]; exact (List.getElem?_eq_some_iff.1 h).1
 refine ⟨by simp [frzL,hR.len,E3],fun k o hk=>?_,fun k k' o o' b h1 h2 h3 h4 h5 h6=>hR.inj k k' o o' b (liveF k o h1 h3).1 (liveF k' o' h2 h4).1 h3 h4 h5 h6,fun b hA=>hR2.old b hA,hR.one,fun g c h=>(hR.gt g c h).ext hR hx3⟩
 obtain ⟨o0,h0,rfl⟩:=getF k o hk
 have hob:=hR.ob k o0 h0
 cases hFk:F k with
 | false=>
  rw [if_neg (by simp)]
  exact ObR.keep hR hx3 (kn h0) hob fun hl b hbk=>keep k o0 h0 hl hFk b hbk
 | true=>
  rw [if_pos rfl]
  have inA:∀ b,o0.live=true→hb (E.g k)=some b→E2.A b:=fun b hl hbk=>hx.A b (.inr ⟨k,o0,h0,hl,hFk,hbk⟩)
  have hsame:∀ b,b<E.w.heap.size→E2.w.heap[b]? = E.w.heap[b]?:=fun b hb'=>hx.keep b hb' (noL b)
  cases o0 with
  | var ty c=>
   obtain ⟨b,cs,q1,q2,q3,q4,q5⟩:=hob
   refine ⟨?_,b,q1⟩
   show Rd E3 (.pel c) (E.g k)
   rw [q1]
   refine Rd.pel_mk (inA b rfl (by rw [q1]; rfl)) fun j d hj=>?_
   obtain ⟨v,e1,e2,e3⟩:=q5 j d hj
   refine ⟨v,?_,e2,e3.ext hR hx3⟩
   have hbl:=(Array.getElem?_eq_some_iff.1 q2).1
   rw [add_mk,cell_of_heap (w:=E3.w) (show E2.w.heap[b]? = _ by rw [hsame b hbl]; exact q2),zl]
   exact e1
  | slc ty sz rows=>
   obtain ⟨p0,hs,⟨e1,e2⟩ | ⟨b,cs,cap,q1,q2,q3,q4,q5,q6,q7⟩⟩:=hob
   ·subst e2
    refine ⟨?_,.inl rfl⟩
    show Rd E3 (.sl sz []) (E.g k)
    rw [e1]
    exact Rd.sl (rows:=[]) ⟨0,0,none⟩ (fun _=>.nilFunc) (by simp) (zf _) (ze _) (.inl rfl) (by simp) (by simp)
   ·refine ⟨?_,.inr ⟨b,cap,q1⟩⟩
    show Rd E3 (.sl sz rows) (E.g k)
    rw [q1]
    refine Rd.sl_mk rfl hs q5 q6 (.inr ⟨⟨b,0,none⟩,rfl,inA b rfl (by rw [q1]; rfl),fun i r hi j d hj=>?_⟩)
    obtain ⟨v,e1,e2,e3⟩:=q7 _ d (flatten_get hs hi hj)
    refine ⟨v,?_,e2,e3.ext hR hx3⟩
    have hbl:=(Array.getElem?_eq_some_iff.1 q2).1
    rw [add_mk,add_mk,cell_of_heap (w:=E3.w) (show E2.w.heap[b]? = _ by rw [hsame b hbl]; exact q2),zl]
    exact e1
  | frz sz rows=>exact ObR.keep hR hx3 (kn h0) hob fun hl b hbk=>by simp [Ob.live,frzOb] at hl
  | frv c=>exact ObR.keep hR hx3 (kn h0) hob fun hl b hbk=>by simp [Ob.live,frzOb] at hl
  | lp ps as bo st pe env=>trivial
  | mp es=>trivial
  | it s pos=>trivial
  | alt ty cs=>trivial
  | dead=>trivial
theorem frzL_none (om:List Ob):frzL (fun _=>false) om=om:=by
 refine List.ext_getElem? fun i=>?_
 simp only [frzL,List.getElem?_mapIdx]
 cases om[i]? <;> rfl
theorem AO.call {f:FuncId} {as ds:List D} {o:Out} {K:Out→List Ob→Prop} (h:AO P f ds o) (hv:CvL om (fun _=>false) [] as ds) (hbl:Bl 0 o.d) (hk:K o om):ACall P f as om K:=
 h.callF (fun _=>false) hv hbl (by rw [frzL_none]; exact hk)
theorem AO.lend {f:FuncId} {as ds:List D} {o:Out} {K:Out→List Ob→Prop} (h:AO P f ds o) (hv:CvL om (fun _=>true) [] as ds) (hpl:Plain o.d) (hk:K o om):ACall P f as om K:=by
 refine ⟨fun o' om'=>o'=o∧om'=om,⟨h.1,fun E vs hR hA=>?_⟩,by rintro o' om' ⟨rfl,rfl⟩; exact hk⟩
 let E1:Env:=⟨0,E.g,fun b=>E.A b∨Live E om b,E.w⟩
 have ok:CvOk E E1 om (fun _=>true) []:=⟨fun b h=>.inl h,rfl,zf _,fun j k h=>by simp at h,fun j h=>by simp at h,fun k o b h1 h2 h3 h4=>.inr ⟨k,o,h1,h2,h4⟩⟩
 have hR1:Rel E1 []:=⟨rfl,fun k o h=>by simp at h,fun k k' o o' b h=>by simp at h,fun b hA=>hA.elim (hR.old b) fun hl=>(hR.live_lt hl).1,fun k hk=>absurd hk (zk _),fun g c h=>Rd.bl (E:=E) (E2:=E1) (n:=0) (ze _) (fun _ h=>absurd h (zk _)) (ok.A) rfl (hR.gt g c h) (gtab_bl h)⟩
 refine (h.2 E1 vs hR1 (rdA_of_cvL hR ok hv hA)).mono ?_
 rintro e w' ⟨E2,o2,om2,⟨rfl,rfl⟩,rfl,hx,hR2,ho⟩
 let E3:Env:=⟨E.n,E.g,fun b=>E2.A b∧¬ Live E om b,E2.w⟩
 have noL:∀ b,¬ Live E1 [] b:=by rintro b ⟨k,o,h1,_⟩; simp at h1
 have hx3:Ext E om E3 om:=by
  refine ⟨zf _,fun _ _=>rfl,fun b hA=>⟨hx.A b (.inl hA),hR.notlive hA⟩,hx.size,hx.os,hx.tape,hx.output,fun b hb' hn=>hx.keep b hb' (noL b),fun b hl=>.inl hl,?_⟩
  rintro b ⟨hA,hnl⟩
  rcases hx.newA b hA with hA | hA | hA
  ·rcases hA with hA | hA
   ·exact .inl hA
   ·exact (hnl hA).elim
  ·exact (noL b hA).elim
  ·exact .inr (.inr hA)
 refine ⟨E3,_,_,⟨rfl,rfl⟩,rfl,hx3,⟨hR.len,fun k o hk=>?_,hR.inj,fun b hA=>hR2.old b hA.1,hR.one,fun g c h=>(hR.gt g c h).ext hR hx3⟩,ho.map fun y hy=>hpl.rd hy⟩
 refine ObR.keep hR hx3 (by rw [← hR.len]; exact (List.getElem?_eq_some_iff.1 hk).1) (hR.ob k o hk) fun hl b hbk=>?_
 have hlv:Live E om b:=⟨k,o,hk,hl,hbk⟩
 exact ⟨hx.keep b (hR.live_lt hlv).1 (noL b),fun hA=>hA.2 hlv⟩
def setPs:List D→List Tmp→List D→List D
 | env,p :: ps,d :: ds=>setPs (env.set p d) ps ds
 | env,_,_=>env
def roundP (k:Nat) (om0:List Ob) (R:Out→List Ob→Prop) (v:Bool) (st:LoopState) (pe:Option Code) (om:List Ob):Prop:=
 match om[k]? with
 | some (.lp ps ca cb _ _ env)=>Fin om0 (om.set k (.lp ps ca cb st pe env)) (.ret (.b v)) R
 | _=>False
def roundQ (k:Nat) (om0:List Ob) (R:Out→List Ob→Prop):AX→St→Prop
 | .norm,s=>roundP k om0 R true .ready none s.om
 | .ret,s=>roundP k om0 R false .done (some .ret) s.om
 | .exit i,s=>roundP k om0 R false .done (some (.exit i)) s.om
 | .panic _,_=>False
def assignP (k:Nat) (K:St→Prop) (s:St):Prop:=
 match s.om[k]? with
 | some (.lp ps ca cb .ready pe env)=>K ⟨s.env,s.om.set k (.lp ps ca cb .busy pe env)⟩
 | _=>False
def assignQ (k:Nat) (K:St→Prop):AX→St→Prop
 | .norm,s=>assignP k K s
 | _,_=>False
theorem setPs_rd {E:Env}:∀ (ps:List Tmp) (ds:List D) (vs:List Value) (env:List D) (tmps:Array Value),ds.length=vs.length→(∀ (j:Nat) (d:D),ds[j]? = some d→Rd E d (vs.getD j undef)) →
  tmps.size=env.length→(∀ t,Rd E (env.getD t .any) (tmps.getD t undef)) →
  ((ps.zip vs).foldl (fun t (p,v)=>t.setIfInBounds p v) tmps).size=(setPs env ps ds).length∧∀ t,Rd E ((setPs env ps ds).getD t .any) (((ps.zip vs).foldl (fun t (p,v)=>t.setIfInBounds p v) tmps).getD t undef)
 | [],ds,vs,env,tmps,_,_,h1,h2=>by simp only [List.zip_nil_left,List.foldl_nil,setPs]; exact ⟨h1,h2⟩
 | p :: ps,[],vs,env,tmps,hl,_,h1,h2=>by
  obtain rfl:vs=[]:=zd (by simpa using hl.symm)
  simp only [List.zip_nil_right,List.foldl_nil,setPs]
  exact ⟨h1,h2⟩
 | p :: ps,d :: ds,[],env,tmps,hl,_,h1,h2=>by simp at hl
 | p :: ps,d :: ds,v :: vs,env,tmps,hl,hd,h1,h2=>by
  simp only [List.zip_cons_cons,List.foldl_cons,setPs]
  refine setPs_rd ps ds vs (env.set p d) (tmps.setIfInBounds p v) (by simpa using hl) (fun j d' hj=>by simpa using hd (j+1) d' (by simpa using hj)) (by simp [h1]) fun t=>?_
  by_cases ht:t=p
  ·subst ht
   by_cases hlt:t<env.length
   ·have hlt':t<tmps.size:=by omega
    have:=hd 0 d rfl
    simpa [za,zi,List.getElem?_set,Array.getElem?_setIfInBounds,hlt,hlt'] using this
   ·have:(env.set t d).getD t .any=.any:=by simp [za,hlt]
    rw [this]
    exact .any _
  ·have e1:(env.set p d).getD t .any=env.getD t .any:=by simp [za,List.getElem?_set,Ne.symm ht]
   have e2:(tmps.setIfInBounds p v).getD t undef=tmps.getD t undef:=by simp [zi,Array.getElem?_setIfInBounds,Ne.symm ht]
   rw [e1,e2]
   exact h2 t
theorem AY.walk (hT:TabOk P T) (hm:P.follows .mixedOrders=true) {k:Nat} {ps:Array Tmp} {as bo:LC} {ca cb:Code} {env ds:List D} {R:Out→List Ob→Prop} (ha:lc ca=as.st) (hbo:lc cb=bo.st) (hk:om[k]? = some (.lp ps ca cb .ready none env))
  (hn:(as.nr && bo.nr)=true) (hps:ps.size=ds.length)
  (h:xl om.length P T as (assignQ k (xl om.length P T bo (roundQ k om R))) ⟨setPs env ps.toList ds,om⟩):AY P k ds om R:=by
 rw [Bool.and_eq_true] at hn
 intro E vs b hR hA hg
 have hkl:k<om.length:=(List.getElem?_eq_some_iff.1 hk).1
 have hkn:k<E.n:=by rw [← hR.len]; exact hkl
 obtain ⟨r,q1,q2,q3,q4,q5,q6,q7,q8,q9,q10⟩:=hR.lp hk hg
 have hvs:vs.size=r.params.size:=by rw [q4,hA.1,hps]
 refine ⟨r.fn,_,r.assign,r.body,run_yield q2 hvs,?_⟩
 rw [q5,q6,q4]
 obtain ⟨z1,z2⟩:=setPs_rd (E:=E) ps.toList ds vs.toList env r.tmps (by simp [hA.1]) (fun j d hj=>by
  have:=hA.2 j d hj
  simpa [zi,za] using this) q9 q10
 have hzip:(ps.zip vs).foldl (fun tmps (t,a)=>tmps.setIfInBounds t a) r.tmps=(ps.toList.zip vs.toList).foldl (fun t (p,v)=>t.setIfInBounds p v) r.tmps:=by
  rw [← Array.foldl_toList,Array.toList_zip]
 refine roundIn_of_wpIn (F:=Fence.wide) trivial ?_
 rw [hzip]
 have hs:Sat ⟨0,[],false⟩ E ⟨setPs env ps.toList ds,om⟩ { tmps:=(ps.toList.zip vs.toList).foldl (fun t (p,v)=>t.setIfInBounds p v) r.tmps,defers:=[] }:=⟨hR,Marks.nil (ze _),z1,z2⟩
 refine wpIn_mono (xl_ok hT hm h ca ha (some b) ⟨0,[],false⟩ E _ ⟨.inr (nr_of ha hn.1),fun h=>by cases h⟩ (Nat.le_of_eq hR.len) hs) ?_
 rintro e a1 w1 ⟨E1,x,s1,hq,hx,rfl,hext,hsat⟩
 cases x <;> simp only [assignQ] at hq
 cases e <;> simp only [cx] at hx
 unfold assignP at hq
 split at hq
 case h_2=>exact hq.elim
 rename_i ps1 ca1 cb1 pe1 env1 ho1
 have hg1:hb (E1.g k)=some b:=by rw [hext.g k hkl]; exact hg
 obtain ⟨r1,p1,p2,p3,p4,p5,p6,p7,p8,p9,p10⟩:=hsat.rel.lp ho1 hg1
 obtain ⟨hx1,hR1⟩:=put_ok hsat.rel ho1 hg1 (.loop { r1 with state:=.busy }) (.lp ps1 ca1 cb1 .busy pe1 env1) (fun hx=>⟨b,_,p1,World.putObj_heap_same (Array.getElem?_eq_some_iff.1 p2).1,p3,p4,p5,p6,rfl,p8,p9,fun t=>(p10 t).ext hsat.rel hx⟩)
 refine ⟨_,run_beginRound p2 p7,?_⟩
 have hsat1:Sat ⟨0,[],false⟩ { E1 with w:=E1.w.putObj b (.loop { r1 with state:=.busy }) } ⟨s1.env,s1.om.set k (.lp ps1 ca1 cb1 .busy pe1 env1)⟩ a1:=⟨hR1,hsat.defs.ext hsat.rel hx1,hsat.size,fun t=>(hsat.rd t).ext hsat.rel hx1⟩
 refine wpIn_mono (xl_ok hT hm hq cb hbo (some b) ⟨0,[],false⟩ { E1 with w:=E1.w.putObj b (.loop { r1 with state:=.busy }) } a1 ⟨.inr (nr_of hbo hn.2),fun h=>by cases h⟩ hext.n hsat1) ?_
 rintro e a2 w2 ⟨E2,x,s2,hq2,hx2,rfl,hext2,hsat2⟩
 have hext':ExtB om.length E om E2 s2.om:=(hext.trans (hx1.toB hext.n)).trans hext2
 have hg2:hb (E2.g k)=some b:=by rw [hext'.g k hkl]; exact hg
 have fin:∀ (v:Bool) (jump:Option Code),roundP k om R v (if jump.isNone then .ready else .done) jump s2.om→v=jump.isNone →
   ∃ v' w',(Instr.endRound b jump).run P E2.w=.ok v' w'∧∃ E' o om',R o om'∧E'.w=w'∧Ext E om E' om'∧Rel E' om'∧OutR E' o (.returned v'):=by
  intro v jump hq hv
  unfold roundP at hq
  split at hq
  case h_2=>exact hq.elim
  rename_i ps2 ca2 cb2 st2 pe2 env2 ho2
  obtain ⟨r2,p1,p2,p3,p4,p5,p6,p7,p8,p9,p10⟩:=hsat2.rel.lp ho2 hg2
  obtain ⟨hx3,hR3⟩:=put_ok hsat2.rel ho2 hg2 (.loop { r2 with state:=if jump.isNone then .ready else .done,pending:=jump }) (.lp ps2 ca2 cb2 (if jump.isNone then .ready else .done) jump env2)
   (fun hx=>⟨b,_,p1,World.putObj_heap_same (Array.getElem?_eq_some_iff.1 p2).1,p3,p4,p5,p6,rfl,rfl,p9,fun t=>(p10 t).ext hsat2.rel hx⟩)
  have hfull:ExtB om.length E om { E2 with w:=E2.w.putObj b (.loop { r2 with state:=if jump.isNone then .ready else .done,pending:=jump }) } (s2.om.set k (.lp ps2 ca2 cb2 (if jump.isNone then .ready else .done) jump env2)):=
   hext'.trans (hx3.toB hext'.n)
  obtain ⟨E3,o',om',f1,f2,f3,f4,f5⟩:=hq E _ (.returned (.bool v)) hR (ExtB.toExt (hR.len ▸ hfull)) hR3 (.v _)
  exact ⟨_,_,run_endRound jump p2,E3,o',om',f1,f2,f3,f4,by rw [← hv]; exact f5⟩
 cases x <;> cases e <;> simp only [cx] at hx2 <;> simp only [roundQ] at hq2
 ·exact fin true none hq2 rfl
 ·subst hx2
  exact fin false (some (.exit _)) hq2 rfl
 ·exact fin false (some .ret) hq2 rfl
end
end Go.Proofs.YtbmedfjmccnclaaGreat.AWP
namespace Go.Proofs.YtbmedfjmccnclaaGreat.AWP
open Go
open _root_.List renaming replicate → za
inductive Tag {α:Type} (K:α):Type where
 | mk
def hide {α:Type} (K:α) (t:Tag K):α:=K
theorem hide_at {α β:Type} {K:α→β} {t:Tag K} {x:α}:hide K t x=K x:=_root_.id rfl
def condP (d:D) (A B:Unit→Prop):Prop:=
 match d with
 | .v (.bool t)=>if t then A () else B ()
 | _=>False
theorem condP_t {A B:Unit→Prop}:condP (.v (.bool true)) A B=A ():=by simp [condP]
theorem condP_f {A B:Unit→Prop}:condP (.v (.bool false)) A B=B ():=by simp [condP]
def pickP (d x y:D) (K:D→Prop):Prop:=
 match d with
 | .v (.bool t)=>K (if t then x else y)
 | _=>False
theorem pickP_t {x y:D} {K:D→Prop}:pickP (.v (.bool true)) x y K=K x:=by simp [pickP]
theorem pickP_f {x y:D} {K:D→Prop}:pickP (.v (.bool false)) x y K=K y:=by simp [pickP]
def guardP (d:D) (want:Bool) (A B:Unit→Prop):Prop:=
 match gB d want with
 | some true=>A ()
 | some false=>B ()
 | none=>False
theorem guardP_tt {A B:Unit→Prop}:guardP (.v (.bool true)) true A B=A ():=by simp [guardP,gB]
theorem guardP_tf {A B:Unit→Prop}:guardP (.v (.bool true)) false A B=B ():=by simp [guardP,gB]
theorem guardP_ft {A B:Unit→Prop}:guardP (.v (.bool false)) true A B=B ():=by simp [guardP,gB]
theorem guardP_ff {A B:Unit→Prop}:guardP (.v (.bool false)) false A B=A ():=by simp [guardP,gB]
theorem guardP_u {want:Bool} {A B:Unit→Prop}:guardP (.v undef) want A B=B ():=by simp [guardP,gB,undef]
def fnP (d:D) (K:FuncId→List D→Prop):Prop:=
 match d with
 | .fn g cap=>K g cap
 | _=>False
theorem fnP_fn {g:FuncId} {cap:List D} {K:FuncId→List D→Prop}:fnP (.fn g cap) K=K g cap:=_root_.id rfl
def fnY (d:D) (K:FuncId→List D→Prop) (KY:Nat→Prop):Prop:=
 match d with
 | .fn g cap=>K g cap
 | .yld k=>KY k
 | _=>False
theorem fnY_fn {g:FuncId} {cap:List D} {K:FuncId→List D→Prop} {KY:Nat→Prop}:fnY (.fn g cap) K KY=K g cap:=_root_.id rfl
theorem fnY_yld {k:Nat} {K:FuncId→List D→Prop} {KY:Nat→Prop}:fnY (.yld k) K KY=KY k:=_root_.id rfl
def lpP (o:Option Ob) (K:LoopState→Option Code→Prop):Prop:=
 match o with
 | some (.lp _ _ _ st pe _)=>K st pe
 | _=>False
theorem lpP_lp {ps:Array Tmp} {as bo:Code} {st:LoopState} {pe:Option Code} {env:List D} {K:LoopState→Option Code→Prop}:lpP (some (.lp ps as bo st pe env)) K=K st pe:=_root_.id rfl
def appendP (T:Tab) (om:List Ob) (t t':Nat) (b x:D) (K:List Ob→D→Prop):Prop:=
 match T t with
 | some ⟨.slice e,_,_,_⟩=>
  match T e with
  | some ei=>
   match strArg T t' x with
   | some m=>
    ei.size=1∧ei.bytes=1 ∧
    match b with
    | .v (.slice none 0 0)=>m.size≤140737488355328∧K (om++[.slc e ei.size (strRows m)]) (.own om.length)
    | .own k=>
     match om[k]? with
     | some (.slc e' sz rows)=>e'=e∧sz=ei.size∧rows.length+m.size≤140737488355328∧K (om.set k .dead++[.slc e' sz (rows++strRows m)]) (.own om.length)
     | _=>False
    | _=>False
   | none=>
   t'=t∧0<ei.size∧0<ei.bytes ∧
   match b with
   | .v (.slice none 0 0)=>
    opt (srcRows om ei.size x) (hide (fun rows'=>(rows'.length) * ei.bytes≤140737488355328∧K (om++[.slc e ei.size rows']) (.own om.length)) .mk)
   | .own k=>
    match om[k]? with
    | some (.slc e' sz rows)=>e'=e∧sz=ei.size ∧
     opt (srcRows om sz x) (hide (fun rows'=>(rows.length+rows'.length) * ei.bytes≤140737488355328∧K (om.set k .dead++[.slc e' sz (rows++rows')]) (.own om.length)) .mk)
    | _=>False
   | _=>False
  | none=>False
 | _=>False
def copyP (T:Tab) (om:List Ob) (t:Nat) (b x:D) (K:List Ob→D→Prop):Prop:=
 match T t with
 | some ⟨.slice e,_,_,_⟩=>
  match T e with
  | some ei=>
   ei.size=1 ∧
   match b with
   | .own k=>
    match om[k]? with
    | some (.slc e' 1 rows)=>opt (srcRows om 1 x) (hide (fun rows'=>K (om.set k (.slc e' 1 (rows'.take rows.length++rows.drop rows'.length))) (.i (min rows'.length rows.length:Nat))) .mk)
    | _=>False
   | _=>False
  | none=>False
 | _=>False
def tupP (d:D) (i:Nat) (K:D→Prop):Prop:=
 match d with
 | .tup c=>opt (c[i]?) K
 | _=>False
def nilP (d:D) (K:D→Prop):Prop:=
 match d with
 | .pel r=>K (.pel r)
 | .ref k o=>K (.ref k o)
 | .rel k z i j=>K (.rel k z i j)
 | _=>False
def mkslP (T:Tab) (ow:Bool) (om:List Ob) (t:Nat) (l c:D) (K:List Ob→D→Prop):Prop:=
 match T t,l,c with
 | some ⟨.slice e,_,_,_⟩,.v (.int _ n),.v (.int _ m)=>
  match T e with
  | some ei=>0<ei.size∧0≤n∧n≤m∧ei.bytes * m≤281474976710656∧m≤281474976710656∧(if ow then K (om++[.slc e ei.size (za n.toNat (zeroD ei))]) (.own om.length) else K om (.sl ei.size (za n.toNat (zeroD ei))))
  | none=>False
 | _,_,_=>False
def panP (d:D) (K:D→Prop):Prop:=
 match d with
 | .ifc t d=>K (.ifc t d)
 | _=>False
def outP (o:Out) (om:List Ob) (K:D→List Ob→Prop) (KP:D→List Ob→Prop):Prop:=
 match o with
 | .ret d=>K d om
 | .panic d=>KP d om
theorem outP_ret {d:D} {om:List Ob} {K KP:D→List Ob→Prop}:outP (.ret d) om K KP=K d om:=_root_.id rfl
theorem outP_pan {d:D} {om:List Ob} {K KP:D→List Ob→Prop}:outP (.panic d) om K KP=KP d om:=_root_.id rfl
theorem opt_s {α:Type} {a:α} {K:α→Prop}:opt (some a) K=K a:=_root_.id rfl
theorem opt_n {α:Type} {K:α→Prop}:opt none K=False:=_root_.id rfl
theorem thenQ_n {N:St→Prop} {Q:AX→St→Prop} {s:St}:thenQ N Q .norm s=N s:=_root_.id rfl
theorem thenQ_r {N:St→Prop} {Q:AX→St→Prop} {s:St}:thenQ N Q .ret s=Q .ret s:=_root_.id rfl
theorem thenQ_e {N:St→Prop} {Q:AX→St→Prop} {s:St} {i:Nat}:thenQ N Q (.exit i) s=Q (.exit i) s:=_root_.id rfl
theorem thenQ_p {N:St→Prop} {Q:AX→St→Prop} {s:St} {d:D}:thenQ N Q (.panic d) s=Q (.panic d) s:=_root_.id rfl
theorem blockQ_n {id:Nat} {Q:AX→St→Prop} {s:St}:blockQ id Q .norm s=Q .norm s:=_root_.id rfl
theorem blockQ_r {id:Nat} {Q:AX→St→Prop} {s:St}:blockQ id Q .ret s=Q .ret s:=_root_.id rfl
theorem blockQ_e {id:Nat} {Q:AX→St→Prop} {s:St} {i:Nat}:blockQ id Q (.exit i) s=if i=id then Q .norm s else Q (.exit i) s:=_root_.id rfl
theorem blockQ_p {id:Nat} {Q:AX→St→Prop} {s:St} {d:D}:blockQ id Q (.panic d) s=Q (.panic d) s:=_root_.id rfl
theorem finQ_n {T:Tab} {rs:List ResultVar} {om0:List Ob} {R:Out→List Ob→Prop} {s:St}:finQ T rs om0 R .norm s=opt (resD T s rs) (hide (fun d=>Fin om0 s.om (.ret d) R) .mk):=_root_.id rfl
theorem finQ_r {T:Tab} {rs:List ResultVar} {om0:List Ob} {R:Out→List Ob→Prop} {s:St}:finQ T rs om0 R .ret s=opt (resD T s rs) (hide (fun d=>Fin om0 s.om (.ret d) R) .mk):=_root_.id rfl
theorem finQ_p {T:Tab} {rs:List ResultVar} {om0:List Ob} {R:Out→List Ob→Prop} {s:St} {d:D}:finQ T rs om0 R (.panic d) s=Fin om0 s.om (.panic d) R:=_root_.id rfl
theorem finQ_e {T:Tab} {rs:List ResultVar} {om0:List Ob} {R:Out→List Ob→Prop} {s:St} {i:Nat}:finQ T rs om0 R (.exit i) s=False:=_root_.id rfl
theorem tupP_t {c:List D} {i:Nat} {K:D→Prop}:tupP (.tup c) i K=opt (c[i]?) K:=_root_.id rfl
theorem nilP_pel {r:List D} {K:D→Prop}:nilP (.pel r) K=K (.pel r):=_root_.id rfl
theorem nilP_ref {k o:Nat} {K:D→Prop}:nilP (.ref k o) K=K (.ref k o):=_root_.id rfl
theorem nilP_rel {k a b c:Nat} {K:D→Prop}:nilP (.rel k a b c) K=K (.rel k a b c):=_root_.id rfl
theorem panP_i {t:Nat} {d:D} {K:D→Prop}:panP (.ifc t d) K=K (.ifc t d):=_root_.id rfl
def lpA (o:Option Ob) (K:Array Tmp→Code→Code→Option Code→List D→Prop):Prop:=
 match o with
 | some (.lp ps as bo .ready pe env)=>K ps as bo pe env
 | _=>False
theorem lpA_lp {ps:Array Tmp} {as bo:Code} {pe:Option Code} {env:List D} {K:Array Tmp→Code→Code→Option Code→List D→Prop}:lpA (some (.lp ps as bo .ready pe env)) K=K ps as bo pe env:=_root_.id rfl
def lpB (o:Option Ob) (K:Array Tmp→Code→Code→List D→Prop):Prop:=
 match o with
 | some (.lp ps as bo st pe env)=>K ps as bo env
 | _=>False
theorem lpB_lp {ps:Array Tmp} {as bo:Code} {st:LoopState} {pe:Option Code} {env:List D} {K:Array Tmp→Code→Code→List D→Prop}:lpB (some (.lp ps as bo st pe env)) K=K ps as bo env:=_root_.id rfl
theorem R_an {k:Nat} {K:St→Prop} {s:St}:assignQ k K .norm s=lpA (s.om[k]?) (hide (fun ps ca cb pe env=>K ⟨s.env,s.om.set k (.lp ps ca cb .busy pe env)⟩) .mk):=by
 show assignP k K s=_
 unfold assignP lpA hide
 cases s.om[k]? with
 | none=>rfl
 | some o=>cases o <;> first | rfl | (rename_i st _ _; cases st <;> rfl)
theorem R_lp {k:Nat} {om0:List Ob} {R:Out→List Ob→Prop} {v:Bool} {st:LoopState} {pe:Option Code} {om:List Ob}:roundP k om0 R v st pe om=lpB (om[k]?) (hide (fun ps ca cb env=>Fin om0 (om.set k (.lp ps ca cb st pe env)) (.ret (.b v)) R) .mk):=by
 unfold roundP lpB hide
 cases om[k]? with
 | none=>rfl
 | some o=>cases o <;> rfl
theorem R_rn {k:Nat} {om0:List Ob} {R:Out→List Ob→Prop} {s:St}:roundQ k om0 R .norm s=roundP k om0 R true .ready none s.om:=_root_.id rfl
theorem R_rr {k:Nat} {om0:List Ob} {R:Out→List Ob→Prop} {s:St}:roundQ k om0 R .ret s=roundP k om0 R false .done (some .ret) s.om:=_root_.id rfl
theorem R_re {k i:Nat} {om0:List Ob} {R:Out→List Ob→Prop} {s:St}:roundQ k om0 R (.exit i) s=roundP k om0 R false .done (some (.exit i)) s.om:=_root_.id rfl
theorem R_s0 {env:List D}:setPs env [] []=env:=_root_.id rfl
theorem R_s1 {env ds:List D} {p:Tmp} {ps:List Tmp} {d:D}:setPs env (p :: ps) (d :: ds)=setPs (env.set p d) ps ds:=by rw [setPs]
section
variable {P:Program} {T:Tab} {base:Nat} {Q:AX→St→Prop} {s:St} {reg os:List LOp} {own:List Nat} {i:Nat} {K:St→Prop} {KP:D→St→Prop} {dst:Option Tmp} {om:List Ob} {env:List D} {ρ:Operand→D} {KD:D→Prop} {KE:List D→Prop} {ow:Bool}
theorem W_skip:xl base P T .skip Q s=Q .norm s:=_root_.id rfl
theorem W_reg {r:List LOp} {m:Option Nat}:xl base P T (.reg r own m) Q s=regP P T r own m s (hide (Q .norm) .mk) (hide (fun d=>Q (.panic d)) .mk):=_root_.id rfl
theorem W_seq {a b:LC}:xl base P T (.seq a b) Q s=xl base P T a (hide (thenQ (xl base P T b Q) Q) .mk) s:=by rw [xl]; rfl
theorem W_cond {o:Operand} {a b:LC}:xl base P T (.cond o a b) Q s=condP (evD s.env o) (hide (fun _=>xl base P T a Q s) .mk) (hide (fun _=>xl base P T b Q s) .mk):=by rw [xl]; unfold condP hide; rfl
theorem W_block {id:Nat} {a:LC}:xl base P T (.block id a) Q s=xl base P T a (hide (blockQ id Q) .mk) s:=by rw [xl]; rfl
theorem W_exit {id:Nat}:xl base P T (.exit id) Q s=Q (.exit id) s:=_root_.id rfl
theorem W_label {id:Nat}:xl base P T (.label id) Q s=Q .norm s:=_root_.id rfl
theorem W_ret:xl base P T .ret Q s=Q .ret s:=_root_.id rfl
theorem W_loop {a:LC}:xl base P T (.loop a) Q s=ALW base P (.loop a) Q s:=by rw [xl]
theorem W_regN {r:List LOp}:regP P T r own none s K KP=aops P T r own 0 r s K KP:=_root_.id rfl
theorem W_regS {r:List LOp} {m:Nat}:regP P T r own (some m) s K KP=qops P T r s.om (r.take m) s.env (hide (fun env=>aops P T r own m (r.drop m) ⟨env,s.om⟩ K KP) .mk):=_root_.id rfl
theorem W_regt {r:List LOp} {m:Nat} {t:OT}:xl base P T (.regt r own m t) Q s=regtP P T r own m t s (hide (Q .norm) .mk) (hide (fun d=>Q (.panic d)) .mk):=_root_.id rfl
theorem W_regq {r:List LOp} {m:Nat} {t:OT}:xl base P T (.regq r own m t) Q s=regtP P T r own m t s (hide (Q .norm) .mk) (hide (fun d=>Q (.panic d)) .mk):=_root_.id rfl
theorem W_rega {r:List LOp} {m:Nat}:xl base P T (.rega r own m) Q s=regA P T r own m s (hide (Q .norm) .mk) (hide (fun d=>Q (.panic d)) .mk):=_root_.id rfl
theorem W_regA {r:List LOp} {m:Nat}:regA P T r own m s K KP=qopsA P T r s.om (r.take m) s.env (hide (fun env=>aops P T r own m (r.drop m) (adopt T (r.take m) env (r.take m) ⟨env,s.om⟩) K KP) .mk):=_root_.id rfl
theorem QA_nil {env:List D} {reg:List LOp} {om:List Ob} {K:List D→Prop}:qopsA P T reg om [] env K=K env:=_root_.id rfl
theorem QA_al {t d:Nat} {os:List LOp} {env:List D} {reg:List LOp} {om:List Ob} {K:List D→Prop}:qopsA P T reg om (⟨some d,.alloc t,none⟩ :: os) env K=((T t).isSome=true∧qopsA P T reg om os (putE env (some d) .any) K):=_root_.id rfl
theorem QA_st {t u:Nat} {x:Operand} {os:List LOp} {env:List D} {reg:List LOp} {om:List Ob} {K:List D→Prop}:qopsA P T reg om (⟨none,.store t (.tmp u) x,none⟩ :: os) env K=(u<env.length∧stFit T t (evD env x)∧qopsA P T reg om os env K):=_root_.id rfl
theorem CO_nil {env z:List D} {dst:Option Nat}:contA env dst z []=z:=_root_.id rfl
theorem CO_st {env z:List D} {dst:Option Nat} {t u:Nat} {x:Operand} {os:List LOp}:contA env dst z (⟨none,.store t (.tmp u) x,none⟩ :: os)=if dst=some u then (cellsOf (evD env x)).getD [] else contA env dst z os:=_root_.id rfl
theorem CO_cons {env z:List D} {dst d':Option Nat} {o:Op} {g:Option (Nat × Bool)} {os:List LOp} (h:∀ t a x,o≠.store t a x):contA env dst z (⟨d',o,g⟩ :: os)=contA env dst z os:=by
 have e:stOf ⟨d',o,g⟩=none:=by
  unfold stOf
  split
  ·rename_i h1 h2 h3
   exact absurd h1 (h _ _ _)
  ·rfl
 conv=>lhs; unfold contA
 rw [e]
theorem QA_cons {o:Op} {dst:Option Tmp} {os:List LOp} {env:List D} {reg:List LOp} {om:List Ob} {K:List D→Prop} (h:∀ t,o≠.alloc t) (h2:∀ t a x,o≠.store t a x):qopsA P T reg om (⟨dst,o,none⟩ :: os) env K=aopQ P T o (evD env) om (hide (fun d=>qopsA P T reg om os (putE env dst d) K) .mk):=by
 have e:alOf ⟨dst,o,none⟩=none:=by
  unfold alOf
  split
  ·rename_i t d h1 h2 h3
   exact absurd h1 (h t)
  ·rfl
 have e2:stOf ⟨dst,o,none⟩=none:=by
  unfold stOf
  split
  ·rename_i h1 _ _
   exact absurd h1 (h2 _ _ _)
  ·rfl
 simp only [qopsA,e,e2]
 rfl
theorem AD_nil {s:St} {full:List LOp} {env0:List D}:adopt T full env0 [] s=s:=_root_.id rfl
theorem AD_al {t d:Nat} {os:List LOp} {s:St} {zi:TI} {full:List LOp} {env0:List D} (h:T t=some zi):adopt T full env0 (⟨some d,.alloc t,none⟩ :: os) s=adopt T full env0 os ⟨putE s.env (some d) (.ref s.om.length 0),s.om++[.var t (contA env0 (some d) (zeroD zi) full)]⟩:=by
 simp only [adopt,alOf,h]
theorem AD_cons {o:Op} {dst:Option Tmp} {g:Option (Nat × Bool)} {os:List LOp} {s:St} {full:List LOp} {env0:List D} (h:∀ t,o≠.alloc t):adopt T full env0 (⟨dst,o,g⟩ :: os) s=adopt T full env0 os s:=by
 have e:alOf ⟨dst,o,g⟩=none:=by
  unfold alOf
  split
  ·rename_i t d h1 h2 h3
   exact absurd h1 (h t)
  ·rfl
 simp only [adopt,e]
theorem W_regtP {r:List LOp} {m:Nat} {t:OT}:regtP P T r own m t s K KP=qops P T r s.om (r.take m) s.env (hide (fun env=>treeP P T r own t ⟨env,s.om⟩ K KP) .mk):=_root_.id rfl
theorem W_tdone:treeP P T reg own .done s K KP=K s:=_root_.id rfl
theorem W_tboth {a b:OT}:treeP P T reg own (.both a b) s K KP=(treeP P T reg own a s K KP∧treeP P T reg own b s K KP):=_root_.id rfl
theorem W_top {i:Nat} {t:OT}:treeP P T reg own (.op i t) s K KP=opt (reg[i]?) (hide (fun o=>aop P T (own.contains i) o.op o.dst s (hide (fun s'=>treeP P T reg own t s' K KP) .mk) KP) .mk):=by
 simp only [treeP,hide]
 cases reg[i]? <;> rfl
theorem W_rfun {f:Operand} {ps:List Tmp} {a b:LC}:xl base P T (.rfun f ps a b) Q s = ∀ ca cb,lc ca=a.st→lc cb=b.st→rangeP P (evD s.env f) ps.toArray ca cb Q s:=by rw [xl]
theorem W_range {f:FuncId} {cap:List D} {ps:Array Tmp} {ca cb:Code}:rangeP P (.fn f cap) ps ca cb Q s =
  ACall P f (.yld s.om.length :: cap) (s.om++[.lp ps ca cb .ready none s.env]) (hide (fun o om'=>outP o om' (hide (fun _ om'=>endP Q s.env s.om.length om') .mk) (hide (fun d om'=>Q (.panic d) ⟨s.env,om'⟩) .mk)) .mk):=_root_.id rfl
theorem W_end {env:List D} {n:Nat}:endP Q env n om=lpP (om[n]?) (hide (fun st pe=>st≠.busy∧jumpP Q pe ⟨env,om.set n .dead⟩) .mk):=by
 unfold endP lpP hide
 cases om[n]? with
 | none=>rfl
 | some o=>cases o <;> rfl
theorem W_jn:jumpP Q none s=Q .norm s:=_root_.id rfl
theorem W_jr:jumpP Q (some .ret) s=Q .ret s:=_root_.id rfl
theorem W_je {i:Nat}:jumpP Q (some (.exit i)) s=Q (.exit i) s:=_root_.id rfl
theorem W_regp {r:List LOp} {pre:List Nat} {m:Nat}:xl base P T (.regp r own pre m) Q s=regD P T r own m s (hide (Q .norm) .mk) (hide (fun d s=>∀ env,Q (.panic d) ⟨env,s.om⟩) .mk):=_root_.id rfl
theorem W_regD {r:List LOp} {m:Nat}:regD P T r own m s K KP=qops P T r s.om (r.take m) s.env (hide (fun env=>aops P T r own m (r.drop m) ⟨env,s.om⟩ K KP) .mk):=_root_.id rfl
theorem W_nil:aops P T reg own i [] s K KP=K s:=_root_.id rfl
theorem W_cons {op:Op}:aops P T reg own i (⟨dst,op,none⟩ :: os) s K KP=aop P T (own.contains i) op dst s (hide (fun s'=>aops P T reg own (i+1) os s' K KP) .mk) KP:=_root_.id rfl
theorem W_consG {op:Op} {j:Nat} {want:Bool}:aops P T reg own i (⟨dst,op,some (j,want)⟩ :: os) s K KP=opt ((reg[j]?).bind (·.dst)) (hide (fun t=>guardP (s.env.getD t .any) want (hide (fun _=>aop P T (own.contains i) op dst s (hide (fun s'=>aops P T reg own (i+1) os s' K KP) .mk) KP) .mk) (hide (fun _=>aops P T reg own (i+1) os (s.put dst (.v undef)) K KP) .mk)) .mk):=by
 simp only [aops]
 cases (reg[j]?).bind (·.dst) with
 | none=>rfl
 | some t=>
  simp only [opt,hide,guardP]
  cases gB (s.env.getD t .any) want with
  | none=>rfl
  | some b=>cases b <;> rfl
theorem A_move {x:Operand}:aop P T ow (.move x) dst s K KP=K (s.put dst (evD s.env x)):=_root_.id rfl
theorem A_assign {x:Operand}:aop P T ow (.assign x) dst s K KP=K (s.put dst (evD s.env x)):=_root_.id rfl
theorem A_pick {c a b:Operand}:aop P T ow (.pick c a b) dst s K KP=pickP (evD s.env c) (evD s.env a) (evD s.env b) (hide (fun d=>K (s.put dst d)) .mk):=_root_.id rfl
theorem A_load {t:Nat} {x:Operand}:aop P T ow (.load t x) dst s K KP=opt (qLoad T s.om t (evD s.env x)) (hide (fun d=>K (s.put dst d)) .mk):=_root_.id rfl
theorem A_fieldAddr {t f:Nat} {x:Operand}:aop P T ow (.fieldAddr t x f) dst s K KP=opt (qFieldAddr T t (evD s.env x) f) (hide (fun d=>K (s.put dst d)) .mk):=_root_.id rfl
theorem A_indexAddr {t:Nat} {x y:Operand}:aop P T ow (.indexAddr t x y) dst s K KP=opt (qIndexAddr T s.om t (evD s.env x) (evD s.env y)) (hide (fun d=>K (s.put dst d)) .mk):=_root_.id rfl
theorem A_field {t f:Nat} {x:Operand}:aop P T ow (.field t x f) dst s K KP=opt (qField T t (evD s.env x) f) (hide (fun d=>K (s.put dst d)) .mk):=_root_.id rfl
theorem A_index {t:Nat} {x y:Operand}:aop P T ow (.index t x y) dst s K KP=opt (qIndex T t (evD s.env x) (evD s.env y)) (hide (fun d=>K (s.put dst d)) .mk):=_root_.id rfl
theorem A_slice {t:Nat} {x:Operand} {lo hi:Option Operand}:aop P T ow (.slice t x lo hi none) dst s K KP=opt (qSlice T s.om t (evD s.env x) (lo.map (evD s.env)) (hi.map (evD s.env))) (hide (fun d=>K (s.put dst d)) .mk):=_root_.id rfl
theorem A_binOp {op:BinOp} {t t':Nat} {x y:Operand}:aop P T ow (.binOp op t x y t') dst s K KP=opt (qBin T op t (evD s.env x) (evD s.env y)) (hide (fun d=>K (s.put dst d)) .mk):=_root_.id rfl
theorem A_unOp {op:UnOp} {t:Nat} {x:Operand}:aop P T ow (.unOp op t x) dst s K KP=opt (qUn op (evD s.env x)) (hide (fun d=>K (s.put dst d)) .mk):=_root_.id rfl
theorem A_convert {a b:Nat} {x:Operand}:aop P T ow (.convert a b x) dst s K KP=opt (qConvO T s.om a b (evD s.env x)) (hide (fun d=>K (s.put dst d)) .mk):=_root_.id rfl
theorem A_extract {j:Nat} {x:Operand}:aop P T ow (.extract x j) dst s K KP=tupP (evD s.env x) j (hide (fun d=>K (s.put dst d)) .mk):=_root_.id rfl
theorem A_nilCheck {x:Operand}:aop P T ow (.nilCheck x) dst s K KP=nilP (evD s.env x) (hide (fun d=>K (s.put dst d)) .mk):=_root_.id rfl
theorem A_makeFunc {f:FuncId} {cap:Array Operand}:aop P T ow (.makeFunc (.func f) #[] cap) dst s K KP=(K (s.put dst (.fn f (cap.toList.map (evD s.env))))):=_root_.id rfl
theorem A_makeFunc1 {f:FuncId} {x:Operand}:aop P T ow (.makeFunc (.func f) #[x] #[]) dst s K KP=(K (s.put dst (.bm f (evD s.env x)))):=_root_.id rfl
theorem A_makeInterface {t:Nat} {x:Operand}:aop P T ow (.makeInterface t x) dst s K KP=(P.concrete t=true∧K (s.put dst (.ifc t (evD s.env x)))):=_root_.id rfl
theorem A_build {t:Nat} {parts:Array (Nat × Operand)}:aop P T ow (.build t parts) dst s K KP=opt (qBuild T t (parts.toList.map fun p=>(p.1,evD s.env p.2))) (hide (fun d=>K (s.put dst d)) .mk):=_root_.id rfl
theorem A_buildSlice {t n:Nat} {parts:Array (Nat × Operand)}:aop P T ow (.buildSlice t n parts) dst s K KP=opt (qRows T t n (parts.toList.map fun p=>(p.1,evD s.env p.2))) (hide (fun r=>if ow then K (St.put ⟨s.env,s.om++[.slc r.1 r.2.1 r.2.2]⟩ dst (.own s.om.length)) else K (s.put dst (.sl r.2.1 r.2.2))) .mk):=_root_.id rfl
theorem A_makeSlice {t:Nat} {l c:Operand}:aop P T ow (.makeSlice t l c) dst s K KP=mkslP T ow s.om t (evD s.env l) (evD s.env c) (hide (fun om' d=>K (St.put ⟨s.env,om'⟩ dst d)) .mk):=_root_.id rfl
theorem A_box {t:Nat} {x:Operand}:aop P T ow (.box t x) dst s K KP=opt (cellsOf (evD s.env x)) (hide (fun c=>if ow then K (St.put ⟨s.env,s.om++[.var t c]⟩ dst (.ref s.om.length 0)) else K (s.put dst (.pel c))) .mk):=_root_.id rfl
theorem A_alloc {t:Nat}:aop P T ow (.alloc t) dst s K KP=opt (T t) (hide (fun i=>K (St.put ⟨s.env,s.om++[.var t (zeroD i)]⟩ dst (.ref s.om.length 0))) .mk):=_root_.id rfl
theorem A_makeMap {t:Nat}:aop P T ow (.makeMap t none) dst s K KP=opt (mapK (T t)) (hide (fun _=>K (St.put ⟨s.env,s.om++[.mp []]⟩ dst (.own s.om.length))) .mk):=_root_.id rfl
theorem A_range {t:Nat} {x:Operand}:aop P T ow (.range t x) dst s K KP=opt (qRange T t (evD s.env x)) (hide (fun b=>K (St.put ⟨s.env,s.om++[.it b 0]⟩ dst (.ref s.om.length 0))) .mk):=_root_.id rfl
theorem A_next {x:Operand}:aop P T ow (.next x true) dst s K KP=opt (qNext s.om (evD s.env x)) (hide (fun r=>K (St.put ⟨s.env,r.2⟩ dst r.1)) .mk):=_root_.id rfl
theorem A_lookup {t:Nat} {x y:Operand} {ok:Bool}:aop P T ow (.lookup t x y ok) dst s K KP=opt (qLookup T s.om t (evD s.env x) (evD s.env y) ok) (hide (fun d=>K (s.put dst d)) .mk):=_root_.id rfl
theorem A_mapUpdate {t:Nat} {m k v:Operand}:aop P T ow (.mapUpdate t m k v) dst s K KP=opt (qMapUp T s.om t (evD s.env m) (evD s.env k) (evD s.env v)) (hide (fun om'=>K (St.put ⟨s.env,om'⟩ dst .any)) .mk):=_root_.id rfl
theorem A_store {t:Nat} {a x:Operand}:aop P T ow (.store t a x) dst s K KP=opt (qStore T s.om t (evD s.env a) (evD s.env x)) (hide (fun om'=>K (St.put ⟨s.env,om'⟩ dst .any)) .mk):=_root_.id rfl
theorem A_call {f:Operand} {args:Array Operand} {tys:Array TypeId}:aop P T ow (.call ⟨.value f,args,tys⟩) dst s K KP =
  fnY (evD s.env f) (hide (fun g cap=>ACall P g (args.toList.map (evD s.env)++cap) s.om (hide (fun o om'=>outP o om' (hide (fun d om'=>K (St.put ⟨s.env,om'⟩ dst d)) .mk) (hide (fun d om'=>KP d ⟨s.env,om'⟩) .mk)) .mk)) .mk)
   (hide (fun k=>YCall P k (args.toList.map (evD s.env)) s.om (hide (fun o om'=>outP o om' (hide (fun d om'=>K (St.put ⟨s.env,om'⟩ dst d)) .mk) (hide (fun d om'=>KP d ⟨s.env,om'⟩) .mk)) .mk)) .mk):=_root_.id rfl
theorem A_len {x:Operand} {t:Nat}:aop P T ow (.call ⟨.builtin .len,#[x],#[t]⟩) dst s K KP=opt (qLen T s.om t (evD s.env x)) (hide (fun d=>K (s.put dst d)) .mk):=_root_.id rfl
theorem A_copy {b x:Operand} {t t':Nat}:aop P T ow (.call ⟨.builtin .copy,#[b,x],#[t,t']⟩) dst s K KP=copyP T s.om t (evD s.env b) (evD s.env x) (hide (fun om' d=>K (St.put ⟨s.env,om'⟩ dst d)) .mk):=_root_.id rfl
theorem A_max {x y:Operand} {tys:Array Nat}:aop P T ow (.call ⟨.builtin .max,#[x,y],tys⟩) dst s K KP=maxP true (evD s.env x) (evD s.env y) (hide (fun d=>K (s.put dst d)) .mk):=_root_.id rfl
theorem A_min {x y:Operand} {tys:Array Nat}:aop P T ow (.call ⟨.builtin .min,#[x,y],tys⟩) dst s K KP=maxP false (evD s.env x) (evD s.env y) (hide (fun d=>K (s.put dst d)) .mk):=_root_.id rfl
theorem maxP_up {k k':IntKind} {a b:Int} {K:D→Prop}:maxP true (.v (.int k a)) (.v (.int k' b)) K=K (.v (.int k (if b > a then b else a))):=_root_.id rfl
theorem maxP_dn {k k':IntKind} {a b:Int} {K:D→Prop}:maxP false (.v (.int k a)) (.v (.int k' b)) K=K (.v (.int k (if b<a then b else a))):=_root_.id rfl
theorem A_append {b x:Operand} {t t':Nat}:aop P T ow (.call ⟨.builtin .append,#[b,x],#[t,t']⟩) dst s K KP=appendP T s.om t t' (evD s.env b) (evD s.env x) (hide (fun om' d=>K (St.put ⟨s.env,om'⟩ dst d)) .mk):=_root_.id rfl
theorem A_panic {x:Operand}:aop P T ow (.panic x) dst s K KP=panP (evD s.env x) (hide (fun d=>KP d s) .mk):=_root_.id rfl
theorem Q_nil:qops P T reg om [] env KE=KE env:=_root_.id rfl
theorem Q_cons {op:Op}:qops P T reg om (⟨dst,op,none⟩ :: os) env KE=aopQ P T op (evD env) om (hide (fun d=>qops P T reg om os (putE env dst d) KE) .mk):=_root_.id rfl
theorem Q_consG {op:Op} {j:Nat} {want:Bool}:qops P T reg om (⟨dst,op,some (j,want)⟩ :: os) env KE=opt ((reg[j]?).bind (·.dst)) (hide (fun t=>guardP (env.getD t .any) want (hide (fun _=>aopQ P T op (evD env) om (hide (fun d=>qops P T reg om os (putE env dst d) KE) .mk)) .mk) (hide (fun _=>qops P T reg om os (putE env dst (.v undef)) KE) .mk)) .mk):=by
 simp only [qops]
 cases (reg[j]?).bind (·.dst) with
 | none=>rfl
 | some t=>
  simp only [opt,hide,guardP]
  cases gB (env.getD t .any) want with
  | none=>rfl
  | some b=>cases b <;> rfl
theorem Q_move {x:Operand}:aopQ P T (.move x) ρ om KD=KD (ρ x):=_root_.id rfl
theorem Q_assign {x:Operand}:aopQ P T (.assign x) ρ om KD=KD (ρ x):=_root_.id rfl
theorem Q_pick {c a b:Operand}:aopQ P T (.pick c a b) ρ om KD=pickP (ρ c) (ρ a) (ρ b) KD:=_root_.id rfl
theorem Q_load {t:Nat} {x:Operand}:aopQ P T (.load t x) ρ om KD=opt (qLoad T om t (ρ x)) KD:=_root_.id rfl
theorem Q_fieldAddr {t f:Nat} {x:Operand}:aopQ P T (.fieldAddr t x f) ρ om KD=opt (qFieldAddr T t (ρ x) f) KD:=_root_.id rfl
theorem Q_indexAddr {t:Nat} {x y:Operand}:aopQ P T (.indexAddr t x y) ρ om KD=opt (qIndexAddr T om t (ρ x) (ρ y)) KD:=_root_.id rfl
theorem Q_field {t f:Nat} {x:Operand}:aopQ P T (.field t x f) ρ om KD=opt (qField T t (ρ x) f) KD:=_root_.id rfl
theorem Q_index {t:Nat} {x y:Operand}:aopQ P T (.index t x y) ρ om KD=opt (qIndex T t (ρ x) (ρ y)) KD:=_root_.id rfl
theorem Q_slice {t:Nat} {x:Operand} {lo hi:Option Operand}:aopQ P T (.slice t x lo hi none) ρ om KD=opt (qSlice T om t (ρ x) (lo.map ρ) (hi.map ρ)) KD:=_root_.id rfl
theorem Q_binOp {op:BinOp} {t t':Nat} {x y:Operand}:aopQ P T (.binOp op t x y t') ρ om KD=opt (qBin T op t (ρ x) (ρ y)) KD:=_root_.id rfl
theorem Q_unOp {op:UnOp} {t:Nat} {x:Operand}:aopQ P T (.unOp op t x) ρ om KD=opt (qUn op (ρ x)) KD:=_root_.id rfl
theorem Q_convert {a b:Nat} {x:Operand}:aopQ P T (.convert a b x) ρ om KD=opt (qConvO T om a b (ρ x)) KD:=_root_.id rfl
theorem Q_extract {j:Nat} {x:Operand}:aopQ P T (.extract x j) ρ om KD=tupP (ρ x) j KD:=_root_.id rfl
theorem Q_nilCheck {x:Operand}:aopQ P T (.nilCheck x) ρ om KD=nilP (ρ x) KD:=_root_.id rfl
theorem Q_makeFunc {f:FuncId} {first cap:Array Operand}:aopQ P T (.makeFunc (.func f) first cap) ρ om KD=(first.size=0∧KD (.fn f (cap.toList.map ρ))):=by
 simp only [aopQ]
 by_cases h:first.size=0
 ·simp [h]
 ·simp [h]
theorem Q_makeInterface {t:Nat} {x:Operand}:aopQ P T (.makeInterface t x) ρ om KD=(P.concrete t=true∧KD (.ifc t (ρ x))):=_root_.id rfl
theorem Q_build {t:Nat} {parts:Array (Nat × Operand)}:aopQ P T (.build t parts) ρ om KD=opt (qBuild T t (parts.toList.map fun p=>(p.1,ρ p.2))) KD:=_root_.id rfl
def mkslQ (T:Tab) (t:Nat) (l c:D) (K:D→Prop):Prop:=
 match T t,l,c with
 | some ⟨.slice e,_,_,_⟩,.v (.int _ n),.v (.int _ m)=>
  match T e with
  | some ei=>0<ei.size∧0≤n∧n≤m∧ei.bytes * m≤281474976710656∧m≤281474976710656∧K (.sl ei.size (za n.toNat (zeroD ei)))
  | none=>False
 | _,_,_=>False
theorem Q_lookup {t:Nat} {x y:Operand} {ok:Bool}:aopQ P T (.lookup t x y ok) ρ om KD=opt (qLookup T om t (ρ x) (ρ y) ok) (hide KD .mk):=_root_.id rfl
theorem Q_makeSlice {t:Nat} {l c:Operand}:aopQ P T (.makeSlice t l c) ρ om KD=mkslQ T t (ρ l) (ρ c) (hide KD .mk):=_root_.id rfl
theorem Q_buildSlice {t n:Nat} {parts:Array (Nat × Operand)}:aopQ P T (.buildSlice t n parts) ρ om KD=opt (qRows T t n (parts.toList.map fun p=>(p.1,ρ p.2))) (hide (fun r=>KD (.sl r.2.1 r.2.2)) .mk):=_root_.id rfl
theorem Q_call {f:Operand} {args:Array Operand} {tys:Array TypeId}:aopQ P T (.call ⟨.value f,args,tys⟩) ρ om KD=fnP (ρ f) (hide (fun g cap=>QCall P g (args.toList.map ρ++cap) om KD) .mk):=_root_.id rfl
theorem Q_len {x:Operand} {t:Nat}:aopQ P T (.call ⟨.builtin .len,#[x],#[t]⟩) ρ om KD=opt (qLen T om t (ρ x)) KD:=_root_.id rfl
end
attribute [go_sem]   evD ofConst St.put putE List.length_cons List.length_nil Nat.reduceAdd Nat.reduceSub Nat.reduceMul za List.replicate_succ List.replicate_zero List.cons_append List.nil_append List.append_nil List.append_assoc List.set_cons_succ List.set_cons_zero List.set_nil List.getD_cons_succ List.getD_cons_zero List.getD_nil List.getElem?_cons_succ List.getElem?_cons_zero List.take_succ_cons List.take_zero List.take_nil List.drop_succ_cons List.drop_zero List.drop_nil List.map_cons List.map_nil List.length_append List.length_set Array.toList List.contains_cons List.contains_nil Nat.reduceBEq Bool.or_false Bool.false_or Bool.or_true Bool.true_or qBin ptrEq qUn qConv qConvO qLoad rdRow qFieldAddr shiftPtr qIndexAddr qField qIndex qLen qSlice qBuild fieldPlaces fillD splc qRows rowsPut zeroD cellsOf qStore obAt obPut obSet rs nat? srcRows sbin ibin   Option.map_some Option.map_none Option.bind_some Option.bind_none ite_true ite_false if_true if_false TK.agg Bool.false_eq_true reduceCtorEq Nat.reduceLT Nat.reduceLeDiff Nat.reduceDiv Nat.reduceMod Nat.reduceEqDiff Value.oneCell' LC.st decide_true decide_false Nat.zero_add Nat.add_zero Nat.sub_self true_and and_true false_and and_false not_true_eq_false not_false_eq_true gt_iff_lt Option.some.injEq List.size_toArray List.toList_toArray Array.size_empty Option.isSome_some
attribute [go_sem] hide_at condP_t condP_f pickP_t pickP_f guardP_tt guardP_tf guardP_ft guardP_ff guardP_u fnP_fn outP_ret outP_pan opt_s opt_n thenQ_n thenQ_r thenQ_e thenQ_p blockQ_n blockQ_r blockQ_e blockQ_p finQ_n finQ_r finQ_p finQ_e tupP_t nilP_pel nilP_ref nilP_rel panP_i W_skip W_reg W_seq W_cond W_block W_exit W_label W_ret W_loop lpA_lp lpB_lp R_an R_lp R_rn R_rr R_re R_s0 R_s1 W_regp W_regq W_rega W_regA QA_nil QA_al QA_st QA_cons CO_nil CO_st CO_cons Option.getD_some AD_nil AD_al AD_cons W_regD W_regt W_regtP W_tdone W_tboth W_top W_range W_end W_jn W_jr W_je lpP_lp fnY_fn fnY_yld W_regN W_regS W_nil W_cons W_consG A_move A_assign A_pick A_load A_fieldAddr A_indexAddr A_field A_index A_slice A_binOp A_unOp A_convert A_extract A_nilCheck A_makeFunc A_makeFunc1 A_makeInterface A_build A_buildSlice A_makeSlice A_box A_alloc A_store A_makeMap A_lookup A_mapUpdate A_range A_next A_call A_len A_append A_copy A_max A_min maxP_up maxP_dn A_panic Q_nil Q_cons Q_consG Q_move Q_assign Q_pick Q_load Q_fieldAddr Q_indexAddr Q_field Q_index Q_slice Q_binOp Q_unOp Q_convert Q_extract Q_nilCheck Q_makeFunc Q_makeInterface Q_build Q_buildSlice Q_makeSlice Q_lookup Q_call Q_len strArg appendP copyP mkslP mkslQ mapK qLookup qMapUp qRange qNext
end Go.Proofs.YtbmedfjmccnclaaGreat.AWP
namespace Go.Proofs.YtbmedfjmccnclaaGreat.AWP
open Go
open _root_.List renaming mem_of_getElem? → za, getElem?_of_mem → zb, length_cons → zc
inductive Wf:D→Prop where
 | v (x:Value):Wf (.v x)
 | any:Wf .any
 | nt:Wf .nt
 | sl {sz:Nat} {rows:List (List D)} (hl:rows.length≤9223372036854775807) (h:∀ r∈rows,∀ d∈r,Wf d):Wf (.sl sz rows)
 | pel {row:List D} (h:∀ d∈row,Wf d):Wf (.pel row)
 | agg {c:List D} (h:∀ d∈c,Wf d):Wf (.agg c)
 | tup {c:List D} (h:∀ d∈c,Wf d):Wf (.tup c)
 | ref {k off:Nat}:Wf (.ref k off)
 | rel {k sz i j:Nat}:Wf (.rel k sz i j)
 | own {k:Nat}:Wf (.own k)
 | fn {f:FuncId} {cap:List D} (h:∀ d∈cap,Wf d):Wf (.fn f cap)
 | ifc {t:TypeId} {d:D} (h:Wf d):Wf (.ifc t d)
 | yld {k:Nat}:Wf (.yld k)
 | bm {f:FuncId} {d:D} (h:Wf d):Wf (.bm f d)
theorem Rd.wf {E:Env} {d:D} {y:Value} (h:Rd E d y):Wf d:=by
 have mem:∀ {c:List D} {p:D→Prop},(∀ (j:Nat) (d:D),c[j]? = some d→p d)→∀ d∈c,p d:=fun h d hd=>by
  obtain ⟨j,hj⟩:=zb hd
  exact h j d hj
 induction h with
 | v x=>exact .v x
 | any y=>exact .any
 | nt n=>exact .nt
 | sl ad u hr hl hm ha hc hd ih=>
  refine .sl (by simp only [maxLen] at hm; omega) fun r hr' d hd'=>?_
  obtain ⟨i,hi⟩:=zb hr'
  obtain ⟨j,hj⟩:=zb hd'
  exact ih i r j d hi hj
 | pel ad u hA hc hd ih=>exact .pel (mem ih)
 | agg vs hs h1 hd ih=>exact .agg (mem ih)
 | tup vs hs hd ih=>exact .tup (mem ih)
 | ref hk hg=>exact .ref
 | rel hk hg=>exact .rel
 | own hk=>exact .own
 | fn vs hs hd ih=>exact .fn (mem ih)
 | ifc h ih=>exact .ifc ih
 | yld hk hg=>exact .yld
 | bm h ih=>exact .bm ih
theorem AC.wf {P:Program} {f:FuncId} {ds:List D} {om:List Ob} {R:Out→List Ob→Prop} (hc:callOk P f=true) (h:(∀ d∈ds,Wf d)→AC P f ds om R):AC P f ds om R:=by
 refine ⟨hc,fun E vs hR hA=>?_⟩
 refine (h fun d hd=>?_).2 E vs hR hA
 obtain ⟨j,hj⟩:=zb hd
 exact (hA.2 j d hj).wf
theorem Wf.sl_len {sz:Nat} {rows:List (List D)} (h:Wf (.sl sz rows)):rows.length≤9223372036854775807:=by cases h; assumption
theorem Wf.sl_mem {sz:Nat} {rows:List (List D)} (h:Wf (.sl sz rows)):∀ r∈rows,∀ d∈r,Wf d:=by cases h; assumption
theorem Wf.agg_mem {c:List D} (h:Wf (.agg c)):∀ d∈c,Wf d:=by cases h; assumption
theorem wrap_nat (n:Nat) (h:n≤9223372036854775807):IntKind.wrap .i64 (n:Int)=(n:Int):=by
 rw [IntKind.wrap_i64]; omega
theorem wrap_int (n:Int) (h : -9223372036854775808≤n) (h':n≤9223372036854775807):IntKind.wrap .i64 n=n:=by
 rw [IntKind.wrap_i64]; omega
theorem wrap_succ (n:Nat) (h:n<9223372036854775807):IntKind.wrap .i64 ((n:Int)+1)=((n+1:Nat):Int):=by
 have:=wrap_nat (n+1) (by omega)
 rw [← this]; rfl
theorem bne_true {a b:Int} (h:¬ a=b):(a != b)=true:=by simp [h]
@[simp] theorem Bl_v {n:Nat} {x:Value}:Bl n (.v x):=.v x
@[simp] theorem Bl_any {n:Nat}:Bl n .any:=.any
@[simp] theorem Bl_sl {n sz:Nat} {rows:List (List D)}:Bl n (.sl sz rows)↔∀ r∈rows,∀ d∈r,Bl n d:=⟨fun h=>by cases h; assumption,.sl⟩
@[simp] theorem Bl_pel {n:Nat} {row:List D}:Bl n (.pel row)↔∀ d∈row,Bl n d:=⟨fun h=>by cases h; assumption,.pel⟩
@[simp] theorem Bl_agg {n:Nat} {row:List D}:Bl n (.agg row)↔∀ d∈row,Bl n d:=⟨fun h=>by cases h; assumption,.agg⟩
@[simp] theorem Bl_tup {n:Nat} {row:List D}:Bl n (.tup row)↔∀ d∈row,Bl n d:=⟨fun h=>by cases h; assumption,.tup⟩
@[simp] theorem Bl_fn {n f:Nat} {row:List D}:Bl n (.fn f row)↔∀ d∈row,Bl n d:=⟨fun h=>by cases h; assumption,.fn⟩
@[simp] theorem Bl_ifc {n t:Nat} {d:D}:Bl n (.ifc t d)↔Bl n d:=⟨fun h=>by cases h; assumption,.ifc⟩
@[simp] theorem Bl_own {n k:Nat}:Bl n (.own k)↔k<n:=⟨fun h=>by cases h; assumption,.own⟩
@[simp] theorem Bl_ref {n k o:Nat}:Bl n (.ref k o)↔k<n:=⟨fun h=>by cases h; assumption,.ref⟩
@[simp] theorem Bl_rel {n k a b c:Nat}:Bl n (.rel k a b c)↔k<n:=⟨fun h=>by cases h; assumption,.rel⟩
@[simp] theorem Bl_yld {n k:Nat}:Bl n (.yld k)↔k<n:=⟨fun h=>by cases h; assumption,.yld⟩
@[simp] theorem Plain_v {x:Value}:Plain (.v x):=.v x
@[simp] theorem Plain_any:Plain .any:=.any
@[simp] theorem Plain_agg {c:List D}:Plain (.agg c)↔∀ d∈c,Plain d:=⟨fun h=>by cases h; assumption,.agg⟩
@[simp] theorem Plain_tup {c:List D}:Plain (.tup c)↔∀ d∈c,Plain d:=⟨fun h=>by cases h; assumption,.tup⟩
section
variable {om:List Ob} {F:Nat→Bool} {ks:List (Option Nat)}
theorem Cv.v {x:Value}:Cv om F ks (.v x) (.v x):=.same (.v x)
theorem Cv.eq {d d':D} (h:d=d') (hb:Bl 0 d):Cv om F ks d d':=h ▸ .same hb
theorem Cv.frzS {k ty sz:Nat} {rows:List (List D)} (h:om[k]? = some (.slc ty sz rows)) (hF:F k=true) (hb:∀ r∈rows,∀ d∈r,Bl 0 d):Cv om F ks (.own k) (.sl sz rows):=
 .frz h hF rfl (fun i r r' h1 h2=>by rw [h1] at h2; cases h2; rfl) (fun i r r' j d d' h1 h2 h3 h4=>by
  rw [h1] at h2; cases h2
  rw [h3] at h4; cases h4
  exact .same (hb r (za h1) d (za h3)))
theorem Cv.frvS {k ty off:Nat} {c:List D} (h:om[k]? = some (.var ty c)) (hF:F k=true) (ho:off≤c.length) (hb:∀ d∈c,Bl 0 d):Cv om F ks (.ref k off) (.pel (c.drop off)):=
 .frv h hF (by simp; omega) (fun j d d' h1 h2=>by
  rw [List.getElem?_drop] at h2
  rw [h1] at h2; cases h2
  exact .same (hb d (za h1)))
theorem Cv.frvS0 {k ty:Nat} {c:List D} (h:om[k]? = some (.var ty c)) (hF:F k=true) (hb:∀ d∈c,Bl 0 d):Cv om F ks (.ref k 0) (.pel c):=Cv.frvS (off:=0) h hF (Nat.zero_le _) hb
theorem Cv.aggL {c c':List D} (h:CvL om F ks c c'):Cv om F ks (.agg c) (.agg c'):=.agg h.len h.get
theorem Cv.tupL {c c':List D} (h:CvL om F ks c c'):Cv om F ks (.tup c) (.tup c'):=.tup h.len h.get
theorem Cv.fnL {f:Nat} {c c':List D} (h:CvL om F ks c c'):Cv om F ks (.fn f c) (.fn f c'):=.fn h.len h.get
theorem CvL.same:∀ {c:List D},(∀ d∈c,Bl 0 d)→CvL om F ks c c
 | [],_=>trivial
 | d :: c,h=>⟨.same (h d (by simp)),CvL.same fun x hx=>h x (by simp [hx])⟩
theorem MvO.slcS {k ty sz:Nat} {rows:List (List D)} (h:om[k]? = some (.slc ty sz rows)) (hb:∀ r∈rows,∀ d∈r,Bl 0 d):MvO om F ks (some k) (.slc ty sz rows):=
 .slc h rfl (fun i r r' h1 h2=>by rw [h1] at h2; cases h2; rfl) (fun i r r' j d d' h1 h2 h3 h4=>by
  rw [h1] at h2; cases h2
  rw [h3] at h4; cases h4
  exact .same (hb r (za h1) d (za h3)))
theorem MvO.varS {k ty:Nat} {c:List D} (h:om[k]? = some (.var ty c)) (hb:∀ d∈c,Bl 0 d):MvO om F ks (some k) (.var ty c):=
 .var h rfl (fun j d d' h1 h2=>by
  rw [h1] at h2; cases h2
  exact .same (hb d (za h1)))
theorem MvO.lpL {k:Nat} {ps:Array Tmp} {as bo:Code} {st:LoopState} {pe:Option Code} {c c':List D} (h:om[k]? = some (.lp ps as bo st pe c)) (hc:CvL om F ks c c'):MvO om F ks (some k) (.lp ps as bo st pe c'):=.lp h hc.len hc.get
theorem MvO.varL {k ty:Nat} {c c':List D} (h:om[k]? = some (.var ty c)) (hc:CvL om F ks c c'):MvO om F ks (some k) (.var ty c'):=.var h hc.len hc.get
theorem MvO.deadE {k:Nat} (h:k<om.length):MvO om F ks (some k) .dead:=.dead (List.getElem?_eq_getElem h)
attribute [simp] CvL MvL
@[simp] theorem Cv_any {d:D}:Cv om F ks d .any:=.any
@[simp] theorem Cv_vv {x y:Value}:Cv om F ks (.v x) (.v y)↔x=y:=⟨fun h=>by cases h; rfl,fun h=>h ▸ .v⟩
@[simp] theorem Cv_self {d:D} (h:Bl 0 d):Cv om F ks d d:=.same h
@[simp] theorem Cv_own {k j:Nat}:Cv om F ks (.own k) (.own j)↔ks[j]? = some (some k):=⟨fun h=>by cases h with | same h=>simp at h | own h=>exact h,.own⟩
@[simp] theorem Cv_ref {k j o p:Nat}:Cv om F ks (.ref k o) (.ref j p)↔ks[j]? = some (some k)∧o=p:=⟨fun h=>by cases h with | same h=>simp at h | ref h=>exact ⟨h,rfl⟩,fun ⟨h,e⟩=>e ▸ .ref h⟩
@[simp] theorem Cv_yld {k j:Nat}:Cv om F ks (.yld k) (.yld j)↔ks[j]? = some (some k):=⟨fun h=>by cases h with | same h=>cases h; omega | yld h=>exact h,.yld⟩
@[simp] theorem Cv_nilOwn {j:Nat}:Cv om F ks (.v (.slice none 0 0)) (.own j)↔ks[j]? = some none:=⟨fun h=>by cases h with | nilOwn h=>exact h,.nilOwn⟩
@[simp] theorem Cv_nil {sz:Nat}:Cv om F ks (.v (.slice none 0 0)) (.sl sz []):=.nil
@[simp] theorem Cv_frz {k sz:Nat} {rows:List (List D)} (h:∃ ty,om[k]? = some (.slc ty sz rows)) (hF:F k=true) (hb:∀ r∈rows,∀ d∈r,Bl 0 d):Cv om F ks (.own k) (.sl sz rows):=by
 obtain ⟨ty,h⟩:=h
 exact .frzS h hF hb
@[simp] theorem Cv_frv {k:Nat} {c:List D} (h:∃ ty,om[k]? = some (.var ty c)) (hF:F k=true) (hb:∀ d∈c,Bl 0 d):Cv om F ks (.ref k 0) (.pel c):=by
 obtain ⟨ty,h⟩:=h
 exact .frvS0 h hF hb
@[simp] theorem Cv_fn {f:Nat} {c c':List D} (h:CvL om F ks c c'):Cv om F ks (.fn f c) (.fn f c'):=.fnL h
@[simp] theorem Cv_agg {c c':List D} (h:CvL om F ks c c'):Cv om F ks (.agg c) (.agg c'):=.aggL h
@[simp] theorem MvO_nil {ty sz:Nat} (h:0<sz):MvO om F ks none (.slc ty sz []):=.nil h
@[simp] theorem MvO_slc {k ty sz:Nat} {rows:List (List D)} (h:om[k]? = some (.slc ty sz rows)) (hb:∀ r∈rows,∀ d∈r,Bl 0 d):MvO om F ks (some k) (.slc ty sz rows):=.slcS h hb
@[simp] theorem MvO_var {k ty:Nat} {c:List D} (h:om[k]? = some (.var ty c)) (hb:∀ d∈c,Bl 0 d):MvO om F ks (some k) (.var ty c):=.varS h hb
variable {P:Program} {T:Tab}
theorem AO.pv {f:FuncId} {as ds:List D} {x:Value} {K:Out→List Ob→Prop} (h:AO P f ds (.ret (.v x))) (hv:CvL om (fun _=>true) [] as ds) (hk:K (.ret (.v x)) om):ACall P f as om K:=h.lend hv (.v x) hk
theorem AO.pd {f:FuncId} {as ds:List D} {d:D} {K:Out→List Ob→Prop} (h:AO P f ds (.ret d)) (hv:CvL om (fun _=>false) [] as ds) (hb:Bl 0 d) (hk:K (.ret d) om):ACall P f as om K:=h.call hv hb hk
theorem ACall.ac {f:FuncId} {as:List D} {R:Out→List Ob→Prop} (h:ACall P f as om R):AC P f as om R:=by
 obtain ⟨R',h1,h2⟩:=h
 exact h1.mono h2
theorem AO.acv {f:FuncId} {as ds:List D} {x:Value} (h:AO P f ds (.ret (.v x))) (hv:CvL om (fun _=>true) [] as ds):AC P f as om (retP (.v x) om):=(h.pv hv ⟨rfl,rfl⟩).ac
theorem AO.acd {f:FuncId} {as ds:List D} {d:D} (h:AO P f ds (.ret d)) (hv:CvL om (fun _=>false) [] as ds) (hb:Bl 0 d):AC P f as om (retP d om):=(h.call hv hb ⟨rfl,rfl⟩).ac
theorem AO.qv {f:FuncId} {as ds:List D} {x:Value} {K:D→Prop} (h:AO P f ds (.ret (.v x))) (hv:CvL om (fun _=>true) [] as ds) (hk:K (.v x)):QCall P f as om K:=⟨_,h.acv hv,hk⟩
theorem AO.qd {f:FuncId} {as ds:List D} {d:D} {K:D→Prop} (h:AO P f ds (.ret d)) (hv:CvL om (fun _=>false) [] as ds) (hb:Bl 0 d) (hk:K d):QCall P f as om K:=⟨_,h.acd hv hb,hk⟩
theorem Fin.ret {d d':D} (hd:Cv om (fun _=>true) [] d d'):Fin [] om (.ret d) (fun o om'=>o=.ret d'∧om'=[]):=Fin.nil hd ⟨rfl,rfl⟩
theorem Fin.pan {d d':D} (hd:Cv om (fun _=>true) [] d d'):Fin [] om (.panic d) (fun o om'=>o=.panic d'∧om'=[]):=Fin.pnil hd ⟨rfl,rfl⟩
theorem Fin.eq {d d':D} (h:d=d') (hd:Bl 0 d):Fin [] om (.ret d) (fun o om'=>o=.ret d'∧om'=[]):=Fin.ret (.eq h hd)
theorem Fin.v {x x':Value} (h:x=x'):Fin [] om (.ret (.v x)) (fun o om'=>o=.ret (.v x')∧om'=[]):=Fin.ret (h ▸ .v)
theorem Mv.none {env env':List D} (he:CvL om (fun _=>true) [] env env'):Mv 0 ⟨env,om⟩ ⟨env',[]⟩:=by
 have hk:kF []=fun _=>true:=by funext k; simp [kF]
 exact Mv.of [] rfl trivial (hk ▸ he)
theorem Mv.same {base:Nat} {env env':List D} {om om':List Ob} (h:env=env') (h2:om=om'):Mv base ⟨env,om⟩ ⟨env',om'⟩:=by subst h; subst h2; exact Mv.refl
end
theorem obPut_var {ty:Nat}:∀ {r c:List D} {p:Nat},p+r.length≤c.length→obPut (.var ty c) p r=some (.var ty (splc c p r))
 | [],c,p,h=>by simp [obPut,splc]
 | d :: r,c,p,h=>by
  simp only [zc] at h
  have hp:p<c.length:=by omega
  rw [obPut,obSet,if_pos hp]
  show obPut (.var ty (c.set p d)) (p+1) r=_
  rw [obPut_var (by simp; omega)]
  congr 2
  refine List.ext_getElem? fun k=>?_
  rw [splc_get _ _ _ (by simp; omega),splc_get _ _ _ (by simp only [zc]; omega),List.getElem?_set,zc]
  by_cases h1:k<p
  ·rw [if_neg (by omega),if_neg (by omega),if_neg (by omega)]
  ·by_cases h2:k=p
   ·subst h2
    rw [if_neg (by omega),if_pos rfl,if_pos hp,if_pos (by omega),Nat.sub_self]; rfl
   ·rw [if_neg (show ¬ p=k by omega)]
    by_cases h3:k<p+1+r.length
    ·rw [if_pos (by omega),if_pos (by omega),show k - p=(k - (p+1))+1 by omega,List.getElem?_cons_succ]
    ·rw [if_neg (by omega),if_neg (by omega)]
theorem arr_all (l:List Value) (p:Value→Bool) (n:Nat) (h:n=l.length):l.toArray.all p 0 n=l.all p:=by subst h; simp
attribute [go_sem] arr_all List.all_cons List.all_nil Bool.and_self Bool.true_and
attribute [go_sem] Bool.not_true Bool.not_false Nat.mul_one Nat.one_mul Nat.zero_mul List.getElem?_drop obPut_var Int.toNat_natCast Int.natCast_nonneg Int.ofNat_lt Int.ofNat_le Int.ofNat_inj List.length_map List.getElem?_map List.take_length beq_self_eq_true bne_self_eq_false Ob.live resD resL res1
end Go.Proofs.YtbmedfjmccnclaaGreat.AWP
namespace Go.Proofs.YtbmedfjmccnclaaGreat.AWP
open Go
open _root_.Nat renaming le_refl → za
theorem getElem?_app {α:Type} {l m:List α} {k:Nat} {x:α} (h:(l++m)[k]? = some x):(k<l.length∧l[k]? = some x)∨(l.length≤k∧m[k - l.length]? = some x):=by
 rw [List.getElem?_append] at h
 split at h
 ·exact .inl ⟨by assumption,h⟩
 ·exact .inr ⟨by omega,h⟩
theorem AC.frame {P:Program} {f:FuncId} {ds:List D} {om fr:List Ob} {R:Out→List Ob→Prop} (h:AC P f ds om R) (ho:∀ o∈om,ObAll (Bl om.length) o) (hds:∀ d∈ds,Bl om.length d)
  (hl:∀ o om',R o om'→om'.length=om.length):AC P f ds (om++fr) fun o om2=>∃ om',R o om'∧om2=om'++fr:=by
 refine ⟨h.1,fun E vs hR hA=>?_⟩
 have hn:om.length+fr.length=E.n:=by rw [← hR.len]; simp
 let E1:Env:=⟨om.length,E.g,E.A,E.w⟩
 have rd1:∀ d,Bl om.length d→∀ y,Rd E d y→Rd E1 d y:=fun d hd y hy=>Rd.bl (E:=E) (E2:=E1) (n:=om.length) (za _) (fun _ _=>rfl) (fun _ h=>h) rfl hy hd
 have sub:∀ {k:Nat} {o:Ob},om[k]? = some o→(om++fr)[k]? = some o:=fun {k o} hk=>by rw [List.getElem?_append_left (List.getElem?_eq_some_iff.1 hk).1]; exact hk
 have sub2:∀ {k:Nat} {o:Ob},fr[k]? = some o→(om++fr)[om.length+k]? = some o:=fun {k o} hk=>by rw [List.getElem?_append_right (by omega)]; simpa using hk
 have hR1:Rel E1 om:=by
  refine ⟨rfl,fun k o hk=>?_,fun k k' o o' b hk hk' hl hl' hb hb'=>hR.inj k k' o o' b (sub hk) (sub hk') hl hl' hb hb',hR.old,fun k hk=>hR.one k (by show k<E.n; have:k<om.length:=hk; omega),fun g c h=>rd1 _ ((gtab_bl h).mono (Nat.zero_le _)) _ (hR.gt g c h)⟩
  exact ObR.via (E:=E) (k:=k) rfl (ho o (List.mem_of_getElem? hk)) rd1 (fun hl b hb=>⟨rfl,fun hA=>hR.notlive hA ⟨k,o,sub hk,hl,hb⟩⟩) (hR.ob k o (sub hk))
 refine (h.2 E1 vs hR1 ⟨hA.1,fun j d hj=>rd1 d (hds d (List.mem_of_getElem? hj)) _ (hA.2 j d hj)⟩).mono ?_
 rintro e w' ⟨E',o,om',hr,rfl,hx,hR',hO⟩
 have hlen:=hl o om' hr
 have hn':E'.n=om.length:=by rw [← hR'.len,hlen]
 let E2:Env:=⟨E.n,E.g,E'.A,E'.w⟩
 have hg:∀ k,k<E'.n→E2.g k=E'.g k:=fun k hk=>(hx.g k (by show k<om.length; omega)).symm
 have rd2:∀ d y,Rd E' d y→Rd E2 d y:=fun d y hy=>Rd.gen (E:=E') (E':=E2) (by show E'.n≤E.n; omega) hg (fun _ h=>h) (fun _ _=>rfl) hy
 have live1:∀ {b},Live E1 om b→Live E (om++fr) b:=by
  rintro b ⟨k,o,hk,hl,hb⟩
  exact ⟨k,o,sub hk,hl,hb⟩
 have sep:∀ {k o b},fr[k]? = some o→o.live=true→hb (E.g (om.length+k))=some b→¬ Live E1 om b:=by
  rintro k o b hk hl hb ⟨k',o',hk',hl',hb'⟩
  have:=hR.inj _ _ _ _ b (sub2 hk) (sub hk') hl hl' hb hb'
  have:=(List.getElem?_eq_some_iff.1 hk').1
  omega
 have lt:∀ {k o b},fr[k]? = some o→o.live=true→hb (E.g (om.length+k))=some b→b<E.w.heap.size∧¬ E.A b:=fun hk hl hb=>hR.live_lt ⟨_,_,sub2 hk,hl,hb⟩
 have rd3:∀ d y,Rd E d y→Rd E2 d y:=fun d y hy=>Rd.gen (E:=E) (E':=E2) (za _) (fun _ _=>rfl) hx.A (h:=hy) fun a hA=>World.cell?_of_block (hx.keep _ (hR.old _ hA) fun hL=>hR.notlive hA (live1 hL))
 have cases2:∀ {k o},(om'++fr)[k]? = some o→(k<om.length∧om'[k]? = some o)∨∃ j,k=om.length+j∧fr[j]? = some o:=by
  intro k o hk
  rcases getElem?_app hk with ⟨h1,h2⟩ | ⟨h1,h2⟩
  ·exact .inl ⟨by omega,h2⟩
  ·exact .inr ⟨k - om'.length,by omega,h2⟩
 have live':∀ {k o b},om'[k]? = some o→o.live=true→hb (E.g k)=some b→Live E' om' b:=by
  intro k o b hk hl hb
  refine ⟨k,o,hk,hl,?_⟩
  rw [hx.g k (by have:=(List.getElem?_eq_some_iff.1 hk).1; show k<om.length; omega)]
  exact hb
 have mix:∀ {k j o o' b},om'[k]? = some o→o.live=true→hb (E.g k)=some b→fr[j]? = some o'→o'.live=true→hb (E.g (om.length+j))=some b→False:=by
  intro k j o o' b hk hl hb hj hl' hb'
  rcases hx.live b (live' hk hl hb) with h | h
  ·exact sep hj hl' hb' h
  ·have:=(lt hj hl' hb').1
   have h:E.w.heap.size≤b:=h
   omega
 refine ⟨E2,o,om'++fr,⟨om',hr,rfl⟩,rfl,?_,?_,?_⟩
 ·refine ⟨za _,fun _ _=>rfl,hx.A,hx.size,hx.os,hx.tape,hx.output,fun b hb hn=>hx.keep b hb fun hL=>hn (live1 hL),?_,fun b hA=>?_⟩
  ·rintro b ⟨k,o,hk,hl,hb⟩
   rcases cases2 hk with ⟨_,h2⟩ | ⟨j,rfl,h2⟩
   ·exact (hx.live b (live' h2 hl hb)).imp live1 id
   ·exact .inl ⟨_,_,sub2 h2,hl,hb⟩
  ·exact (hx.newA b hA).imp id fun h=>h.imp live1 id
 ·refine ⟨by simp [hlen]; exact hn,fun k o hk=>?_,fun k k' o o' b hk hk' hl hl' hb hb'=>?_,hR'.old,hR.one,fun g c h=>rd2 _ _ (hR'.gt g c h)⟩
  ·rcases cases2 hk with ⟨h1,h2⟩ | ⟨j,rfl,h2⟩
   ·refine ObR.via (E:=E') (k:=k) (hg k (by omega)) ObAll.triv (fun d _ y=>rd2 d y) (fun hl b hb=>⟨rfl,?_⟩) (hR'.ob k o h2)
    exact (hR'.live_lt ⟨k,o,h2,hl,hb⟩).2
   ·refine ObR.via (E:=E) (k:=om.length+j) rfl ObAll.triv (fun d _ y=>rd3 d y) (fun hl b hb=>?_) (hR.ob _ o (sub2 h2))
    have h3:=lt h2 hl hb
    have h4:=sep h2 hl hb
    refine ⟨hx.keep b h3.1 h4,fun hA=>?_⟩
    rcases hx.newA b hA with h | h | h
    ·exact h3.2 h
    ·exact h4 h
    ·have h:E.w.heap.size≤b:=h
     omega
  ·rcases cases2 hk with ⟨h1,h2⟩ | ⟨j,rfl,h2⟩ <;> rcases cases2 hk' with ⟨h1',h2'⟩ | ⟨j',rfl,h2'⟩
   ·exact hR'.inj k k' o o' b h2 h2' hl hl' (by rw [← hg k (by omega)]; exact hb) (by rw [← hg k' (by omega)]; exact hb')
   ·exact (mix h2 hl hb h2' hl' hb').elim
   ·exact (mix h2' hl' hb' h2 hl hb).elim
   ·exact hR.inj _ _ _ _ b (sub2 h2) (sub2 h2') hl hl' hb hb'
 ·cases o <;> cases e <;> simp only [OutR] at hO ⊢
  ·exact rd2 _ _ hO
  ·obtain ⟨y,h1,h2⟩:=hO
   exact ⟨y,h1,rd2 _ _ h2⟩
end Go.Proofs.YtbmedfjmccnclaaGreat.AWP
namespace Go.Proofs.YtbmedfjmccnclaaGreat.AWP
open Go
open _root_.List renaming replicate → za, map_cons → zb, getD_eq_getElem?_getD → zc
open _root_.Array renaming replicate → zd
open _root_.Nat renaming le_of_eq → ze
def ModeR (E:Env):Option D→FrameMode→Prop
 | none,m=>m=.returning
 | some d,m=>∃ y,m=.panicking [{ v:=y,recovered:=false }]∧Rd E d y
def DR (E:Env) (om:List Ob) (R:List Ob→Prop):Ending→FrameMode→World→Prop
 | .returned _,u,w=>settle u=.returning∧∃ E' om',R om'∧E'.w=w∧Ext E om E' om'∧Rel E' om'
 | _,_,_=>False
def DC (P:Program) (f:FuncId) (ds:List D) (om:List Ob) (u:Option D) (R:List Ob→Prop):Prop:=
 callOk P f=true∧∀ E vs m,Rel E om→RdA E ds vs→ModeR E u m→CallsDIn Fence.wide 0 P f vs m E.w (DR E om R)
def defQ (P:Program) (T:Tab) (rs:List ResultVar) (om0:List Ob) (R:Out→List Ob→Prop) (g:FuncId) (caps:List D):AX→St→Prop
 | .norm,s | .ret,s=>∃ R1,DC P g caps s.om none R1∧∀ om1,R1 om1→opt (resD T ⟨s.env,om1⟩ rs) fun d=>Fin om0 om1 (.ret d) R
 | .panic e,s=>∃ R1,DC P g caps s.om (some e) R1∧∀ om1,R1 om1→opt (resD T ⟨s.env,om1⟩ rs) fun d=>Fin om0 om1 (.ret d) R
 | .exit _,_=>False
theorem CallsDIn.mono {F:Fence} {n:Nat} {P:Program} {f:FuncId} {args:Array Value} {u:FrameMode} {w:World} {R R':Ending→FrameMode→World→Prop} (h:CallsDIn F n P f args u w R) (hr:∀ e u w,R e u w→R' e u w):CallsDIn F n P f args u w R':=
 ⟨h.1,fun c cs hm hroom=>let ⟨e,u',w',fr,h1,h2⟩:=h.2 c cs hm hroom; ⟨e,u',w',fr,hr _ _ _ h1,h2⟩⟩
theorem Rd.fn_inv {E:Env} {g:FuncId} {caps:List D} {y:Value} (h:Rd E (.fn g caps) y):∃ vs,y=.func (.func g) #[] vs∧RdA E caps vs:=by
 cases h with
 | fn vs hs hd=>exact ⟨vs,rfl,hs,hd⟩
theorem RdA.ext {E E':Env} {om om':List Ob} (hR:Rel E om) (hx:Ext E om E' om') {ds:List D} {vs:Array Value} (h:RdA E ds vs):RdA E' ds vs:=
 ⟨h.1,fun j d hj=>(h.2 j d hj).ext hR hx⟩
section
variable {P:Program} {T:Tab}
theorem Sat.enter {nr:Bool} {fn:Func} {E:Env} {ds:List D} {om:List Ob} {vs:Array Value} (hR:Rel E om) (hA:RdA E ds vs) :
  Sat ⟨E.w.heap.size,[],nr⟩ E ⟨ds++za (fn.ntmps - ds.length) D.any,om⟩ { tmps:=vs++zd (fn.ntmps - vs.size) undef,defers:=[] }:=by
 refine ⟨hR,Marks.nil (Nat.le_refl _),by simp [hA.1],fun t=>?_⟩
 by_cases ht:t<ds.length
 ·have h1:(ds++za (fn.ntmps - ds.length) D.any).getD t .any=ds[t]:=by
   simp [zc,List.getElem?_append,ht]
  have h2:(vs++zd (fn.ntmps - vs.size) undef).getD t undef=vs.getD t undef:=by
   have:t<vs.size:=by rw [hA.1]; exact ht
   simp [Array.getD_eq_getD_getElem?,Array.getElem?_append,this]
  show Rd E ((ds++za (fn.ntmps - ds.length) D.any).getD t .any) _
  rw [h1]
  have:=hA.2 t ds[t] (List.getElem?_eq_getElem ht)
  rwa [← h2] at this
 ·have h1:(ds++za (fn.ntmps - ds.length) D.any).getD t .any=.any:=by
   simp only [zc,List.getElem?_append,ht,if_false,List.getElem?_replicate]
   split <;> rfl
  show Rd E ((ds++za (fn.ntmps - ds.length) D.any).getD t .any) _
  rw [h1]
  exact .any _
theorem leave_D (hT:TabOk P T) {fn:Func} {rs:List ResultVar} (hrs:fn.results.toList=rs) {g:FuncId} {caps:List D} {vs:Array Value} {om:List Ob} {E E1 E3:Env} {s1 s3:St} {a3:Act} {u:Option D} {m:FrameMode} {bs:List Nat} {R:Out→List Ob→Prop}
  (hR:Rel E om) (hx1:Ext E om E1 s1.om) (hR1:Rel E1 s1.om) (hv:RdA E1 caps vs) (hnd:bs.Nodup) (hbs:∀ b∈bs,E.w.heap.size≤b∧E1.w.heap[b]? = some (.deferred (some [])))
  (hx3:Ext E1 s1.om E3 s3.om) (hs3:Sat ⟨E1.w.heap.size,{ target:=.fn (.func g) vs,args:=#[] } :: bs.map mark,false⟩ E3 s3 a3) (hm:ModeR E3 u m) (hrun:m≠.run)
  (h:∃ R1,DC P g caps s3.om u R1∧∀ om1,R1 om1→opt (resD T ⟨s3.env,om1⟩ rs) fun d=>Fin om om1 (.ret d) R) :
  LeavesInM Fence.wide 0 P fn a3.tmps (fun e w'=>∃ E' o om',R o om'∧E'.w=w'∧Ext E om E' om'∧Rel E' om'∧OutR E' o e) a3.defers m E3.w:=by
 subst hrs
 obtain ⟨R1,hdc,hres⟩:=h
 obtain ⟨h0,bs3,hnd3,hds3,hbs3,_⟩:=hs3.defs
 simp only at h0 hds3 hbs3
 rw [hds3]
 refine leave_marks hrun bs3 E3 hs3.rel hnd3 hbs3 fun E4 ht=>?_
 have hx4:Ext E1 s1.om E4 s3.om:=hx3.turn ht
 have hv4:RdA E4 caps vs:=hv.ext hR1 hx4
 have hm4:ModeR E4 u m:=by
  cases u with
  | none=>exact hm
  | some d=>obtain ⟨y,h1,h2⟩:=hm; exact ⟨y,h1,ht.rd _ _ h2⟩
 have hbs4:∀ b∈bs,E.w.heap.size≤b∧E4.w.heap[b]? = some (.deferred (some [])):=fun b hb=>by
  refine ⟨(hbs b hb).1,?_⟩
  rw [hx4.keep b (Array.getElem?_eq_some_iff.1 (hbs b hb).2).1 (hR1.no_df (hbs b hb).2)]
  exact (hbs b hb).2
 refine ⟨hrun,.inr ⟨by simp [Fence.wide],.func g,vs,g,vs,rfl,?_,fun _ _=>trivial,?_⟩⟩
 ·simp only [invoke,Array.empty_append]
  exact callFunc_ok hdc.1 _ _
 refine (hdc.2 E4 vs m ht.rel hv4 hm4).mono ?_
 rintro e u' w' hdr
 cases e with
 | panicked ch=>exact hdr.elim
 | outgrown=>exact hdr.elim
 | returned v=>
  obtain ⟨hset,E5,om1,hr1,rfl,hx5,hR5⟩:=hdr
  show LeavesInM Fence.wide 0 P fn a3.tmps _ (bs.map mark) (settle u') E5.w
  rw [hset,← List.append_nil (bs.map mark)]
  have hbs5:∀ b∈bs,E.w.heap.size≤b∧E5.w.heap[b]? = some (.deferred (some [])):=fun b hb=>by
   refine ⟨(hbs4 b hb).1,?_⟩
   rw [hx5.keep b (Array.getElem?_eq_some_iff.1 (hbs4 b hb).2).1 (ht.rel.no_df (hbs4 b hb).2)]
   exact (hbs4 b hb).2
  refine leave_marks (by simp) bs E5 hR5 hnd hbs5 fun E6 ht6=>?_
  obtain ⟨d,hd,hfin⟩:=opt_elim (hres om1 hr1)
  have hsat':Sat ⟨0,[],false⟩ E6 ⟨s3.env,om1⟩ { a3 with defers:=[] }:=⟨ht6.rel,Marks.nil (Nat.zero_le _),hs3.size,fun t=>ht6.rd _ _ ((ht.rd _ _ (hs3.rd t)).ext ht.rel hx5)⟩
  obtain ⟨y,hy,hyd⟩:=resD_ok hT hsat' hd
  refine ⟨y,hy,hfin E E6 (.returned y) hR ?_ ht6.rel hyd⟩
  exact (hx1.trans (hx4.trans hx5)).turn ht6
theorem two_ops {ops:Array Oper} {x y:LOp} (h:ops.toList.map lop=[x,y]):∃ o0 o1,ops = #[o0,o1]∧lop o0=x∧lop o1=y:=by
 obtain ⟨l⟩:=ops
 cases l with
 | nil=>cases h
 | cons a l=>
  cases l with
  | nil=>rw [zb] at h; injection h with _ h; cases h
  | cons b l=>
   cases l with
   | nil=>
    rw [zb,zb] at h
    injection h with h1 h
    injection h with h2 h
    exact ⟨a,b,rfl,h1,h2⟩
   | cons c l=>
    rw [zb,zb,zb] at h
    injection h with _ h
    injection h with _ h
    cases h
theorem run_defer {a:Act} {o:Oper} {t:Tmp} {tys:Array TypeId} {g:FuncId} {vc:Array Value} {w:World} (q:o.op=.defer ⟨.value (.tmp t),#[],tys⟩) (h:a.tmps.getD t undef=.func (.func g) #[] vc) :
  (execOp a.eval o).run P w=.ok (.defer { target:=.fn (.func g) vc,args:=#[] }) w:=by
 have h':a.eval (.tmp t)=.func (.func g) #[] vc:=h
 simp [execOp,q,resolve,h',Deferred.ofValue]
theorem defer_ok (hT:TabOk P T) {lo:Lo} {o0 o1:Oper} {t:Tmp} {dd:Option Tmp} {g:FuncId} {cap:Array Operand} {tys:Array TypeId} (e0:lop o0=⟨some t,.makeFunc (.func g) #[] cap,none⟩) (e1:lop o1=⟨dd,.defer ⟨.value (.tmp t),#[],tys⟩,none⟩)
  {E1:Env} {s1:St} {a1:Act} (hsat:Sat lo E1 s1 a1) (ht:t<s1.env.length) {K:Exit→Act→World→Prop}
  (hk:∀ (E2:Env) (a2:Act) (vc:Array Value),Ext E1 s1.om E2 s1.om→Rel E2 s1.om→RdA E2 (cap.toList.map (evD s1.env)) vc→Marks lo E2 a2.defers →
   Sat ⟨E2.w.heap.size,{ target:=.fn (.func g) vc,args:=#[] } :: a2.defers,false⟩ E2 ((s1.put (some t) (.fn g (cap.toList.map (evD s1.env)))).put dd (.v undef)) ({ a2 with defers:={ target:=.fn (.func g) vc,args:=#[] } :: a2.defers }.put dd undef) →
   K .normal ({ a2 with defers:={ target:=.fn (.func g) vc,args:=#[] } :: a2.defers }.put dd undef) E2.w) :
  wpOpsIn (fence none) 0 P #[o0,o1] K [0,1] a1 E1.w:=by
 simp only [lop,LOp.mk.injEq] at e0 e1
 obtain ⟨d0,q0,g0⟩:=e0
 obtain ⟨d1,q1,g1⟩:=e1
 have ha:aop P T false o0.op o0.dst s1 (fun s'=>s'=s1.put (some t) (.fn g (cap.toList.map (evD s1.env)))) (fun _ _=>False):=by
  rw [q0,d0]
  simp [aop]
 have w0:Region.wanted o0 (yielded #[o0,o1] a1.tmps)=true:=by unfold Region.wanted; rw [g0]
 have henv:(s1.put (some t) (.fn g (cap.toList.map (evD s1.env)))).env.getD t .any=.fn g (cap.toList.map (evD s1.env)):=by
  show (s1.env.set t _).getD t .any=_
  simp [zc,ht]
 unfold wpOpsIn
 show if Region.wanted o0 (yielded #[o0,o1] a1.tmps)=true then _ else _
 rw [if_pos w0]
 refine aop_ok hT false hsat ha none (aop_notDefer ha) ?_ (fun E' s' y d hk _ _ _=>hk.elim)
 rintro E2 s2 a2 rfl hx2 hs2
 have w1:Region.wanted o1 (yielded #[o0,o1] a2.tmps)=true:=by unfold Region.wanted; rw [g1]
 have hval:=hs2.rd t
 rw [henv] at hval
 obtain ⟨vc,hvc,hva⟩:=hval.fn_inv
 unfold wpOpsIn
 show if Region.wanted o1 (yielded #[o0,o1] a2.tmps)=true then _ else _
 rw [if_pos w1]
 refine ⟨fun _ _=>trivial,?_⟩
 show o1.uponIn (fence none) 0 P a2 _ _ ((execOp a2.eval o1).run P E2.w)
 rw [run_defer q1 hvc,Oper.uponIn_defer,d1]
 unfold wpOpsIn
 refine hk E2 a2 vc hx2 hs2.rel hva hs2.defs ?_
 have hs2':Sat ⟨E2.w.heap.size,{ target:=.fn (.func g) vc,args:=#[] } :: a2.defers,false⟩ E2 (s1.put (some t) (.fn g (cap.toList.map (evD s1.env)))) { a2 with defers:={ target:=.fn (.func g) vc,args:=#[] } :: a2.defers }:=
  ⟨hs2.rel,Marks.base (lo:=⟨E2.w.heap.size,_,false⟩) (Nat.le_refl _),hs2.size,hs2.rd⟩
 exact hs2'.put (Ext.refl E2 _) hs2.rel (.v undef) dd
theorem AC.bodyD (hT : TabOk P T) {f : FuncId} {fn : Func} {c0 c2 : Code} {id1 : Nat} {ops1 : Array Oper} (hf : P.funcs[f]? = some fn) (hb : fn.body = some (.seq c0 (.seq (.region id1 ops1 false) c2))) (hn : (fn.name == "runtime.NumGoroutine") = false)
  {rs:List ResultVar} (hrs:fn.results.toList=rs) {n:Nat} (hnt:fn.ntmps=n) {g:FuncId} {cap:Array Operand} {t:Tmp} {dd:Option Tmp} {tys:Array TypeId}
  (hops:ops1.toList.map lop=[⟨some t,.makeFunc (.func g) #[] cap,none⟩,⟨dd,.defer ⟨.value (.tmp t),#[],tys⟩,none⟩]) {ds:List D} {om:List Ob} {R:Out→List Ob→Prop}
  (h:AW om.length P c0 (fun x s=>x=.norm∧t<s.env.length∧AW s.om.length P c2 (defQ P T rs om R g (cap.toList.map (evD s.env))) ((s.put (some t) (.fn g (cap.toList.map (evD s.env)))).put dd (.v undef))) ⟨ds++za (n - ds.length) D.any,om⟩):AC P f ds om R:=by
 subst hnt
 obtain ⟨o0,o1,rfl,e0,e1⟩:=two_ops hops
 have hr2:List.range (#[o0,o1]:Array Oper).size=[0,1]:=rfl
 have hom:∀ (s:St) (x y:D),((s.put (some t) x).put dd y).om=s.om:=fun s x y=>by cases dd <;> rfl
 refine ⟨by simp [callOk,hf,hb,hn],fun E vs hR hA=>?_⟩
 have st:c0.wpIn (fence none) 0 P (Exit.then ((Code.seq (.region id1 #[o0,o1] false) c2).wpIn Fence.wide 0 P (bodyPostM Fence.wide 0 P fn fun e w'=>∃ E' o om',R o om'∧E'.w=w'∧Ext E om E' om'∧Rel E' om'∧OutR E' o e)) (bodyPostM Fence.wide 0 P fn fun e w'=>∃ E' o om',R o om'∧E'.w=w'∧Ext E om E' om'∧Rel E' om'∧OutR E' o e))
   { tmps:=vs++zd (fn.ntmps - vs.size) undef,defers:=[] } E.w:=by
  refine wpIn_mono (h none _ E _ ⟨.inl rfl,fun h=>by cases h⟩ (ze hR.len) (Sat.enter (nr:=false) hR hA)) ?_
  rintro e a1 w1 ⟨E1,x,s1,⟨rfl,ht,h2⟩,hx,rfl,hext,hsat⟩
  have hext':Ext E om E1 s1.om:=ExtB.toExt (hR.len ▸ hext)
  cases e <;> simp only [cx] at hx
  show (Code.seq (.region id1 #[o0,o1] false) c2).wpIn Fence.wide 0 P _ a1 E1.w
  refine wpIn_seq (wpIn_region ?_)
  rw [hr2]
  refine defer_ok hT e0 e1 hsat ht ?_
  intro E2 a2 vc hx2 hR2 hva hm2 hs2
  obtain ⟨m0,bs,hnd,hds,hbs,_⟩:=hm2
  simp only at m0 hds hbs
  rw [List.append_nil] at hds
  have hx02:Ext E om E2 s1.om:=hext'.trans hx2
  have hlen:s1.om.length=E2.n:=hR2.len
  show c2.wpIn Fence.wide 0 P _ _ E2.w
  refine wpIn_mono (h2 none _ E2 _ ⟨.inl rfl,fun h=>by cases h⟩ (ze hlen) hs2) ?_
  rintro e a3 w3 ⟨E3,x,s3,hq,hx3,rfl,hext3,hs3⟩
  rw [hom] at hext3
  rw [hlen] at hext3
  have hx3':=ExtB.toExt hext3
  rw [hds] at hs3
  cases x <;> cases e <;> simp only [cx] at hx3 <;> simp only [defQ] at hq
  ·exact leave_D hT hrs (u:=none) (m:=.returning) hR hx02 hR2 hva hnd hbs hx3' hs3 rfl (by simp) hq
  ·exact leave_D hT hrs (u:=none) (m:=.returning) hR hx02 hR2 hva hnd hbs hx3' hs3 rfl (by simp) hq
  ·obtain ⟨y,rfl,hd⟩:=hx3
   exact leave_D hT hrs (u:=some _) (m:=.panicking _) hR hx02 hR2 hva hnd hbs hx3' hs3 ⟨_,rfl,hd⟩ (by simp) hq
 exact (callsIn_wide (n:=0)).1 (callsIn_of_wp_marks hf hb trivial (wpIn_seq st))
def recD:Option D→D
 | none=>.v .nilIface
 | some d=>d
theorem one_op {ops:Array Oper} {x:LOp} (h:ops.toList.map lop=[x]):∃ o0,ops = #[o0]∧lop o0=x:=by
 obtain ⟨l⟩:=ops
 cases l with
 | nil=>cases h
 | cons a l=>
  cases l with
  | nil=>
   rw [zb] at h
   injection h with h1 h
   exact ⟨a,rfl,h1⟩
  | cons b l=>
   rw [zb,zb] at h
   injection h with _ h
   cases h
theorem run_recover {a:Act} {o:Oper} {tys:Array TypeId} {w:World} (q:o.op=.call ⟨.builtin .recover,#[],tys⟩):(execOp a.eval o).run P w=.ok .recover w:=by
 simp [execOp,q,resolve,invoke,builtin]
theorem recover_ok {F:Fence} {n:Nat} (hro:F.round=none) (hF:F.fn=fun _=>True) {o0:Oper} {t:Option Tmp} {tys:Array TypeId} (e0:lop o0=⟨t,.call ⟨.builtin .recover,#[],tys⟩,none⟩) {Q:Exit→Act→List Frame→World→Prop} {a:Act} {c₀:Frame} {cs:List Frame} {w:World} {c2:Code} {Q2:Exit→Act→List Frame→World→Prop}
  {y:Value} {cs':List Frame} (hrec:(recoverD (c₀ :: cs)=some (y,cs'))∨(recoverD (c₀ :: cs)=none∧y=.nilIface∧cs'=c₀ :: cs)) (h:Q .normal (a.put t y) cs' w) :
  wpOpsSIn F n P #[o0] Q [0] a (c₀ :: cs) w:=by
 simp only [lop,LOp.mk.injEq] at e0
 obtain ⟨d0,q0,g0⟩:=e0
 have w0:Region.wanted o0 (yielded #[o0] a.tmps)=true:=by unfold Region.wanted; rw [g0]
 unfold wpOpsSIn
 refine ⟨fun f _=>by rw [hF]; trivial,?_⟩
 show if Region.wanted o0 (yielded #[o0] a.tmps)=true then _ else _
 rw [if_pos w0,show (#[o0]:Array Oper)[0]=o0 from rfl,run_recover q0,d0]
 rcases hrec with hrec | ⟨hrec,rfl,rfl⟩
 ·rw [hrec]
  exact h
 ·rw [hrec]
  exact h
theorem DC.body (hT : TabOk P T) {f : FuncId} {fn : Func} {c2 : Code} {id0 : Nat} {ops0 : Array Oper} (hf : P.funcs[f]? = some fn) (hb : fn.body = some (.seq (.region id0 ops0 false) c2)) (hn : (fn.name == "runtime.NumGoroutine") = false)
  (hrs:fn.results.toList=[]) {n:Nat} (hnt:fn.ntmps=n) {t:Option Tmp} {tys:Array TypeId} (hops:ops0.toList.map lop=[⟨t,.call ⟨.builtin .recover,#[],tys⟩,none⟩]) (hrf:noRF c2=true) {ds:List D} {om:List Ob} {u:Option D} {R:List Ob→Prop}
  (h:AW om.length P c2 (fun x s=>(x=.norm∨x=.ret)∧R s.om) ((⟨ds++za (n - ds.length) D.any,om⟩:St).put t (recD u))):DC P f ds om u R:=by
 subst hnt
 obtain ⟨o0,rfl,e0⟩:=one_op hops
 refine ⟨by simp [callOk,hf,hb,hn],fun E vs m hR hA hm=>callsDIn_of_wpSIn hf hb trivial fun c₀ cs hc=>?_⟩
 have fin:∀ (y:Value) (u':FrameMode),Rd E (recD u) y→settle u'=.returning →
   c2.wpIn Fence.wide 0 P (fun e a' w'=>bodyPostS P fn c₀ cs (DR E om R) e a' ({ c₀ with mode:=u' } :: cs) w') (({ tmps:=vs++zd (fn.ntmps - vs.size) undef,defers:=[] }:Act).put t y) E.w:=by
  intro y u' hy hu
  have hs0:Sat ⟨E.w.heap.size,[],true⟩ E ((⟨ds++za (fn.ntmps - ds.length) D.any,om⟩:St).put t (recD u)) (({ tmps:=vs++zd (fn.ntmps - vs.size) undef,defers:=[] }:Act).put t y):=
   (Sat.enter hR hA).put (Ext.refl E om) hR hy t
  refine wpIn_mono (h none _ E _ ⟨.inl rfl,fun _=>hrf⟩ (ze hR.len) hs0) ?_
  rintro e a' w' ⟨E',x,s',⟨hx',hr⟩,hx,rfl,hext,hs'⟩
  have hom:((⟨ds++za (fn.ntmps - ds.length) D.any,om⟩:St).put t (recD u)).om=om:=by cases t <;> rfl
  rw [hom,hR.len] at hext
  have hext':=ExtB.toExt hext
  obtain ⟨_,bs,_,hds,_,hnr⟩:=hs'.defs
  rw [hnr rfl] at hds
  have hdf:a'.defers=[]:=hds
  obtain ⟨v,hv,hvd⟩:=resD_ok (fn:=fn) hT hs' (d:=.tup []) (by rw [hrs]; rfl)
  have hdr:DR E om R (.returned v) u' E'.w:=⟨hu,E',s'.om,hr,rfl,hext',hs'.rel⟩
  cases x <;> cases e <;> simp only [cx] at hx
  ·exact ⟨hdf,u',rfl,v,hv,hdr⟩
  ·rcases hx' with hx' | hx' <;> cases hx'
  ·exact ⟨hdf,u',rfl,v,hv,hdr⟩
  ·rcases hx' with hx' | hx' <;> cases hx'
 refine wpSIn_seq (wpSIn_region ?_)
 cases u with
 | none=>
  obtain rfl:m=.returning:=hm
  have e:({ c₀ with mode:=.returning }:Frame)=c₀:=by rw [← hc]
  refine recover_ok (F:=Fence.wide) rfl rfl e0 (y:=.nilIface) (cs':=c₀ :: cs) (c2:=c2) (Q2:=bodyPostS P fn c₀ cs (DR E om R)) (.inr ⟨by simp [recoverD,hc],rfl,rfl⟩) ?_
  have:=fin .nilIface .returning (.v _) rfl
  rw [e] at this
  exact wpSIn_of_wpIn rfl this
 | some d=>
  obtain ⟨y,rfl,hy⟩:=hm
  refine recover_ok (F:=Fence.wide) rfl rfl e0 (y:=y) (cs':={ c₀ with mode:=.panicking [{ v:=y,recovered:=true }] } :: cs) (c2:=c2) (Q2:=bodyPostS P fn c₀ cs (DR E om R)) (.inl (by simp [recoverD,hc])) ?_
  exact wpSIn_of_wpIn rfl (fin y (.panicking [{ v:=y,recovered:=true }]) hy rfl)
def OpO (P:Program) (o:LOp) (s:St) (K:St→Prop):Prop:=
 ∀ (lo:Lo) (E:Env) (a:Act) (oo:Oper) (next:Act→World→Prop) (Q:Exit→Act→World→Prop),lop oo=o→Sat lo E s a→notDefer oo∧Done lo P oo a E s K (fun _ _=>False) next Q
def opsO (P:Program):List LOp→St→(St→Prop)→Prop
 | [],s,K=>K s
 | o :: rest,s,K=>o.guard=none∧OpO P o s (fun s'=>opsO P rest s' K)
theorem OpO.aop (hT:TabOk P T) {o:LOp} {s:St} {K:St→Prop} (h:aop P T false o.op o.dst s K (fun _ _=>False)):OpO P o s K:=by
 intro lo E a oo next Q e hs
 subst e
 exact ⟨aop_notDefer h,aop_ok hT false hs h⟩
theorem OpO.value {o:LOp} {s:St} {K:St→Prop} {d:D} (hnd:∀ c,o.op≠.defer c) (hrun:∀ (E:Env) (ρ:Operand→Value) (oo:Oper),lop oo=o→(∀ x,Rd E (evD s.env x) (ρ x))→∃ m z,execOp ρ oo=(do pure (.value (← m)))∧m.run P E.w=.ok z E.w∧Rd E d z) (h:K (s.put o.dst d)):OpO P o s K:=by
 intro lo E a oo next Q e hs
 subst e
 obtain ⟨m,z,h1,h2,h3⟩:=hrun E a.eval oo rfl hs.ev
 exact ⟨hnd,Done.value hs h1 h2 h3 h⟩
theorem opsO_ok {lo:Lo} {base:Nat} {r:Option Nat} {ops:Array Oper} {Q:AX→St→Prop} {E0:Env} {om0:List Ob} (hb0:base≤E0.n) :
  ∀ (reg:List LOp) (i m:Nat) (s:St) (E:Env) (a:Act),i+m=ops.size→(ops.toList.map lop).drop i=reg→Ext E0 om0 E s.om→Sat lo E s a→opsO P reg s (Q .norm) →
   wpOpsIn (fence r) 0 P ops (Post lo base Q E0 om0) (List.range' i m) a E.w:=by
 intro reg
 induction reg with
 | nil=>
  intro i m s E a hi hd hx hs h
  have:(ops.toList.map lop).length≤i:=List.drop_eq_nil_iff.1 hd
  simp at this
  obtain rfl:m=0:=by omega
  exact ⟨E,.norm,s,h,trivial,rfl,hx.toB hb0,hs⟩
 | cons o reg ih=>
  intro i m s E a hi hd hx hs h
  have hlt:i<(ops.toList.map lop).length:=by
   rcases Nat.lt_or_ge i (ops.toList.map lop).length with h | h
   ·exact h
   ·rw [List.drop_eq_nil_of_le h] at hd; cases hd
  have hlt':i<ops.size:=by simpa using hlt
  rw [List.drop_eq_getElem_cons hlt] at hd
  injection hd with h1 h2
  have ho:ops[i]? = some ops[i]:=Array.getElem?_eq_getElem hlt'
  have hl:lop ops[i]=o:=by simpa using h1
  cases m with
  | zero=>omega
  | succ m=>
   rw [List.range'_succ]
   simp only [wpOpsIn,ho]
   obtain ⟨hg,hop⟩:=h
   have hg':ops[i].guard=none:=by rw [← hl] at hg; exact hg
   have hw:Region.wanted ops[i] (yielded ops a.tmps)=true:=by unfold Region.wanted; rw [hg']
   rw [if_pos hw]
   obtain ⟨hnd,hdone⟩:=hop lo E a ops[i] (wpOpsIn (fence r) 0 P ops (Post lo base Q E0 om0) (List.range' (i+1) m)) (Post lo base Q E0 om0) hl hs
   exact hdone r hnd (fun E' s' a' hk hx' hs'=>ih (i+1) m s' E' a' (by omega) h2 (hx.trans hx') hs' hk) fun E' s' y d hk _ _ _=>hk.elim
theorem AW.regionO {base:Nat} {id:Nat} {ops:Array Oper} {Q:AX→St→Prop} {s:St} (reg:List LOp) (hreg:ops.toList.map lop=reg) (h:opsO P reg s (Q .norm)):AW base P (.region id ops false) Q s:=by
 intro r lo E a hr hb hs
 refine wpIn_region ?_
 rw [List.range_eq_range']
 exact opsO_ok hb reg 0 ops.size s E a (by omega) (by rw [List.drop_zero,hreg]) (Ext.refl _ _) hs h
theorem ALW.regO {base:Nat} {reg:List LOp} {Q:AX→St→Prop} {s:St} (h:opsO P reg s (Q .norm)):ALW base P (.reg reg [] none) Q s:=by
 intro c hc
 obtain ⟨id,ops,draw,rfl⟩:=lc_inv.2.2.2.2.2.2.2.2.1 _ _ _ hc
 cases draw with
 | false=>
  simp only [lc,LC.st,Bool.false_eq_true,if_false,LC.reg.injEq,true_and] at hc
  exact AW.regionO reg hc.1 h
 | true=>
  simp only [lc,LC.st,if_true] at hc
  split at hc
  ·split at hc
   ·simp at hc
   ·split at hc
    ·simp at hc
    ·split at hc
     ·simp at hc
     ·split at hc <;> simp at hc
  ·split at hc
   ·simp at hc
   ·split at hc
    ·simp at hc
    ·split at hc
     ·simp at hc
     ·split at hc
      ·simp at hc
      ·split at hc <;> simp at hc
theorem run_eqNil {ty:Nat} {ms:Array (String × TypeId)} (hi:P.underlying ty=some (.interface ms)) {x:Operand} {z:Value} {b:Bool} {w:World} (hz:(z=.nilIface∧b=true)∨(∃ t v,z=.iface t v)∧b=false) :
  (do eqGuard .eql ty x (.const .nilIface) z .nilIface; binOp .eql ty z .nilIface:Sem Value).run P w=.ok (.bool b) w:=by
 have h:∀ d:Nat,(Op.equalIn (d+1) ty z .nilIface).run P w=.ok b w:=fun d=>by
  rcases hz with ⟨rfl,rfl⟩ | ⟨⟨t,v,rfl⟩,rfl⟩ <;> simp [Op.equalIn,run_underlying hi]
 have hg:(eqGuard .eql ty x (.const .nilIface) z .nilIface).run P w=.ok () w:=by
  rcases hz with ⟨rfl,rfl⟩ | ⟨⟨t,v,rfl⟩,rfl⟩ <;> simp [eqGuard]
 have hb:(binOp .eql ty z .nilIface).run P w=.ok (.bool b) w:=by
  rcases hz with ⟨rfl,rfl⟩ | ⟨⟨t,v,rfl⟩,rfl⟩ <;> (simp only [binOp]; simp [Op.equal,Op.maxDepth,h 9999])
 simp only [Sem.run_bind,hg,Result.andThen_ok,hb]
theorem OpO.eqNil {dst:Option Tmp} {ty ty':Nat} {x:Operand} {ms:Array (String × TypeId)} (hi:P.underlying ty=some (.interface ms)) {s:St} {K:St→Prop} {d:D} (hx:evD s.env x=d) {b:Bool}
  (hd:(d=.v .nilIface∧b=true)∨(∃ t d',d=.ifc t d')∧b=false) (h:K (s.put dst (.b b))):OpO P ⟨dst,.binOp .eql ty x (.const .nilIface) ty',none⟩ s K:=by
 refine OpO.value (d:=.b b) (by simp) ?_ h
 intro E ρ oo e hρ
 simp only [lop,LOp.mk.injEq] at e
 have h1:=hρ x
 have e2:ρ (.const .nilIface)=.nilIface:=by
  have:=hρ (.const .nilIface)
  simpa [evD,ofConst] using this.v_inv
 rw [hx] at h1
 refine ⟨(do eqGuard .eql ty x (.const .nilIface) (ρ x) (ρ (.const .nilIface)); binOp .eql ty (ρ x) (ρ (.const .nilIface))),.bool b,by simp only [execOp,e.2.1],?_,.v _⟩
 rw [e2]
 refine run_eqNil hi ?_
 rcases hd with ⟨rfl,rfl⟩ | ⟨⟨t,d',rfl⟩,rfl⟩
 ·exact .inl ⟨h1.v_inv,rfl⟩
 ·generalize ρ x=z at h1
  cases h1
  exact .inr ⟨⟨_,_,rfl⟩,rfl⟩
theorem run_assert {t xt:Nat} (hc:P.concrete t=true) {v:Value} {w:World}:(Instr.typeAssert (.iface t v) xt t true).run P w=.ok (.tuple #[v,.bool true]) w:=by
 unfold Program.concrete at hc
 split at hc
 ·cases hc
 ·cases hc
 ·rename_i h1 h2
  cases hu:P.underlying t with
  | none=>exact absurd hu h2
  | some d=>
   have hni:∀ ms,d≠.interface ms:=fun ms e=>h1 ms (by rw [hu,e])
   cases d <;> first | exact absurd rfl (hni _) | simp [Instr.typeAssert,run_underlying hu]
theorem OpO.assert {dst:Option Tmp} {xt t:Nat} {x:Operand} (hc:P.concrete t=true) {s:St} {K:St→Prop} {d:D} (hx:evD s.env x=.ifc t d) (h:K (s.put dst (.tup [d,.b true]))):OpO P ⟨dst,.typeAssert x xt t true,none⟩ s K:=by
 refine OpO.value (d:=.tup [d,.b true]) (by simp) ?_ h
 intro E ρ oo e hρ
 simp only [lop,LOp.mk.injEq] at e
 have h1:=hρ x
 rw [hx] at h1
 obtain ⟨y,hz,h1⟩:∃ y,ρ x=.iface t y∧Rd E d y:=by
  generalize ρ x=z at h1
  cases h1 with
  | ifc h1=>exact ⟨_,rfl,h1⟩
 refine ⟨Instr.typeAssert (ρ x) xt t true,.tuple #[y,.bool true],by simp only [execOp,e.2.1],?_,.tup _ rfl fun j dd hj=>?_⟩
 ·rw [hz]; exact run_assert hc
 ·match j,hj with
  | 0,hj=>cases hj; exact h1
  | 1,hj=>cases hj; exact .v _
theorem reg_none {r:List LOp} {c:Code} (h:lc c=.reg r [] none):∃ id ops,c=.region id ops false∧ops.toList.map lop=r:=by
 obtain ⟨id,ops,draw,rfl⟩:=lc_inv.2.2.2.2.2.2.2.2.1 _ _ _ h
 cases draw with
 | false=>
  simp only [lc,LC.st,Bool.false_eq_true,if_false,LC.reg.injEq,true_and] at h
  exact ⟨id,ops,rfl,h.1⟩
 | true=>
  simp only [lc,LC.st,if_true] at h
  split at h
  ·split at h
   ·simp at h
   ·split at h
    ·simp at h
    ·split at h
     ·simp at h
     ·split at h <;> simp at h
  ·split at h
   ·simp at h
   ·split at h
    ·simp at h
    ·split at h
     ·simp at h
     ·split at h
      ·simp at h
      ·split at h <;> simp at h
theorem AC.lbodyD (hT:TabOk P T) (hm:P.follows .mixedOrders=true) {f:FuncId} {fn:Func} {l0 l2:LC} (hf:P.funcs[f]? = some fn) {g:FuncId} {cap:Array Operand} {t:Tmp} {dd:Option Tmp} {tys:Array TypeId}
  (hb : fn.body.map lc = some (.seq l0.st (.seq (.reg [⟨some t, .makeFunc (.func g) #[] cap, none⟩, ⟨dd, .defer ⟨.value (.tmp t), #[], tys⟩, none⟩] [] none) l2.st))) (hn : (fn.name == "runtime.NumGoroutine") = false)
  {rs:List ResultVar} (hrs:fn.results.toList=rs) {n:Nat} (hnt:fn.ntmps=n) {ds:List D} {om:List Ob} {R:Out→List Ob→Prop}
  (h:xl om.length P T l0 (fun x s=>x=.norm∧t<s.env.length∧xl s.om.length P T l2 (defQ P T rs om R g (cap.toList.map (evD s.env))) ((s.put (some t) (.fn g (cap.toList.map (evD s.env)))).put dd (.v undef))) ⟨ds++za (n - ds.length) D.any,om⟩):AC P f ds om R:=by
 simp only [Option.map_eq_some_iff] at hb
 obtain ⟨c,hc,hl⟩:=hb
 obtain ⟨c0,cr,rfl,h0,hr⟩:=lc_inv.1 _ _ hl
 obtain ⟨c1,c2,rfl,h1,h2⟩:=lc_inv.1 _ _ hr
 obtain ⟨id,ops,rfl,hops⟩:=reg_none h1
 refine AC.bodyD hT hf hc hn hrs hnt hops ((xl_ok hT hm h c0 h0).mono ?_)
 rintro x s ⟨rfl,ht,hx⟩
 exact ⟨rfl,ht,xl_ok hT hm hx c2 h2⟩
theorem DC.lbody (hT:TabOk P T) {f:FuncId} {fn:Func} {l2:LC} (hf:P.funcs[f]? = some fn) {t:Option Tmp} {tys:Array TypeId}
  (hb : fn.body.map lc = some (.seq (.reg [⟨t, .call ⟨.builtin .recover, #[], tys⟩, none⟩] [] none) l2.st)) (hrf : fn.body.map noRF = some true) (hn : (fn.name == "runtime.NumGoroutine") = false)
  (hrs:fn.results.toList=[]) {n:Nat} (hnt:fn.ntmps=n) {ds:List D} {om:List Ob} {u:Option D} {R:List Ob→Prop}
  (h:ALW om.length P l2 (fun x s=>(x=.norm∨x=.ret)∧R s.om) ((⟨ds++za (n - ds.length) D.any,om⟩:St).put t (recD u))):DC P f ds om u R:=by
 simp only [Option.map_eq_some_iff] at hb
 obtain ⟨c,hc,hl⟩:=hb
 obtain ⟨c0,c2,rfl,h0,h2⟩:=lc_inv.1 _ _ hl
 obtain ⟨id,ops,rfl,hops⟩:=reg_none h0
 rw [hc] at hrf
 have hr2:noRF c2=true:=by
  have:noRF (.seq (.region id ops false) c2)=true:=by simpa using hrf
  simpa [noRF] using this
 exact DC.body hT hf hc hn hrs hnt hops hr2 (h c2 h2)
def drawn1:Code→Option (Array Oper)
 | .region _ ops d=>if d then some ops else none
 | .seq a b=>(drawn1 a).or (drawn1 b)
 | .cond _ a b=>(drawn1 a).or (drawn1 b)
 | .block _ a=>drawn1 a
 | .loop a=>drawn1 a
 | _=>none
theorem AW.regionT0 (hT:TabOk P T) (hm:P.follows .mixedOrders=true) {base:Nat} {id:Nat} {ops:Array Oper} {Q:AX→St→Prop} {s:St} {reg:List LOp} {t:OT} (hreg:ops.toList.map lop=reg) (hok:drawOk ops [] 0 false=true) (ht:mkTree ops ops.size (headMask ops.size 0)=t)
  (h:treeP P T reg [] t s (Q .norm) (fun d=>Q (.panic d))):AW base P (.region id ops true) Q s:=by
 refine AW.regionT hT hm reg [] 0 hreg hok ?_
 rw [ht]
 exact h
theorem regq_inv {r:List LOp} {m:Nat} {t:OT} {c:Code} (h:lc c=.regq r [] m t):∃ id ops,c=.region id ops true:=by
 obtain ⟨id,ops,draw,rfl⟩:=lc_inv.2.2.2.2.2.2.2.2.2.2.2.2.1 _ _ _ _ h
 cases draw with
 | false=>simp [lc,LC.st] at h
 | true=>exact ⟨id,ops,rfl⟩
end
end Go.Proofs.YtbmedfjmccnclaaGreat.AWP
