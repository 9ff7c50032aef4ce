/- The document's lines: where one ends, its name. -/
import Derived.Shelf.Sort.Plain
import Derived.Shelf.Slices.In.SortNone
import Derived.Shelf.Slices.Cells
import Derived.Shelf.Strings.Cut
import Derived.Shelf.Spec.SlicesGrow
import Derived.Test.YtbmedfjmccnclaaGreatChecked
import Derived.Test.YtbmedfjmccnclaaGreatGenA
import Derived.Test.YtbmedfjmccnclaaGreatGenB
import Derived.Test.YtbmedfjmccnclaaGreatLogicD
import Derived.Sort.OwnSorted
import Derived.Test.YtbmedfjmccnclaaGreatMathA
import Derived.Test.YtbmedfjmccnclaaGreatMathB
import Derived.Laws.StandIn
import Derived.Lib.Bytealg
import Derived.Laws.Externs
import Derived.Shelf.RegionOpenPlain
import Derived.Lib.Builder
import Derived.Lib.UnsafeStr
import Derived.Test.YtbmedfjmccnclaaGreatLogicA
import Derived.Test.YtbmedfjmccnclaaGreatLogicC
import Derived.Lib.IndexBytes
import Derived.Lib.CutLaws
set_option linter.unusedVariables false
set_option linter.unusedSimpArgs false
set_option linter.unusedSectionVars false
set_option maxRecDepth 100000
namespace Go.Proofs.YtbmedfjmccnclaaGreat.W
open Go Go.Proofs Go.Shelf
open Int renaming reduceEq→iEq,reduceLE→iLE,reduceLT→iLT,reduceToNat→iTN
open List renaming length_map→lMp
def laySort_ren:Go.Shelf.Ren:=⟨fun | 190=>113 | 125=>133 | 258=>132 | 128=>154 | 129=>155 | 302=>145 | 303=>146 | 304=>147 | 305=>148 | 306=>149 | 307=>150 | 308=>151 | 309=>152 | 310=>153 | 333=>171 | 329=>172 | 330=>173 | 334=>174 | 335=>175 | 336=>176 | 344=>186 | n=>n,fun | 31=>22 | 9=>9 | 3=>3 | 46=>170 | 0=>0 | 51=>74 | 53=>189 | 4=>4 | 183=>182 | 182=>181 | 131=>61 | 5=>5 | 218=>200 | 222=>204 | 228=>211 | 229=>212 | n=>n,fun | n=>n⟩
theorem laySort:Go.Proofs.Lays.n190 Tryz.prog laySort_ren:={
 mixed:=by kernel_rfl
 f125:=Tryz.func133.trans (congrArg some (by kernel_rfl))
 f128:=Tryz.func154.trans (congrArg some (by kernel_rfl))
 f129:=Tryz.func155.trans (congrArg some (by kernel_rfl))
 f190:=Tryz.func113.trans (congrArg some (by kernel_rfl))
 f258:=Tryz.func132.trans (congrArg some (by kernel_rfl))
 f302:=Tryz.func145.trans (congrArg some (by kernel_rfl))
 f303:=Tryz.func146.trans (congrArg some (by kernel_rfl))
 f304:=Tryz.func147.trans (congrArg some (by kernel_rfl))
 f305:=Tryz.func148.trans (congrArg some (by kernel_rfl))
 f306:=Tryz.func149.trans (congrArg some (by kernel_rfl))
 f307:=Tryz.func150.trans (congrArg some (by kernel_rfl))
 f308:=Tryz.func151.trans (congrArg some (by kernel_rfl))
 f309:=Tryz.func152.trans (congrArg some (by kernel_rfl))
 f310:=Tryz.func153.trans (congrArg some (by kernel_rfl))
 f329:=Tryz.func172.trans (congrArg some (by kernel_rfl))
 f330:=Tryz.func173.trans (congrArg some (by kernel_rfl))
 f333:=Tryz.func171.trans (congrArg some (by kernel_rfl))
 f334:=Tryz.func174.trans (congrArg some (by kernel_rfl))
 f335:=Tryz.func175.trans (congrArg some (by kernel_rfl))
 f336:=Tryz.func176.trans (congrArg some (by kernel_rfl))
 f344:=Tryz.func186.trans (congrArg some (by kernel_rfl))
 t0:=Tryz.underlying0
 a0:=Tryz.isAgg0
 z0:=Tryz.sizeOf0
 v0:=Tryz.zeroValue0
 t3:=Tryz.underlying3
 a3:=Tryz.isAgg3
 z3:=Tryz.sizeOf3
 v3:=Tryz.zeroValue3
 t4:=Tryz.underlying4
 a4:=Tryz.isAgg4
 z4:=Tryz.sizeOf4
 v4:=Tryz.zeroValue4
 t5:=Tryz.underlying5
 a5:=Tryz.isAgg5
 z5:=Tryz.sizeOf5
 v5:=Tryz.zeroValue5
 t9:=Tryz.underlying9
 a9:=Tryz.isAgg9
 z9:=Tryz.sizeOf9
 v9:=Tryz.zeroValue9
 t31:=Tryz.underlying22
 a31:=Tryz.isAgg22
 z31:=Tryz.sizeOf22
 v31:=Tryz.zeroValue22
 t46:=Tryz.underlying170
 a46:=Tryz.isAgg170
 z46:=Tryz.sizeOf170
 v46:=Tryz.zeroValue170
 t51:=Tryz.underlying74
 a51:=Tryz.isAgg74
 z51:=Tryz.sizeOf74
 v51:=Tryz.zeroValue74
 t53:=Tryz.underlying189
 a53:=Tryz.isAgg189
 z53:=Tryz.sizeOf189
 v53:=Tryz.zeroValue189
 t131:=Tryz.underlying61
 a131:=Tryz.isAgg61
 z131:=Tryz.sizeOf61
 v131:=Tryz.zeroValue61
 t182:=Tryz.underlying181
 a182:=Tryz.isAgg181
 z182:=Tryz.sizeOf181
 v182:=Tryz.zeroValue181
 t183:=Tryz.underlying182
 a183:=Tryz.isAgg182
 z183:=Tryz.sizeOf182
 v183:=Tryz.zeroValue182
 t218:=Tryz.underlying200
 a218:=Tryz.isAgg200
 z218:=Tryz.sizeOf200
 v218:=Tryz.zeroValue200
 t222:=Tryz.underlying204
 a222:=Tryz.isAgg204
 z222:=Tryz.sizeOf204
 v222:=Tryz.zeroValue204
 t228:=Tryz.underlying211
 a228:=Tryz.isAgg211
 z228:=Tryz.sizeOf211
 v228:=Tryz.zeroValue211
 t229:=Tryz.underlying212
 a229:=Tryz.isAgg212
 z229:=Tryz.sizeOf212
 v229:=Tryz.zeroValue212 }
def layCompact_ren:Go.Shelf.Ren:=⟨fun | 194=>92 | n=>n,fun | 31=>22 | 9=>9 | 3=>3 | 4=>4 | 0=>0 | n=>n,fun | n=>n⟩
theorem layCompact:Go.Proofs.Lays.n194 Tryz.prog layCompact_ren:={
 mixed:=by kernel_rfl
 f194:=Tryz.func92.trans (congrArg some (by kernel_rfl))
 t0:=Tryz.underlying0
 a0:=Tryz.isAgg0
 z0:=Tryz.sizeOf0
 v0:=Tryz.zeroValue0
 t3:=Tryz.underlying3
 a3:=Tryz.isAgg3
 z3:=Tryz.sizeOf3
 v3:=Tryz.zeroValue3
 t4:=Tryz.underlying4
 a4:=Tryz.isAgg4
 z4:=Tryz.sizeOf4
 v4:=Tryz.zeroValue4
 t9:=Tryz.underlying9
 a9:=Tryz.isAgg9
 z9:=Tryz.sizeOf9
 v9:=Tryz.zeroValue9
 t31:=Tryz.underlying22
 a31:=Tryz.isAgg22
 z31:=Tryz.sizeOf22
 v31:=Tryz.zeroValue22 }
def layCut_ren:Go.Shelf.Ren:=⟨fun | 145=>95 | 220=>121 | 219=>137 | 217=>135 | 225=>157 | 224=>158 | 267=>159 | 266=>156 | 314=>177 | n=>n,fun | 9=>9 | 4=>4 | 59=>143 | 3=>3 | 5=>5 | 46=>170 | 146=>206 | 51=>74 | n=>n,fun | 1=>0 | n=>n⟩
theorem layCut:Go.Proofs.Lays.n145 Tryz.prog layCut_ren:={
 mixed:=by kernel_rfl
 f145:=Tryz.func95.trans (congrArg some (by kernel_rfl))
 f217:=Tryz.func135.trans (congrArg some (by kernel_rfl))
 f219:=Tryz.func137.trans (congrArg some (by kernel_rfl))
 f220:=Tryz.func121.trans (congrArg some (by kernel_rfl))
 f224:=Tryz.func158.trans (congrArg some (by kernel_rfl))
 f225:=Tryz.func157.trans (congrArg some (by kernel_rfl))
 f266:=Tryz.func156.trans (congrArg some (by kernel_rfl))
 f267:=Tryz.func159.trans (congrArg some (by kernel_rfl))
 f314:=Tryz.func177.trans (congrArg some (by kernel_rfl))
 t3:=Tryz.underlying3
 a3:=Tryz.isAgg3
 z3:=Tryz.sizeOf3
 v3:=Tryz.zeroValue3
 t4:=Tryz.underlying4
 a4:=Tryz.isAgg4
 z4:=Tryz.sizeOf4
 v4:=Tryz.zeroValue4
 t5:=Tryz.underlying5
 a5:=Tryz.isAgg5
 z5:=Tryz.sizeOf5
 v5:=Tryz.zeroValue5
 t9:=Tryz.underlying9
 a9:=Tryz.isAgg9
 z9:=Tryz.sizeOf9
 v9:=Tryz.zeroValue9
 t46:=Tryz.underlying170
 a46:=Tryz.isAgg170
 z46:=Tryz.sizeOf170
 v46:=Tryz.zeroValue170
 t51:=Tryz.underlying74
 a51:=Tryz.isAgg74
 z51:=Tryz.sizeOf74
 v51:=Tryz.zeroValue74
 t59:=Tryz.underlying143
 a59:=Tryz.isAgg143
 z59:=Tryz.sizeOf143
 v59:=Tryz.zeroValue143
 t146:=Tryz.underlying206
 a146:=Tryz.isAgg206
 z146:=Tryz.sizeOf206
 v146:=Tryz.zeroValue206
 g1:=by kernel_rfl }
def layGrow_ren:Go.Shelf.Ren:=⟨fun | 4=>126 | n=>n,fun | 22=>22 | 25=>9 | 3=>3 | 4=>4 | 9=>9 | 20=>20 | 0=>0 | n=>n,fun | n=>n⟩
theorem layGrow:Go.Proofs.Lays8.n4 Tryz.prog layGrow_ren:={
 mixed:=by kernel_rfl
 f4:=⟨Tryz.f126.name,by decide,Tryz.func126.trans (congrArg some (by kernel_rfl))⟩
 t0:=Tryz.underlying0
 a0:=Tryz.isAgg0
 z0:=Tryz.sizeOf0
 v0:=Tryz.zeroValue0
 t3:=Tryz.underlying3
 a3:=Tryz.isAgg3
 z3:=Tryz.sizeOf3
 v3:=Tryz.zeroValue3
 t4:=Tryz.underlying4
 a4:=Tryz.isAgg4
 z4:=Tryz.sizeOf4
 v4:=Tryz.zeroValue4
 t9:=Tryz.underlying9
 a9:=Tryz.isAgg9
 z9:=Tryz.sizeOf9
 v9:=Tryz.zeroValue9
 t20:=Tryz.underlying20
 a20:=Tryz.isAgg20
 z20:=Tryz.sizeOf20
 v20:=Tryz.zeroValue20
 t22:=Tryz.underlying22
 a22:=Tryz.isAgg22
 z22:=Tryz.sizeOf22
 v22:=Tryz.zeroValue22 }
end Go.Proofs.YtbmedfjmccnclaaGreat.W
set_option maxRecDepth 100000
namespace Go.Proofs.YtbmedfjmccnclaaGreat.W
open Go Go.Proofs Go.Proofs.YtbmedfjmccnclaaGreat.AWP
open Int renaming reduceEq→iEq,reduceLE→iLE,reduceLT→iLT,reduceToNat→iTN
open List renaming length_map→lMp
open _root_.Array renaming getD → za
abbrev strOb (l:List ByteArray):Ob:=.slc 9 1 (strR l)
theorem arg1 {E:Env} {d:D} {vs:Array Value} (h:RdA E [d] vs):∃ y,vs = #[y]∧Rd E d y:=by
 refine ⟨vs.getD 0 undef,?_,h.2 0 d rfl⟩
 have h1:vs.size=1:=h.1
 refine Array.ext (by simpa using h1) fun j a b=>?_
 have:j=0:=by simp at b; omega
 subst this
 simp [za,h1]
theorem arg2 {E:Env} {d d':D} {vs:Array Value} (h:RdA E [d,d'] vs):∃ y y',vs = #[y,y']∧Rd E d y∧Rd E d' y':=by
 refine ⟨vs.getD 0 undef,vs.getD 1 undef,?_,h.2 0 d rfl,h.2 1 d' rfl⟩
 have h1:vs.size=2:=h.1
 refine Array.ext (by simpa using h1) fun j a b=>?_
 have:j=0∨j=1:=by simp at b; omega
 rcases this with rfl | rfl
 ·simp [za,h1]
 ·simp [za,h1]
theorem flat_str (l:List ByteArray) (j:Nat) (d:D):(strR l).flatten[j]? = some d↔∃ s,l[j]? = some s∧d=.s s:=by
 have:(strR l).flatten=l.map D.s:=by
  unfold strR
  induction l with
  | nil=>rfl
  | cons x l ih=>simp [ih]
 rw [this,List.getElem?_map,Option.map_eq_some_iff]
 exact ⟨fun ⟨s,h1,h2⟩=>⟨s,h1,h2.symm⟩,fun ⟨s,h1,h2⟩=>⟨s,h1,h2.symm⟩⟩
theorem cells_str {E:Env} {l:List ByteArray} {cs:Array Value} (h:CellsR E (strR l).flatten cs) {j:Nat} {s:ByteArray} (hs:l[j]? = some s):cs[j]? = some (.string s):=by
 obtain ⟨y,h1,_,h3⟩:=h j (.s s) ((flat_str l j _).2 ⟨s,hs,rfl⟩)
 rw [h1,h3.v_inv]
theorem str_rows (l:List ByteArray):∀ r∈strR l,r.length=1:=by
 intro r hr
 obtain ⟨s,_,rfl⟩:=List.mem_map.1 hr
 rfl
set_option maxHeartbeats 1000000 in
theorem sortS (l:List ByteArray) (hl:l.length≤1000000) (k:Nat) (om:List Ob) (hk:om[k]? = some (strOb l)) :
  AC Tryz.prog 113 [.own k] om (fun o om'=>o=.ret (.tup [])∧om'=om.set k (strOb (srt l))):=by
 refine ⟨by kernel_rfl,fun E vs hR hA=>?_⟩
 obtain ⟨y,rfl,hy⟩:=arg1 hA
 obtain ⟨h0,hs,hh⟩:=hR.ob k _ hk
 cases hy with
 | own hkn=>
 rcases hh with ⟨e1,e2⟩ | ⟨b,cs,cap,q1,q2,q3,q4,q5,q6,q7⟩
 ·have hl0:l=[]:=by
   cases l with
   | nil=>rfl
   | cons x l=>simp [strR] at e2
  subst hl0
  rw [e1]
  refine (Any.slices_Sort_string_none laySort none 0 E.w).mono ?_
  rintro e w' ⟨rfl,rfl⟩
  have hset:om.set k (strOb (srt []))=om:=by
   have:srt []=[]:=by simp [srt]
   rw [this]
   exact set_same hk
  exact ⟨E,.ret (.tup []),om,⟨rfl,hset.symm⟩,rfl,Ext.refl _ _,hR,.tup #[] rfl (fun j d hj=>by simp at hj)⟩
 ·have hlen:(strR l).length=l.length:=by simp
  rw [hlen] at q1
  have hblt:b<E.w.heap.size:=(Array.getElem?_eq_some_iff.1 q2).1
  have hss:(l.map fun s=>s.data.toList).length=l.length:=by simp
  have hH:Go.Sort.Holds encStr E.w b 0 (l.map fun s=>s.data.toList).toArray:=by
   refine holds_of_block q2 ?_
   refine List.ext_getElem? fun j=>?_
   rw [hss]
   by_cases hj:j<l.length
   ·obtain ⟨s,hsj⟩:=get_ex hj
    rw [List.getElem?_take_of_lt hj,Array.getElem?_toList,cells_str q7 hsj]
    simp [hsj]
   ·rw [List.getElem?_take_eq_none (by omega),List.getElem?_eq_none (by simp; omega)]
  have hc:=Any.slices_Sort_string laySort b 0 cap (l.map fun s=>s.data.toList) E.w hH hblt (by rw [hss]; omega)
  rw [hss] at hc
  rw [q1]
  refine hc.mono ?_
  rintro e w' ⟨rfl,n,os,rfl⟩
  let cs':Array Value:=Go.Sort.putCells encStr 0 ((l.map fun s=>s.data.toList).mergeSort fun x y=>decide (x≤y)).toArray cs
  have hsl:=srt_len l
  have hml:((l.map fun s=>s.data.toList).mergeSort fun x y=>decide (x≤y)).length=l.length:=by simp
  have hob:Ext E om { E with w:=E.w.putObj b (.cells cs' 9 (0,0)) } (om.set k (strOb (srt l)))→ObR { E with w:=E.w.putObj b (.cells cs' 9 (0,0)) } k (strOb (srt l)):=by
   intro hx
   refine ⟨h0,str_rows _,.inr ⟨b,cs',cap,?_,World.putObj_heap_same hblt,q3,by simpa [cs',Go.Sort.putCells] using q4,by simp [hsl]; rw [hlen] at q5; exact q5,q6,fun j d hj=>?_⟩⟩
   ·show E.g k=_
    rw [q1]; simp [hsl]
   ·obtain ⟨s,hsj,rfl⟩:=(flat_str _ j d).1 hj
    have hjl:j<l.length:=by rw [← hsl]; exact (List.getElem?_eq_some_iff.1 hsj).1
    refine ⟨.string s,?_,rfl,.v _⟩
    have hjc:j<cs.size:=by rw [hlen] at q5; rw [q4]; omega
    simp only [cs',Go.Sort.putCells,Array.getElem?_mapIdx,Array.getElem?_eq_getElem hjc,Option.map_some]
    rw [if_pos ⟨Nat.zero_le _,by simp; exact hjl⟩,Nat.sub_zero]
    unfold srt at hsj
    rw [List.getElem?_map,Option.map_eq_some_iff] at hsj
    obtain ⟨x,hx1,rfl⟩:=hsj
    have hxx:((l.map fun s=>s.data.toList).mergeSort fun x y=>decide (x≤y)).toArray[j]! = x:=by
     rw [getElem!_pos _ j (by simpa using hjl)]
     have:=(List.getElem?_eq_some_iff.1 hx1).2
     simpa using this
    rw [hxx]
  obtain ⟨hx1,hR1⟩:=put_okG hR hk rfl (b:=b) (by rw [q1]; rfl) (.cells cs' 9 (0,0)) (strOb (srt l)) hob
  obtain ⟨hx2,hR2⟩:=grow_okG hR1 (w':=Go.Sort.grow (Go.Sort.putRow encStr (Go.Sort.ahead E.w n) b 0 ((l.map fun s=>s.data.toList).mergeSort fun x y=>decide (x≤y)).toArray) os)
   (by rw [Go.Sort.size_grow,Go.Sort.size_putRow]; show (E.w.putObj b _).heap.size≤_; rw [World.putObj_size]; exact Nat.le_add_right _ _)
   (fun j hj=>by
    have hj:j<E.w.heap.size:=by rw [← World.putObj_size (w:=E.w)]; exact hj
    by_cases e:j=b
    ·subst e
     rw [heap_sorted _ q2]
     exact (World.putObj_heap_same hblt).symm
    ·rw [Go.Sort.heap_grow_old _ _ (by rw [Go.Sort.size_putRow]; exact hj)]
     show (Go.Sort.putRow encStr (Go.Sort.ahead E.w n) b 0 _).heap[j]? = (E.w.putObj b _).heap[j]?
     rw [World.putObj_heap_other e]
     have:b≠j:=fun h=>e h.symm
     simp [Go.Sort.putRow,Go.Sort.mapBlock,Go.Sort.ahead,Array.getElem?_modify,this]) rfl rfl rfl
  exact ⟨_,_,_,⟨rfl,rfl⟩,rfl,hx1.trans hx2,hR2,.tup #[] rfl (fun j d hj=>by simp at hj)⟩
end Go.Proofs.YtbmedfjmccnclaaGreat.W
set_option maxRecDepth 100000
namespace Go.Proofs.YtbmedfjmccnclaaGreat.W
open Go Go.Proofs Go.Proofs.YtbmedfjmccnclaaGreat.AWP
open Int renaming reduceEq→iEq,reduceLE→iLE,reduceLT→iLT,reduceToNat→iTN
open List renaming length_map→lMp
open _root_.List renaming replicate → za
open _root_.Nat renaming le_refl → zb
theorem holds_str {E:Env} {l:List ByteArray} {b:Nat} {cs:Array Value} (q2:E.w.heap[b]? = some (.cells cs 9 (0,0))) (q7:CellsR E (strR l).flatten cs):Go.Sort.Holds encStr E.w b 0 (lsts l).toArray:=by
 have hss:(lsts l).length=l.length:=by simp [lsts]
 refine holds_of_block q2 ?_
 refine List.ext_getElem? fun j=>?_
 rw [hss]
 by_cases hj:j<l.length
 ·obtain ⟨s,hsj⟩:=get_ex hj
  rw [List.getElem?_take_of_lt hj,Array.getElem?_toList,cells_str q7 hsj]
  simp [lsts,hsj]
 ·rw [List.getElem?_take_eq_none (by omega),List.getElem?_eq_none (by simp [lsts]; omega)]
set_option maxHeartbeats 1000000 in
theorem compactS (l:List ByteArray) (hl:l.length≤1000000) (k:Nat) (om:List Ob) (hk:om[k]? = some (strOb l)) :
  AC Tryz.prog 92 [.own k] om (fun o om'=>o=.ret (.own om.length)∧om'=om.set k .dead++[strOb (cpt l)]):=by
 refine ⟨by kernel_rfl,fun E vs hR hA=>?_⟩
 obtain ⟨y,rfl,hy⟩:=arg1 hA
 obtain ⟨h0,hs,hh⟩:=hR.ob k _ hk
 obtain ⟨hR',hsub⟩:=hR.kill k
 have hln:(om.set k Ob.dead).length=om.length:=by simp
 cases hy with
 | own hkn=>
 rcases hh with ⟨e1,e2⟩ | ⟨b,cs,cap,q1,q2,q3,q4,q5,q6,q7⟩
 ·have hl0:l=[]:=by
   cases l with
   | nil=>rfl
   | cons x l=>simp [strR] at e2
  subst hl0
  rw [e1]
  refine (Any.slices_Compact_string_empty layCompact none 0 E.w).mono ?_
  rintro e w' ⟨rfl,rfl⟩
  have hc:cpt []=[]:=by rfl
  rw [hc]
  obtain ⟨p1,p2,p3,_⟩:=push_ok' hR hR' hsub none (fun b hb'=>by cases hb') (.slice none 0 0) E.w (strOb []) rfl (zb _) rfl rfl rfl (fun b _ _=>rfl)
    (fun b _ hb'=>by simp [hb] at hb') (fun hx=>⟨h0,by simp,.inl ⟨by simp [Env.push],rfl⟩⟩)
  rw [hln] at p3
  exact ⟨E.push (.slice none 0 0) E.w,.ret (.own om.length),_,⟨rfl,rfl⟩,rfl,p1,p2,p3⟩
 ·have hlen:(strR l).length=l.length:=by simp
  rw [hlen] at q1 q5
  have hblt:b<E.w.heap.size:=(Array.getElem?_eq_some_iff.1 q2).1
  have hss:(lsts l).length=l.length:=by simp [lsts]
  have hc:=Any.slices_Compact_string layCompact b 0 cap (lsts l) E.w (holds_str q2 q7) (by rw [hss]; omega) (by rw [hss]; exact q5)
  rw [hss] at hc
  rw [q1]
  refine hc.mono ?_
  rintro e w' ⟨rfl,n,rfl⟩
  have hcl:(Go.Lib.compact (lsts l)).length≤l.length:=by have:=Go.Lib.compact_length_le (lsts l); rw [hss] at this; exact this
  have hcp:(cpt l).length=(Go.Lib.compact (lsts l)).length:=by simp [cpt,bas]
  have hgb:hb (E.g k)=some b:=by rw [q1]; rfl
  obtain ⟨p1,p2,p3,_⟩:=push_ok' hR hR' hsub (some b) (fun b' hb'=>by cases hb'; exact hR.killed hk rfl hgb) (.slice (some ⟨b,0,none⟩) (Go.Lib.compact (lsts l)).length cap)
    (Go.Sort.putRow encStr (Go.Sort.ahead E.w n) b 0 (Go.Lib.compact (lsts l)++za (l.length - (Go.Lib.compact (lsts l)).length) []).toArray) (strOb (cpt l)) rfl
    (by rw [Go.Sort.size_putRow]; exact zb _) rfl rfl rfl
    (fun j _ hj=>by
     have:b≠j:=fun h=>hj (by rw [h])
     simp [Go.Sort.putRow,Go.Sort.mapBlock,Go.Sort.ahead,Array.getElem?_modify,this])
    (fun b' _ hb'=>by simp only [hb,Option.some.injEq] at hb'; exact .inr (by rw [hb']))
    (fun hx=>⟨h0,str_rows _,.inr ⟨b,Go.Sort.putCells encStr 0 (Go.Lib.compact (lsts l)++za (l.length - (Go.Lib.compact (lsts l)).length) []).toArray cs,cap,by simp [Env.push,hcp],by
      have:=heap_sorted (os:=#[]) (n:=n) (Go.Lib.compact (lsts l)++za (l.length - (Go.Lib.compact (lsts l)).length) []).toArray q2
      rw [Go.Sort.grow_empty] at this
      exact this,q3,by simpa [Go.Sort.putCells] using q4,by rw [lMp,hcp]; omega,q6,fun j d hj=>by
     obtain ⟨s,hsj,rfl⟩:=(flat_str _ j d).1 hj
     have hjl:j<(Go.Lib.compact (lsts l)).length:=by rw [← hcp]; exact (List.getElem?_eq_some_iff.1 hsj).1
     refine ⟨.string s,?_,rfl,.v _⟩
     have hjc:j<cs.size:=by rw [q4]; omega
     simp only [Go.Sort.putCells,Array.getElem?_mapIdx,Array.getElem?_eq_getElem hjc,Option.map_some]
     rw [if_pos ⟨Nat.zero_le _,by simp; omega⟩,Nat.sub_zero]
     unfold cpt bas at hsj
     rw [List.getElem?_map,Option.map_eq_some_iff] at hsj
     obtain ⟨x,hx1,rfl⟩:=hsj
     have hxx:(Go.Lib.compact (lsts l)++za (l.length - (Go.Lib.compact (lsts l)).length) []).toArray[j]! = x:=by
      rw [getElem!_pos _ j (by simp; omega)]
      have:=(List.getElem?_eq_some_iff.1 hx1).2
      simp only [List.getElem_toArray]
      rw [List.getElem_append_left hjl]
      exact this
     rw [hxx]⟩⟩)
  rw [hln] at p3
  exact ⟨_,.ret (.own om.length),_,⟨rfl,rfl⟩,rfl,p1,p2,p3⟩
set_option maxHeartbeats 1000000 in
theorem growS (n:Nat) (hn:n≤1000000) (om:List Ob) :
  AC Tryz.prog 126 [.v (.slice none 0 0),.i n] om (fun o om'=>(n=0∧o=.ret (.v (.slice none 0 0))∧om'=om)∨(0<n∧o=.ret (.own om.length)∧om'=om++[strOb []])):=by
 refine ⟨by kernel_rfl,fun E vs hR hA=>?_⟩
 obtain ⟨y,y',rfl,hy,hy'⟩:=arg2 hA
 rw [hy.v_inv,hy'.v_inv]
 rcases Nat.eq_zero_or_pos n with rfl | hp
 ·refine (Any8.slices_Grow_room layGrow none 0 0 0 E.w (zb _) (by omega) (by omega) (zb _)).mono ?_
  rintro e w' ⟨rfl,rfl⟩
  exact ⟨E,.ret (.v (.slice none 0 0)),om,.inl ⟨rfl,rfl,rfl⟩,rfl,Ext.refl _ _,hR,.v _⟩
 ·obtain ⟨i0,hi0,hz0,hs0,hb0⟩:∃ i0,Tryz.prog.info? (layGrow_ren.t 25)=some i0∧i0.zero=some (.string ⟨#[]⟩)∧i0.size=1∧i0.bytes=16:=by
   refine ⟨_,rfl,?_,?_,?_⟩ <;> kernel_rfl
  refine (Any8.slices_Grow_grow layGrow i0 (.string ⟨#[]⟩) hi0 hz0 (by omega) none 0 0 n [] E.w (zb _) (by omega) (by rw [hb0]; omega) (by omega) (by simp) (fun _=>rfl) (fun a h=>by cases h)).mono ?_
  rintro e w' ⟨rfl,rfl⟩
  have hge:=grownCap_ge E.w (0+n) 0 (layGrow_ren.t 25)
  have hle:=grownCap_le_maxLen E.w (0+n) 0 (layGrow_ren.t 25) (by simp only [maxLen]; omega)
  generalize grownCap E.w (0+n) 0 (layGrow_ren.t 25)=cap at hge hle
  generalize hcs:(#[]++Builtin.zeroCells (Value.string { data:=#[] }).cells (0+n - 0)++Builtin.zeroCells (Value.string { data:=#[] }).cells (cap - (0+n)):Array Value)=cs
  have hsz:cs.size=cap:=by
   rw [← hcs]
   simp only [Array.size_append,size_zeroCells]
   simp only [Value.cells,List.size_toArray,List.length_nil,List.length_singleton]
   omega
  have hty:layGrow_ren.t 25=9:=by rfl
  have hat:(E.w.drew.alloc (.cells cs 9)).heap[E.w.heap.size]? = some (.cells cs 9 (0,0)):=heap_alloc_new E.w.drew (.cells cs 9)
  rw [hty]
  obtain ⟨p1,p2,p3,_⟩:=push_ok hR (.slice (some ⟨E.w.heap.size,0,none⟩) 0 cap) (E.w.drew.alloc (.cells cs 9)) (strOb []) rfl (by simp) rfl rfl rfl
   (fun b hb'=>heap_alloc_lt E.w.drew _ b hb') (fun b _ hb'=>by simp only [hb,Option.some.injEq] at hb'; omega)
   (fun hx=>⟨by decide,by simp,.inr ⟨E.w.heap.size,cs,cap,by simp [Env.push],hat,fun hA=>by have:=hR.old _ hA; omega,by omega,by simp,hle,fun j d hj=>by simp at hj⟩⟩)
  exact ⟨_,_,_,.inr ⟨hp,rfl,rfl⟩,rfl,p1,p2,p3⟩
def cutL (s sep:ByteArray):ByteArray × ByteArray × Bool:=
 match Go.Lib.cut s.data.toList sep.data.toList with
 | (a,b,c)=>(⟨a.toArray⟩,⟨b.toArray⟩,c)
abbrev cutLD (x:ByteArray × ByteArray × Bool):D:=.tup [.s x.1,.s x.2.1,.b x.2.2]
theorem cutLD_bl (x:ByteArray × ByteArray × Bool):Bl 0 (cutLD x):=.tup (by simp)
theorem maxLenIs {E:Env} {om:List Ob} (hR:Rel E om):∃ m,E.w.cell? ⟨layCut_ren.g 1,0,none⟩=some (.int .i64 m):=by
 have h:=hR.gt (layCut_ren.g 1) [.nt] (by rfl)
 cases h with
 | pel ad u hA hc hd=>
  have h1:=(hc 0 .nt rfl).1
  have h2:=hd 0 .nt rfl
  generalize u 0=y at h1 h2
  cases h2 with
  | nt n=>exact ⟨n,by simpa [Addr.add] using h1⟩
theorem cutW (s sep:ByteArray) (hs:s.size≤1000000):AP Tryz.prog 95 [.s s,.s sep] (cutLD (cutL s sep)):=by
 refine ⟨by kernel_rfl,fun E vs hR hA=>?_⟩
 obtain ⟨y,y',rfl,hy,hy'⟩:=arg2 hA
 rw [hy.v_inv,hy'.v_inv]
 obtain ⟨m,hm⟩:=maxLenIs hR
 refine (Any.strings_Cut layCut s sep m E.w (by omega) hm).mono ?_
 rintro e w' ⟨rfl,n,rfl⟩
 obtain ⟨hx,hR2⟩:=grow_okG hR (w':=E.w.drewN n) (by simp [World.drewN]) (fun b _=>by simp [World.drewN]) (by simp [World.drewN]) (by simp [World.drewN]) (by simp [World.drewN])
 refine ⟨_,.ret (cutLD (cutL s sep)),_,⟨rfl,rfl⟩,rfl,hx,hR2,?_⟩
 refine .tup _ rfl fun j d hj=>?_
 match j,hj with
 | 0,hj=>simp at hj; subst hj; exact .v _
 | 1,hj=>simp at hj; subst hj; exact .v _
 | 2,hj=>simp at hj; subst hj; exact .v _
 | j+3,hj=>simp at hj
end Go.Proofs.YtbmedfjmccnclaaGreat.W
set_option maxRecDepth 100000
namespace Go.Proofs.YtbmedfjmccnclaaGreat.W
open Go Go.Proofs Go.Proofs.YtbmedfjmccnclaaGreat.AWP
open Int renaming reduceEq→iEq,reduceLE→iLE,reduceLT→iLT,reduceToNat→iTN
open List renaming length_map→lMp
theorem _root_.Go.Proofs.YtbmedfjmccnclaaGreat.AWP.AO.of_calls {P:Program} {f:FuncId} {vs:List Value} {x:Value} (hok:callOk P f=true) (h:∀ w,Calls P f vs.toArray w fun e w'=>e=.returned x∧w'=w):AP P f (vs.map .v) (.v x):=by
 refine ⟨hok,fun E us hR hA=>?_⟩
 have e:us=vs.toArray:=by
  refine Array.ext (by simpa using hA.1) fun j h1 h2=>?_
  have hj:j<vs.length:=by simpa using h2
  have:=(hA.2 j (.v vs[j]) (by simp [hj])).v_inv
  simpa [Array.getD,h1] using this
 subst e
 refine (h E.w).mono ?_
 rintro e w' ⟨rfl,rfl⟩
 exact ⟨E,_,_,⟨rfl,rfl⟩,rfl,Ext.refl _ _,hR,.v _⟩
end Go.Proofs.YtbmedfjmccnclaaGreat.W
set_option maxRecDepth 100000
namespace Go.Proofs.YtbmedfjmccnclaaGreat.W
open Go Go.Proofs Go.Proofs.YtbmedfjmccnclaaGreat.AWP
open Int renaming reduceEq→iEq,reduceLE→iLE,reduceLT→iLT,reduceToNat→iTN
open List renaming length_map→lMp
end Go.Proofs.YtbmedfjmccnclaaGreat.W
set_option maxRecDepth 100000
namespace Go.Proofs.YtbmedfjmccnclaaGreat.W
open Go Go.Proofs Go.Proofs.YtbmedfjmccnclaaGreat.AWP
open Int renaming reduceEq→iEq,reduceLE→iLE,reduceLT→iLT,reduceToNat→iTN
open List renaming length_map→lMp
open _root_.Nat renaming not_lt_zero → za, zero_le → zc
open _root_.List renaming mem_of_getElem? → zb
attribute [local irreducible] xl hide aop aops aopQ qops guardP condP
def idxI {α:Type} (p:α→Bool) (l:List α):Int:=
 match l.findIdx? p with
 | some i=>i
 | none=>-1
theorem idxI_nn {α:Type} (p:α→Bool) (l:List α):decide (0≤idxI p l)=l.any p:=by
 unfold idxI
 cases h:l.findIdx? p with
 | none=>
  rw [List.findIdx?_eq_none_iff] at h
  have:l.any p=false:=by rw [List.any_eq_false]; intro x hx; simp [h x hx]
  rw [this]; rfl
 | some i=>
  have:=List.findIdx?_eq_some_iff_findIdx_eq.1 h
  obtain ⟨hlt,hi⟩:=List.findIdx?_eq_some_iff_getElem.1 h
  have h1:l.any p=true:=List.any_eq_true.2 ⟨l[i],List.getElem_mem _,hi.1⟩
  rw [h1]; exact decide_eq_true (show (0:Int)≤(i:Int) by omega)
theorem get_con (R:List Ob) (v:Ob):(R++[v])[R.length]? = some v:=by simp
theorem set_con (R:List Ob) (v w:Ob):(R++[v]).set R.length w=R++[w]:=by
 rw [List.set_append_right _ _ (Nat.le_refl _)]; simp
theorem idx_none {α:Type} {p:α→Bool} {l:List α} (hn:∀ (j:Nat) (x:α),l[j]? = some x→p x=false):idxI p l = -1:=by
 have:l.findIdx? p=none:=by
  rw [List.findIdx?_eq_none_iff]
  intro x hx
  obtain ⟨j,hj⟩:=List.getElem?_of_mem hx
  exact hn j x hj
 unfold idxI
 rw [this]
theorem idx_some {α:Type} {p:α→Bool} {l:List α} {i:Nat} {x:α} (hx:l[i]? = some x) (hp:p x=true) (hn:∀ (j:Nat) (y:α),j<i→l[j]? = some y→p y=false):idxI p l=i:=by
 have:l.findIdx? p=some i:=by
  rw [List.findIdx?_eq_some_iff_getElem]
  obtain ⟨hlt,hxe⟩:=List.getElem?_eq_some_iff.1 hx
  refine ⟨hlt,by rw [hxe]; exact hp,fun j hji=>?_⟩
  have:=hn j l[j] hji (List.getElem?_eq_getElem (by omega))
  simp [this]
 unfold idxI
 rw [this]
abbrev Grs (l:List Gr):D:=.sl 2 (l.map Gr.c)
theorem Grs_rows (l:List Gr):∀ r∈l.map Gr.c,∀ d∈r,Bl 0 d:=by
 intro r hr
 obtain ⟨x,_,rfl⟩:=List.mem_map.1 hr
 exact Gr.c_bl x
theorem Grs_bl (l:List Gr):Bl 0 (Grs l):=.sl (Grs_rows l)
theorem str_get {l:List ByteArray} {i:Nat} {s:ByteArray} (h:l[i]? = some s):(strR l)[i]? = some [.s s]:=by rw [List.getElem?_map,h]; rfl
theorem cfs_get {l:List Cf} {i:Nat} {x:Cf} (h:l[i]? = some x):(Cf.cs l)[i]? = some x.c:=by rw [Cf.cs_eq,List.getElem?_map,h]; rfl
theorem cfs_len (l:List Cf):(Cf.cs l).length=l.length:=by rw [Cf.cs_eq,lMp]
@[simp] theorem cf_cs_len (l:List Cf):(Cf.cs l).length=l.length:=cfs_len l
theorem gr_c_len (g:Gr):g.c.length=2:=rfl
theorem gr_take (g:Gr):g.c.take 2=g.c:=rfl
set_option maxHeartbeats 1000000 in
theorem idxStr (G:FuncId) (caps:List D) (hcb:∀ d∈caps,Bl 0 d) (p:ByteArray→Bool) (l:List ByteArray) (hl:l.length≤9223372036854775806) (H:∀ x∈l,AP Tryz.prog G (.s x :: caps) (.b (p x))):AP Tryz.prog 134 [Strs l,.fn G caps] (.i (idxI p l)):=by
 have hq:∀ om (F:Nat→Bool) (ks:List (Option Nat)),Cv om F ks (Strs l) (Strs l):=fun om F ks=>.same (Strs_bl l)
 have hf:∀ om (F:Nat→Bool) (ks:List (Option Nat)),Cv om F ks (.fn G caps) (.fn G caps):=fun om F ks=>.same (.fn hcb)
 refine AC.lbody hT hm Tryz.func134 f134_nm f134_lc f134_res f134_nt ?_
 simp only [go_sem,iEq,iLE,iLT,iTN,lMp]
 refine xl_loopM hT hm (fun i:Nat=>⟨f134_i7 (Strs l) (.fn G caps) (.i l.length) (.i i),[]⟩)
  (fun i=>i≤l.length∧∀ j x,j<i→l[j]? = some x→p x=false) (fun i=>l.length - i) 0 ⟨zc _,fun j x h=>absurd h (za _)⟩ (Mv.none (by simp only [f134_i7,CvL]; simp [hq,hf,lMp])) ?_
 rintro i ⟨hi,hn⟩
 simp only [go_sem,iEq,iLE,iLT,iTN,lMp]
 by_cases h:i<l.length
 case neg=>
  simp only [go_sem,iEq,iLE,iLT,iTN,h,lMp]
  exact Fin.v (by rw [idx_none fun j x hj=>hn j x (by have:=(List.getElem?_eq_some_iff.1 hj).1; omega) hj])
 obtain ⟨x,hx⟩:=get_ex h
 simp only [go_sem,iEq,iLE,iLT,iTN,h,hx,lMp,lMp]
 refine (H x (zb hx)).pv ⟨.same (Bl_v),CvL.same hcb⟩ ?_
 cases hp:p x
 case true=>
  simp only [go_sem,iEq,iLE,iLT,iTN]
  exact Fin.v (by rw [idx_some hx hp hn])
 simp only [go_sem,iEq,iLE,iLT,iTN]
 rw [wrap_succ i (by omega)]
 refine ⟨i+1,⟨h,fun j y hj hy=>?_⟩,by omega,Mv.none (by simp only [CvL]; simp [hq,hf,lMp])⟩
 by_cases e:j=i
 ·subst e; rw [hx] at hy; cases hy; exact hp
 ·exact hn j y (by omega) hy
theorem anyStr (G:FuncId) (caps:List D) (hcb:∀ d∈caps,Bl 0 d) (p:ByteArray→Bool) (l:List ByteArray) (hl:l.length≤9223372036854775806) (H:∀ x∈l,AP Tryz.prog G (.s x :: caps) (.b (p x))):AP Tryz.prog 115 [Strs l,.fn G caps] (.b (l.any p)):=by
 refine AC.lbody hT hm Tryz.func115 f115_nm f115_lc f115_res f115_nt ?_
 simp only [go_sem,iEq,iLE,iLT,iTN]
 refine (idxStr G caps hcb p l hl H).pv ⟨.same (Strs_bl l),.same (.fn hcb),trivial⟩ ?_
 simp only [go_sem,iEq,iLE,iLT,iTN]
 exact Fin.v (by rw [idxI_nn])
set_option maxHeartbeats 1000000 in
theorem idxCf (G:FuncId) (caps:List D) (hcb:∀ d∈caps,Bl 0 d) (p:Cf→Bool) (l:List Cf) (hl:l.length≤9223372036854775806) (H:∀ x∈l,AP Tryz.prog G (.agg x.c :: caps) (.b (p x))):AP Tryz.prog 66 [Cfs l,.fn G caps] (.i (idxI p l)):=by
 have hq:∀ om (F:Nat→Bool) (ks:List (Option Nat)),Cv om F ks (Cfs l) (Cfs l):=fun om F ks=>.same (.sl (Cf.cs_bl l))
 have hf:∀ om (F:Nat→Bool) (ks:List (Option Nat)),Cv om F ks (.fn G caps) (.fn G caps):=fun om F ks=>.same (.fn hcb)
 refine AC.lbody hT hm Tryz.func66 f66_nm f66_lc f66_res f66_nt ?_
 simp only [go_sem,iEq,iLE,iLT,iTN,cfs_len]
 refine xl_loopM hT hm (fun i:Nat=>⟨f66_i7 (Cfs l) (.fn G caps) (.i l.length) (.i i),[]⟩)
  (fun i=>i≤l.length∧∀ j x,j<i→l[j]? = some x→p x=false) (fun i=>l.length - i) 0 ⟨zc _,fun j x h=>absurd h (za _)⟩ (Mv.none (by simp only [f66_i7,CvL]; simp [hq,hf,cfs_len])) ?_
 rintro i ⟨hi,hn⟩
 simp only [go_sem,iEq,iLE,iLT,iTN,cfs_len]
 by_cases h:i<l.length
 case neg=>
  simp only [go_sem,iEq,iLE,iLT,iTN,h,cfs_len]
  exact Fin.v (by rw [idx_none fun j x hj=>hn j x (by have:=(List.getElem?_eq_some_iff.1 hj).1; omega) hj])
 obtain ⟨x,hx⟩:=get_ex h
 simp only [go_sem,iEq,iLE,iLT,iTN,h,hx,cfs_len,Cf.c_take]
 refine (H x (zb hx)).pv ⟨.same (x.d_bl),CvL.same hcb⟩ ?_
 cases hp:p x
 case true=>
  simp only [go_sem,iEq,iLE,iLT,iTN]
  exact Fin.v (by rw [idx_some hx hp hn])
 simp only [go_sem,iEq,iLE,iLT,iTN]
 rw [wrap_succ i (by omega)]
 refine ⟨i+1,⟨h,fun j y hj hy=>?_⟩,by omega,Mv.none (by simp only [CvL]; simp [hq,hf,cfs_len])⟩
 by_cases e:j=i
 ·subst e; rw [hx] at hy; cases hy; exact hp
 ·exact hn j y (by omega) hy
theorem anyCf (G:FuncId) (caps:List D) (hcb:∀ d∈caps,Bl 0 d) (p:Cf→Bool) (l:List Cf) (hl:l.length≤9223372036854775806) (H:∀ x∈l,AP Tryz.prog G (.agg x.c :: caps) (.b (p x))):AP Tryz.prog 54 [Cfs l,.fn G caps] (.b (l.any p)):=by
 refine AC.lbody hT hm Tryz.func54 f54_nm f54_lc f54_res f54_nt ?_
 simp only [go_sem,iEq,iLE,iLT,iTN]
 refine (idxCf G caps hcb p l hl H).pv ⟨.same (.sl (Cf.cs_bl l)),.same (.fn hcb),trivial⟩ ?_
 simp only [go_sem,iEq,iLE,iLT,iTN]
 exact Fin.v (by rw [idxI_nn])
set_option maxHeartbeats 1000000 in
theorem idxGr (G:FuncId) (caps:List D) (hcb:∀ d∈caps,Bl 0 d) (p:Gr→Bool) (l:List Gr) (hl:l.length≤9223372036854775806) (H:∀ x∈l,AP Tryz.prog G (.agg x.c :: caps) (.b (p x))):AP Tryz.prog 85 [Grs l,.fn G caps] (.i (idxI p l)):=by
 have hq:∀ om (F:Nat→Bool) (ks:List (Option Nat)),Cv om F ks (Grs l) (Grs l):=fun om F ks=>.same (Grs_bl l)
 have hf:∀ om (F:Nat→Bool) (ks:List (Option Nat)),Cv om F ks (.fn G caps) (.fn G caps):=fun om F ks=>.same (.fn hcb)
 refine AC.lbody hT hm Tryz.func85 f85_nm f85_lc f85_res f85_nt ?_
 simp only [go_sem,iEq,iLE,iLT,iTN,lMp]
 refine xl_loopM hT hm (fun i:Nat=>⟨f85_i7 (Grs l) (.fn G caps) (.i l.length) (.i i),[]⟩)
  (fun i=>i≤l.length∧∀ j x,j<i→l[j]? = some x→p x=false) (fun i=>l.length - i) 0 ⟨zc _,fun j x h=>absurd h (za _)⟩ (Mv.none (by simp only [f85_i7,CvL]; simp [hq,hf,lMp])) ?_
 rintro i ⟨hi,hn⟩
 simp only [go_sem,iEq,iLE,iLT,iTN,lMp]
 by_cases h:i<l.length
 case neg=>
  simp only [go_sem,iEq,iLE,iLT,iTN,h,lMp]
  exact Fin.v (by rw [idx_none fun j x hj=>hn j x (by have:=(List.getElem?_eq_some_iff.1 hj).1; omega) hj])
 obtain ⟨x,hx⟩:=get_ex h
 simp only [go_sem,iEq,iLE,iLT,iTN,h,hx,lMp,gr_take,gr_c_len]
 refine (H x (zb hx)).pv ⟨.same (x.d_bl),CvL.same hcb⟩ ?_
 cases hp:p x
 case true=>
  simp only [go_sem,iEq,iLE,iLT,iTN]
  exact Fin.v (by rw [idx_some hx hp hn])
 simp only [go_sem,iEq,iLE,iLT,iTN]
 rw [wrap_succ i (by omega)]
 refine ⟨i+1,⟨h,fun j y hj hy=>?_⟩,by omega,Mv.none (by simp only [CvL]; simp [hq,hf,lMp])⟩
 by_cases e:j=i
 ·subst e; rw [hx] at hy; cases hy; exact hp
 ·exact hn j y (by omega) hy
theorem anyGr (G:FuncId) (caps:List D) (hcb:∀ d∈caps,Bl 0 d) (p:Gr→Bool) (l:List Gr) (hl:l.length≤9223372036854775806) (H:∀ x∈l,AP Tryz.prog G (.agg x.c :: caps) (.b (p x))):AP Tryz.prog 63 [Grs l,.fn G caps] (.b (l.any p)):=by
 refine AC.lbody hT hm Tryz.func63 f63_nm f63_lc f63_res f63_nt ?_
 simp only [go_sem,iEq,iLE,iLT,iTN]
 refine (idxGr G caps hcb p l hl H).pv ⟨.same (Grs_bl l),.same (.fn hcb),trivial⟩ ?_
 simp only [go_sem,iEq,iLE,iLT,iTN]
 exact Fin.v (by rw [idxI_nn])
theorem str_eqb (a b:ByteArray):(a.data.toList == b.data.toList)=decide (a=b):=by
 by_cases h:a=b
 ·subst h; simp
 ·have:a.data.toList≠b.data.toList:=fun e=>h (ByteArray.ext (Array.toList_inj.1 e))
  rw [beq_eq_false_iff_ne.2 this,decide_eq_false h]
set_option maxHeartbeats 1000000 in
theorem ixStr (l:List ByteArray) (s:ByteArray) (hl:l.length≤9223372036854775806):AP Tryz.prog 122 [Strs l,.s s] (.i (idxI (fun x=>decide (s=x)) l)):=by
 have hq:∀ om (F:Nat→Bool) (ks:List (Option Nat)),Cv om F ks (Strs l) (Strs l):=fun om F ks=>.same (Strs_bl l)
 refine AC.lbody hT hm Tryz.func122 f122_nm f122_lc f122_res f122_nt ?_
 simp only [go_sem,iEq,iLE,iLT,iTN,lMp]
 refine xl_loopM hT hm (fun i:Nat=>⟨f122_i7 (Strs l) (.s s) (.i l.length) (.i i),[]⟩)
  (fun i=>i≤l.length∧∀ j x,j<i→l[j]? = some x→decide (s=x)=false) (fun i=>l.length - i) 0 ⟨zc _,fun j x h=>absurd h (za _)⟩ (Mv.none (by simp only [f122_i7,CvL]; simp [hq])) ?_
 rintro i ⟨hi,hn⟩
 simp only [go_sem,iEq,iLE,iLT,iTN,lMp]
 by_cases h:i<l.length
 case neg=>
  simp only [go_sem,iEq,iLE,iLT,iTN,h,lMp]
  exact Fin.v (by rw [idx_none fun j x hj=>hn j x (by have:=(List.getElem?_eq_some_iff.1 hj).1; omega) hj])
 obtain ⟨x,hx⟩:=get_ex h
 simp only [go_sem,iEq,iLE,iLT,iTN,h,hx,lMp,str_eqb]
 cases hp:decide (s=x)
 case true=>
  simp only [go_sem,iEq,iLE,iLT,iTN]
  exact Fin.v (by rw [idx_some (p:=fun x=>decide (s=x)) hx hp hn])
 simp only [go_sem,iEq,iLE,iLT,iTN]
 rw [wrap_succ i (by omega)]
 refine ⟨i+1,⟨h,fun j y hj hy=>?_⟩,by omega,Mv.none (by simp only [CvL]; simp [hq])⟩
 by_cases e:j=i
 ·subst e; rw [hx] at hy; cases hy; exact hp
 ·exact hn j y (by omega) hy
theorem hasStr (l:List ByteArray) (s:ByteArray) (hl:l.length≤9223372036854775806):AP Tryz.prog 96 [Strs l,.s s] (.b (l.any fun x=>decide (s=x))):=by
 refine AC.lbody hT hm Tryz.func96 f96_nm f96_lc f96_res f96_nt ?_
 simp only [go_sem,iEq,iLE,iLT,iTN]
 refine (ixStr l s hl).pv ⟨.same (Strs_bl l),.v,trivial⟩ ?_
 simp only [go_sem,iEq,iLE,iLT,iTN]
 exact Fin.v (by rw [idxI_nn])
end Go.Proofs.YtbmedfjmccnclaaGreat.W
set_option maxRecDepth 100000
namespace Go.Proofs.YtbmedfjmccnclaaGreat.W
open Go Go.Proofs Go.Proofs.YtbmedfjmccnclaaGreat.AWP
open Int renaming reduceEq→iEq,reduceLE→iLE,reduceLT→iLT,reduceToNat→iTN
open List renaming length_map→lMp
attribute [local irreducible] xl hide aop aops aopQ qops guardP condP
theorem idxW (s:ByteArray) (c:UInt8) (w:World):Calls Tryz.prog 135 #[.string s,.int .u8 c.toNat] w fun e w'=>e=.returned (.int .i64 (ixS c s))∧w'=w:=by
 go_enter Tryz.func135,Tryz.ntmps135
 go_wp2
 rw [run_callFunc_extern Tryz.func156 (by kernel_rfl) (by kernel_rfl) (by kernel_rfl) (e:=Extern.BytealgIndexByte.indexByte) (by kernel_rfl)]
 rw [Lib.run_indexByteString]
 simp only [Result.andThen]
 rw [Oper.upon_value]
 go_wp2
 go_ret
 refine ⟨?_,rfl⟩
 rw [ixS_lib]
 rfl
theorem idx1 (s:ByteArray) (c:UInt8):AP Tryz.prog 135 [.s s,.y c] (.i (ixS c s)):=
 AO.of_calls (vs:=[.string s,.int .u8 c.toNat]) (by kernel_rfl) fun w=>idxW s c w
theorem idx2 (s:ByteArray) (c:UInt8):AP Tryz.prog 119 [.s s,.y c] (.i (ixS c s)):=by
 refine AC.lbody hT hm Tryz.func119 f119_nm f119_lc f119_res f119_nt ?_
 simp only [go_sem,iEq,iLE,iLT,iTN]
 refine (idx1 s c).pv ⟨.v,.v,trivial⟩ ?_
 simp only [go_sem,iEq,iLE,iLT,iTN]
 exact Fin.v rfl
def sufB (c:UInt8) (s:ByteArray):Bool:=decide (1≤s.size) && ((s.extract (s.size - 1) s.size).data.toList == [c])
def csuf (c:UInt8) (s:ByteArray):ByteArray × Bool:=if sufB c s=true then (s.extract 0 (s.size - 1),true) else (s,false)
abbrev csufD (x:ByteArray × Bool):D:=.tup [.s x.1,.b x.2]
theorem csufD_bl (x:ByteArray × Bool):Bl 0 (csufD x):=.tup (by simp)
theorem hasSuf (s:ByteArray) (c:UInt8) (hs:s.size≤1000000):AP Tryz.prog 136 [.s s,.s ⟨#[c]⟩] (.b (sufB c s)):=by
 have h1:(⟨#[c]⟩:ByteArray).size=1:=rfl
 have hl:(⟨#[c]⟩:ByteArray).data.toList=[c]:=rfl
 unfold sufB
 refine AC.lbody hT hm Tryz.func136 f136_nm f136_lc f136_res f136_nt ?_
 simp only [go_sem,iEq,iLE,iLT,iTN,h1]
 by_cases h:1≤s.size
 ·have hw:IntKind.i64.wrap ((s.size:Int) - ((1:Nat):Int))=((s.size - 1:Nat):Int):=by rw [wrap_int _ (by omega) (by omega)]; omega
  have h2:s.size - 1≤s.size:=by omega
  simp only [go_sem,iEq,iLE,iLT,iTN,h,hw,h2,Nat.le_refl,Nat.zero_le,hl,Int.natCast_nonneg]
  exact Fin.v rfl
 ·simp only [go_sem,iEq,iLE,iLT,iTN,h]
  exact Fin.v rfl
theorem csuf1 (s:ByteArray) (c:UInt8) (hs:s.size≤1000000):AP Tryz.prog 120 [.s s,.s ⟨#[c]⟩] (csufD (csuf c s)):=by
 have hH:=hasSuf s c hs
 have h1:(⟨#[c]⟩:ByteArray).size=1:=rfl
 unfold csuf
 refine AC.lbody hT hm Tryz.func120 f120_nm f120_lc f120_res f120_nt ?_
 simp only [go_sem,iEq,iLE,iLT,iTN]
 refine hH.pv ⟨.v,.v,trivial⟩ ?_
 cases hb:sufB c s with
 | false=>
  simp only [go_sem,iEq,iLE,iLT,iTN,hb]
  exact Fin.ret (.tupL ⟨.v,.v,trivial⟩)
 | true=>
  have h:1≤s.size:=by
   unfold sufB at hb
   simp only [Bool.and_eq_true,decide_eq_true_eq] at hb
   exact hb.1
  have hw:IntKind.i64.wrap ((s.size:Int) - ((1:Nat):Int))=((s.size - 1:Nat):Int):=by rw [wrap_int _ (by omega) (by omega)]; omega
  have h2:s.size - 1≤s.size:=by omega
  simp only [go_sem,iEq,iLE,iLT,iTN,hb,h1,hw,h2,Nat.zero_le,Nat.le_refl,Int.natCast_nonneg]
  exact Fin.ret (.tupL ⟨.v,.v,trivial⟩)
theorem csuf2 (s:ByteArray) (c:UInt8) (hs:s.size≤1000000):AP Tryz.prog 94 [.s s,.s ⟨#[c]⟩] (csufD (csuf c s)):=by
 refine AC.lbody hT hm Tryz.func94 f94_nm f94_lc f94_res f94_nt ?_
 simp only [go_sem,iEq,iLE,iLT,iTN]
 refine (csuf1 s c hs).pd ⟨.v,.v,trivial⟩ (csufD_bl _) ?_
 simp only [go_sem,iEq,iLE,iLT,iTN]
 exact Fin.ret (.tupL ⟨.v,.v,trivial⟩)
end Go.Proofs.YtbmedfjmccnclaaGreat.W
set_option maxRecDepth 100000
namespace Go.Proofs.YtbmedfjmccnclaaGreat.W
open Go Go.Proofs Go.Proofs.YtbmedfjmccnclaaGreat.AWP
open Int renaming reduceEq→iEq,reduceLE→iLE,reduceLT→iLT,reduceToNat→iTN
open List renaming length_map→lMp
open _root_.Bool renaming eq_iff_iff → za
attribute [local irreducible] xl hide aop aops aopQ qops guardP condP
def okI (z:Bool) (C:Int):Bool:=(decide (97≤C) && decide (C≤122)) || (!z && (decide (C=95) || (decide (48≤C) && decide (C≤57))))
theorem okB_I (i n:Nat):okB i n=okI ((i:Int) == 0) n:=by
 unfold okB okI
 congr 1
 ·congr 1
  ·exact decide_eq_decide.2 (by omega)
  ·exact decide_eq_decide.2 (by omega)
 ·congr 1
  ·rw [za]; simp
  ·congr 1
   ·exact decide_eq_decide.2 (by omega)
   ·congr 1
    ·exact decide_eq_decide.2 (by omega)
    ·exact decide_eq_decide.2 (by omega)
theorem ba_len (s:ByteArray):s.data.toList.length=s.size:=Array.length_toList
set_option maxHeartbeats 1000000 in
theorem numName (s:ByteArray) (hs:s.size≤1000000):AP Tryz.prog 117 [.s s] (.b (nameB s)):=by
  have hln:=ba_len s
  unfold nameB
  refine AC.lbody hT hm Tryz.func117 f117_nm f117_lc f117_res f117_nt ?_
  simp only [go_sem,iEq,iLE,iLT,iTN]
  refine xl_loopM hT hm (fun i:Nat=>⟨f117_i7 (.s s) (.ref 0 0),[.it s i]⟩)
    (fun i=>i≤s.size∧nameL 0 s.data.toList=nameL i (s.data.toList.drop i)) (fun i=>s.size - i) 0 ⟨Nat.zero_le _,by rw [List.drop_zero]⟩ ?_ ?_
  · exact Mv.of [some 0] rfl ⟨.it rfl,trivial⟩ (by simp [f117_i7])
  rintro i ⟨hi,hinv⟩
  simp only [go_sem,iEq,iLE,iLT,iTN]
  by_cases h:i<s.size
  case neg=>
    have hd:s.data.toList.drop i=[]:=List.drop_eq_nil_of_le (by omega)
    rw [hinv,hd,nameL,Bool.true_and]
    by_cases p1:1≤s.size
    · have q1:(1:Int)≤s.size:=by omega
      by_cases p2:s.size≤30
      · have q2:(s.size:Int)≤30:=by omega
        simp only [go_sem,iEq,iLE,iLT,iTN,h,p1,p2,q1,q2]
        exact Fin.v rfl
      · have q2:¬ (s.size:Int)≤30:=by omega
        simp only [go_sem,iEq,iLE,iLT,iTN,h,p1,p2,q1,q2]
        exact Fin.v rfl
    · have q1:¬ (1:Int)≤s.size:=by omega
      simp only [go_sem,iEq,iLE,iLT,iTN,h,p1,q1]
      exact Fin.v (by simp)
  obtain ⟨b,hb⟩:=get_ex (l:=s.data.toList) (show i<s.data.toList.length by omega)
  have hstep:=nameL_drop _ _ _ hb
  rw [hstep] at hinv
  have hok:okB i b.toNat=okI ((i:Int) == 0) (Utf8.decode s i).1:=by
    by_cases hb1:b.toNat<128
    · rw [dec_lt h hb hb1,okB_I]
    · have:=dec_ge h hb hb1
      rw [okB_I]
      unfold okI
      rw [za]
      simp
      omega
  have hw:okI ((i:Int) == 0) (Utf8.decode s i).1=true→(Utf8.decode s i).2=1:=by
    intro h0
    by_cases hb1:b.toNat<128
    · rw [dec_lt h hb hb1]
    · have:=dec_ge h hb hb1
      unfold okI at h0
      simp at h0
      omega
  rw [hok] at hinv
  generalize (Utf8.decode s i).2=w at hw
  generalize ((Utf8.decode s i).1:Int)=C at hw hinv
  have no:okI ((i:Int) == 0) C=false→AWP.Fin [] [.it s (i+w)] (.ret (.v (.bool false))) (fun o' om'=>o'=.ret (.b (nameL 0 s.data.toList && (decide (1≤s.size) && decide (s.size≤30))))∧om'=[]):=fun h0=>by
    rw [hinv,h0]
    exact Fin.v (by simp)
  have yes:okI ((i:Int) == 0) C=true→w=1∧nameL 0 s.data.toList=nameL (i+1) (s.data.toList.drop (i+1)):=fun h0=>⟨hw h0,by rw [hinv,h0,Bool.true_and]⟩
  have hwi:=wrap_succ i (by omega)
  have z95:(C != 95) = !decide (C=95):=by rw [za]; simp
  clear hw
  by_cases a1:97≤C <;> by_cases a2:C≤122 <;> cases a3:((i:Int) == 0) <;> by_cases a4:C=95 <;> by_cases a5:C<48 <;> by_cases a6:57<C
  all_goals first
    | omega
    | (have h0:okI ((i:Int) == 0) C=false:=by
        unfold okI
        simp [a1,a2,a3,a4]
        try omega
       simp only [go_sem,iEq,iLE,iLT,iTN,h,a1,a2,z95,a3,a4,a5,a6,decide_true,decide_false,Bool.not_true,Bool.not_false]
       exact no h0)
    | (have h0:okI ((i:Int) == 0) C=true:=by
        unfold okI
        simp [a1,a2,a3,a4]
        try omega
       obtain ⟨rfl,h1⟩:=yes h0
       simp only [go_sem,iEq,iLE,iLT,iTN,h,a1,a2,z95,a3,a4,a5,a6,decide_true,decide_false,Bool.not_true,Bool.not_false]
       refine ⟨i+1,⟨h,h1⟩,by omega,?_⟩
       exact Mv.of [some 0] rfl ⟨.it rfl,trivial⟩ (by simp))
end Go.Proofs.YtbmedfjmccnclaaGreat.W
set_option maxRecDepth 100000
namespace Go.Proofs.YtbmedfjmccnclaaGreat.W
open Go Go.Proofs Go.Proofs.YtbmedfjmccnclaaGreat.AWP
open Int renaming reduceEq→iEq,reduceLE→iLE,reduceLT→iLT,reduceToNat→iTN
open List renaming length_map→lMp
open _root_.List renaming mem_of_getElem? → za
open _root_.Nat renaming zero_le → zb
attribute [local irreducible] xl hide aop aops aopQ qops guardP condP
abbrev cfOb (l:List Cf):Ob:=.slc 28 3 (l.map Cf.c)
theorem one_blC (x:Cf):Bl 0 (.sl 3 [x.c]):=.sl fun r hr d hd=>by
 rw [List.mem_singleton.1 hr] at hd; exact Cf.c_bl _ d hd
set_option maxHeartbeats 1000000 in
theorem cSizeL (l:List Cf) (hz:Cf.szs l≤1099511627776) (ih:∀ x∈l,AP Tryz.prog 88 [Cfs x.kids] (.i (Cf.szs x.kids:Nat))):AP Tryz.prog 88 [Cfs l] (.i (Cf.szs l:Nat)):=by
 have hq:∀ om (F:Nat→Bool) (ks:List (Option Nat)),Cv om F ks (Cfs l) (Cfs l):=fun om F ks=>.same (.sl (Cf.cs_bl l))
 have hl:=Cf.szs_len l
 refine AC.lbody hT hm Tryz.func88 f88_nm f88_lc f88_res f88_nt ?_
 simp only [go_sem,iEq,iLE,iLT,iTN,cfs_len]
 refine xl_loopM hT hm (fun i:Nat=>⟨f88_i7 (.i (l.length+Cf.szs (l.take i) - i:Nat)) (Cfs l) (.i l.length) (.i i),[]⟩)
  (fun i=>i≤l.length) (fun i=>l.length - i) 0 (zb _) (Mv.none (by simp only [f88_i7,CvL]; simp [hq,cfs_len,Cf.szs_nil])) ?_
 intro i hi
 have hle:i≤Cf.szs (l.take i):=by have:=Cf.szs_len (l.take i); rw [List.length_take] at this; omega
 simp only [go_sem,iEq,iLE,iLT,iTN,cfs_len]
 by_cases h:i<l.length
 case neg=>
  have ht:l.take i=l:=List.take_of_length_le (by omega)
  simp only [go_sem,iEq,iLE,iLT,iTN,h,cfs_len]
  rw [ht]
  exact Fin.v (by congr 1; omega)
 obtain ⟨x,hx⟩:=get_ex h
 have h1:=Cf.szs_take hx
 have h2:=Cf.szs_take_le l (i+1)
 have h3:=x.sz_kids
 have h4:i+1≤Cf.szs (l.take (i+1)):=by have:=Cf.szs_len (l.take (i+1)); rw [List.length_take] at this; omega
 have hwi:=wrap_succ i (by omega)
 have e:IntKind.i64.wrap (((l.length+Cf.szs (l.take i) - i:Nat):Int)+(Cf.szs x.kids:Nat))=((l.length+Cf.szs (l.take (i+1)) - (i+1):Nat):Int):=by
  rw [wrap_int _ (by omega) (by omega)]; omega
 simp only [go_sem,iEq,iLE,iLT,iTN,h,hx,cfs_len,Cf.put0,Cf.c_2,Cf.c_take]
 refine (ih x (za hx)).pv ⟨.same (.sl (Cf.cs_bl _)),trivial⟩ ?_
 simp only [go_sem,iEq,iLE,iLT,iTN,e]
 rw [hwi]
 exact ⟨i+1,h,by omega,Mv.none (by simp only [CvL]; simp [hq,cfs_len])⟩
theorem cSizeK (r:Cf):Cf.szs r.kids≤1099511627776→AP Tryz.prog 88 [Cfs r.kids] (.i (Cf.szs r.kids:Nat)):=by
 refine Cf.ind (p:=fun r=>Cf.szs r.kids≤1099511627776→AP Tryz.prog 88 [Cfs r.kids] (.i (Cf.szs r.kids:Nat))) ?_ r
 intro k n ks ih hz
 refine cSizeL ks hz fun x hx=>ih x hx ?_
 have:=Cf.szs_mem hx
 have h2:=x.sz_kids
 have hz:Cf.szs ks≤1099511627776:=hz
 omega
theorem cSize (l:List Cf) (hz:Cf.szs l≤1099511627776):AP Tryz.prog 88 [Cfs l] (.i (Cf.szs l:Nat)):=cSizeK (.mk 0 0 l) hz
theorem cSize1 (r:Cf) (hz:r.sz≤1099511627776):AP Tryz.prog 88 [.sl 3 [r.c]] (.i (r.sz:Nat)):=by
 have:=cSize [r] (by simpa [Cf.szs_cons,Cf.szs_nil] using hz)
 rw [Cf.szs_cons,Cf.szs_nil,Nat.add_zero] at this
 rwa [Cfs,Cf.cs_eq] at this
set_option maxHeartbeats 1000000 in
theorem rCount (most:Int) (x:Cf):AP Tryz.prog 37 [.agg x.c,.i most] (.i (x.cnt most)):=by
 refine Cf.ind (p:=fun x=>AP Tryz.prog 37 [.agg x.c,.i most] (.i (x.cnt most))) ?_ x
 intro k n ks ih
 refine AC.wf rfl fun hw=>?_
 have hlen:ks.length≤9223372036854775807:=by
  have:=Cf.ok_agg (hw _ (List.mem_cons_self ..))
  rw [Cf.Ok] at this
  exact this.2
 have hq:∀ om (F:Nat→Bool) (ls:List (Option Nat)),Cv om F ls (.pel (Cf.mk k n ks).c) (.pel (Cf.mk k n ks).c):=fun om F ls=>.same (Cf.pel_bl _)
 refine AC.lbody hT hm Tryz.func37 f37_nm f37_lc f37_res f37_nt ?_
 simp only [go_sem,cfs_len]
 refine xl_loopM hT hm (fun i:Nat × Int=>⟨f37_i9 (.i most) (.pel (Cf.mk k n ks).c) (.i i.2) (.i ks.length) (.i i.1),[]⟩)
  (fun i:Nat × Int=>i.1≤ks.length∧Cf.cnts most ks 1=Cf.cnts most (ks.drop i.1) i.2) (fun i=>ks.length - i.1) (0,1) ⟨zb _,rfl⟩ (Mv.none (by simp [f37_i9,Cf.c_mk,Cf.cs_eq])) ?_
 rintro ⟨i,t⟩ ⟨q1,q3⟩
 simp only at q1 q3
 simp only [go_sem,cfs_len]
 by_cases hi:i<ks.length
 ·obtain ⟨x,hxi⟩:=get_ex hi
  simp only [go_sem,hi,cfs_len]
  by_cases hm:most<t
  ·simp only [go_sem,hm]
   refine Fin.v ?_
   rw [Cf.cnt_mk,q3,drop_get hxi,Cf.cnts_cons,if_pos hm]
  ·simp only [go_sem,hm,hxi,cfs_len]
   refine (ih x (za hxi)).pv (by simp) ?_
   simp only [go_sem]
   refine ⟨(i+1,IntKind.wrap .i64 (t+x.cnt most)),⟨hi,?_⟩,by simp only; omega,?_⟩
   ·rw [q3,drop_get hxi,Cf.cnts_cons,if_neg hm]
   ·rw [wrap_succ i (by omega)]
    exact Mv.none (by simp [Cf.c_mk,Cf.cs_eq])
 ·simp only [go_sem,hi,cfs_len]
  refine Fin.v ?_
  rw [Cf.cnt_mk,q3,drop_end hi,Cf.cnts_nil]
def wide21B (x:Cf):Bool:=decide (60<x.cnt 60)
theorem rWide (x:Cf):AP Tryz.prog 12 [.agg x.c] (.b (wide21B x)):=by
 refine AC.lbody hT hm Tryz.func12 f12_nm f12_lc f12_res f12_nt ?_
 simp only [go_sem,iEq,iLE,iLT,iTN]
 refine (rCount 60 x).pv ⟨.same (Cf.d_bl _),.v,trivial⟩ ?_
 simp only [go_sem,iEq,iLE,iLT,iTN]
 exact Fin.v rfl
set_option maxHeartbeats 1000000 in
theorem rAllC (r:Cf):r.sz≤1099511627776→AP Tryz.prog 34 [.agg r.c] (Cfs r.all):=by
 refine Cf.ind (p:=fun r=>r.sz≤1099511627776→AP Tryz.prog 34 [.agg r.c] (Cfs r.all)) ?_ r
 intro k n ks ih hz
 rw [Cf.sz_mk] at hz
 have hlen:=Cf.szs_len ks
 have hh:=Cf.all_mk k n ks
 refine AC.lbody hT hm Tryz.func34 f34_nm f34_lc f34_res f34_nt ?_
 simp only [go_sem,iEq,iLE,iLT,iTN,cfs_len]
 refine xl_loopM hT hm (fun i:Nat=>⟨f34_i7 (.pel (Cf.mk k n ks).c) (.own 0) (.i ks.length) (.i i),[cfOb (Cf.mk k n ks :: Cf.alls (ks.take i))]⟩)
  (fun i=>i≤ks.length) (fun i=>ks.length - i) 0 (zb _) ?_ ?_
 ·refine Mv.of [some 0] rfl ⟨?_,trivial⟩ (by simp [f34_i7,Cf.c_mk,Cf.cs_eq])
  exact .slcS (by simp [Cf.c_mk,Cf.cs_eq,Cf.alls_nil]) (Cf.map_bl _)
 intro i hi
 simp only [go_sem,iEq,iLE,iLT,iTN,cfs_len]
 by_cases h:i<ks.length
 case neg=>
  have ht:ks.take i=ks:=List.take_of_length_le (by omega)
  simp only [go_sem,iEq,iLE,iLT,iTN,h,cfs_len]
  rw [ht,hh]
  exact Fin.ret (by rw [Cfs,Cf.cs_eq]; exact .frzS rfl rfl (Cf.map_bl _))
 obtain ⟨x,hx⟩:=get_ex h
 have hxm:=za hx
 have h1:=Cf.alls_take hx
 have h2:=Cf.szs_take hx
 have h3:=Cf.szs_take_le ks (i+1)
 have h4:=Cf.szs_mem hxm
 have h6:=Cf.alls_len (ks.take i)
 have h7:=x.all_len
 simp only [go_sem,iEq,iLE,iLT,iTN,h,hx,cfs_len]
 refine (ih x hxm (by omega)).pd ⟨.same (Cf.d_bl _),trivial⟩ (.sl (Cf.cs_bl _)) ?_
 simp only [go_sem,iEq,iLE,iLT,iTN,cfs_len,lMp]
 refine ⟨by omega,i+1,by omega,by omega,?_⟩
 rw [wrap_succ i (by omega),h1]
 refine Mv.of [some 1] rfl ⟨.slcS (by simp [Cf.c_mk,Cf.cs_eq]) (Cf.map_bl _),trivial⟩ (by simp [f34_i7,Cf.c_mk,Cf.cs_eq])
end Go.Proofs.YtbmedfjmccnclaaGreat.W
set_option maxRecDepth 100000
namespace Go.Proofs.YtbmedfjmccnclaaGreat.W
open Go Go.Proofs Go.Proofs.YtbmedfjmccnclaaGreat.AWP
open Int renaming reduceEq→iEq,reduceLE→iLE,reduceLT→iLT,reduceToNat→iTN
open List renaming length_map→lMp
open _root_.Bool renaming true_and → za, and_eq_true → zb, eq_iff_iff → zc
open _root_.Int renaming reduceBEq → zd
attribute [local irreducible] xl hide aop aops aopQ qops guardP condP
theorem pelG (g:Gr):∀ om (F:Nat→Bool) (ks:List (Option Nat)),Cv om F ks (.pel g.c) (.pel g.c):=fun om F ks=>.same (Gr.pel_bl g)
set_option maxHeartbeats 1000000 in
theorem cNodes1 (g:Gr) (c:Cf) (h:AP Tryz.prog 87 [.agg g.c,.agg c.c] (.b (c.may g.kinds.length g.defs.length))):AP Tryz.prog 111 [.agg c.c,.pel g.c] (.b (!c.may g.kinds.length g.defs.length)):=by
 refine AC.lbody hT hm Tryz.func111 f111_nm f111_lc f111_res f111_nt ?_
 simp only [go_sem,iEq,iLE,iLT,iTN,gr_take,gr_c_len]
 refine h.pv ⟨.same (Gr.d_bl _),.same (Cf.d_bl _),trivial⟩ ?_
 simp only [go_sem,iEq,iLE,iLT,iTN]
 exact Fin.v rfl
theorem may_tail (a b:Nat) (k n:Int) (ks:List Cf) (most kk:Nat) (h:nodeOk a b (.mk k n ks)=(decide (0≤n) && (decide (n<most) && decide (ks.length=kk)))):(Cf.mk k n ks).may a b=(decide (0≤n) && (decide (n<most) && (decide (ks.length=kk) && Cf.mays a b ks))):=by
 rw [Cf.may_mk,h]; simp only [Bool.and_assoc]
theorem notAny (a b:Nat) (ks:List Cf):(!ks.any fun x=>!x.may a b)=Cf.mays a b ks:=by
 rw [Cf.mays_all]
 induction ks with
 | nil=>rfl
 | cons x l ih=>rw [List.any_cons,List.all_cons,Bool.not_or,Bool.not_not,ih]
set_option maxHeartbeats 4000000 in
theorem cNodes (g:Gr) (c:Cf):AP Tryz.prog 87 [.agg g.c,.agg c.c] (.b (c.may g.kinds.length g.defs.length)):=by
 refine Cf.ind (p:=fun c=>AP Tryz.prog 87 [.agg g.c,.agg c.c] (.b (c.may g.kinds.length g.defs.length))) ?_ c
 intro k n ks ih
 refine AC.wf rfl fun hw=>?_
 have hlen:ks.length≤9223372036854775807:=by
  have:=Cf.ok_agg (r:=.mk k n ks) (hw _ (by simp))
  rw [Cf.Ok] at this
  exact this.2
 have hpel:∀ d∈[D.pel g.c],Bl 0 d:=fun d hd=>by rw [List.mem_singleton.1 hd]; exact Gr.pel_bl g
 by_cases hk1:k=1
 ·subst hk1
  have ht:=may_tail g.kinds.length g.defs.length 1 n ks 1 0 (by rw [nodeOk_mk]; rw [if_pos (.inl rfl),zc]; simp only [zb,decide_eq_true_eq]; omega)
  rw [ht]
  refine AC.lbody hT hm Tryz.func87 f87_nm f87_lc f87_res f87_nt ?_
  simp only [go_sem,iEq,iLE,iLT,iTN,zd,lMp]
  by_cases h0:(0:Int)≤n
  case neg=>
   simp only [go_sem,iEq,iLE,iLT,iTN,h0,lMp]
   exact Fin.v (by first | rfl | (rw [decide_eq_false h0]; rfl))
  rw [decide_eq_true h0,za]
  by_cases h1:n<((1:Nat):Int)
  case neg=>
   have h1n:¬ n<1:=by omega
   simp only [go_sem,iEq,iLE,iLT,iTN,h0,h1,h1n,lMp]
   exact Fin.v (by first | rfl | (rw [decide_eq_false h1]; rfl))
  rw [decide_eq_true h1,za]
  have h1n:n<1:=by omega
  by_cases h2:ks.length=0
  case neg=>
   have h2':((ks.length:Int) == 0)=false:=by rw [beq_eq_false_iff_ne]; omega
   simp only [go_sem,iEq,iLE,iLT,iTN,h0,h1,h1n,h2',cfs_len,lMp]
   exact Fin.v (by first | rfl | (rw [decide_eq_false h2]; rfl))
  rw [decide_eq_true h2,za]
  have h2':((ks.length:Int) == 0)=true:=by rw [beq_iff_eq]; omega
  simp only [go_sem,iEq,iLE,iLT,iTN,h0,h1,h1n,h2',cfs_len,lMp]
  refine (anyCf 111 [.pel g.c] hpel (fun x=>!x.may g.kinds.length g.defs.length) ks (by omega) fun x hx=>cNodes1 g x (ih x hx)).pv ⟨.eq (by rw [Cfs,Cf.cs_eq]) (Cfs_bl ks),.same (.fn hpel),trivial⟩ ?_
  simp only [go_sem,iEq,iLE,iLT,iTN]
  exact Fin.v (by rw [← notAny])
 by_cases hk2:k=2
 ·subst hk2
  have ht:=may_tail g.kinds.length g.defs.length 2 n ks 1 0 (by rw [nodeOk_mk]; rw [if_pos (.inr rfl),zc]; simp only [zb,decide_eq_true_eq]; omega)
  rw [ht]
  refine AC.lbody hT hm Tryz.func87 f87_nm f87_lc f87_res f87_nt ?_
  simp only [go_sem,iEq,iLE,iLT,iTN,zd,lMp]
  by_cases h0:(0:Int)≤n
  case neg=>
   simp only [go_sem,iEq,iLE,iLT,iTN,h0,lMp]
   exact Fin.v (by first | rfl | (rw [decide_eq_false h0]; rfl))
  rw [decide_eq_true h0,za]
  by_cases h1:n<((1:Nat):Int)
  case neg=>
   have h1n:¬ n<1:=by omega
   simp only [go_sem,iEq,iLE,iLT,iTN,h0,h1,h1n,lMp]
   exact Fin.v (by first | rfl | (rw [decide_eq_false h1]; rfl))
  rw [decide_eq_true h1,za]
  have h1n:n<1:=by omega
  by_cases h2:ks.length=0
  case neg=>
   have h2':((ks.length:Int) == 0)=false:=by rw [beq_eq_false_iff_ne]; omega
   simp only [go_sem,iEq,iLE,iLT,iTN,h0,h1,h1n,h2',cfs_len,lMp]
   exact Fin.v (by first | rfl | (rw [decide_eq_false h2]; rfl))
  rw [decide_eq_true h2,za]
  have h2':((ks.length:Int) == 0)=true:=by rw [beq_iff_eq]; omega
  simp only [go_sem,iEq,iLE,iLT,iTN,h0,h1,h1n,h2',cfs_len,lMp]
  refine (anyCf 111 [.pel g.c] hpel (fun x=>!x.may g.kinds.length g.defs.length) ks (by omega) fun x hx=>cNodes1 g x (ih x hx)).pv ⟨.eq (by rw [Cfs,Cf.cs_eq]) (Cfs_bl ks),.same (.fn hpel),trivial⟩ ?_
  simp only [go_sem,iEq,iLE,iLT,iTN]
  exact Fin.v (by rw [← notAny])
 by_cases hk3:k=3
 ·subst hk3
  have ht:=may_tail g.kinds.length g.defs.length 3 n ks g.kinds.length 0 (by rw [nodeOk_mk]; rw [if_neg (by omega),if_pos rfl,zc]; simp only [zb,decide_eq_true_eq]; omega)
  rw [ht]
  refine AC.lbody hT hm Tryz.func87 f87_nm f87_lc f87_res f87_nt ?_
  simp only [go_sem,iEq,iLE,iLT,iTN,zd,lMp]
  by_cases h0:(0:Int)≤n
  case neg=>
   simp only [go_sem,iEq,iLE,iLT,iTN,h0,lMp]
   exact Fin.v (by first | rfl | (rw [decide_eq_false h0]; rfl))
  rw [decide_eq_true h0,za]
  by_cases h1:n<((g.kinds.length:Nat):Int)
  case neg=>
   have h1n:True:=trivial
   simp only [go_sem,iEq,iLE,iLT,iTN,h0,h1,h1n,lMp]
   exact Fin.v (by first | rfl | (rw [decide_eq_false h1]; rfl))
  rw [decide_eq_true h1,za]
  have h1n:True:=trivial
  by_cases h2:ks.length=0
  case neg=>
   have h2':((ks.length:Int) == 0)=false:=by rw [beq_eq_false_iff_ne]; omega
   simp only [go_sem,iEq,iLE,iLT,iTN,h0,h1,h1n,h2',cfs_len,lMp]
   exact Fin.v (by first | rfl | (rw [decide_eq_false h2]; rfl))
  rw [decide_eq_true h2,za]
  have h2':((ks.length:Int) == 0)=true:=by rw [beq_iff_eq]; omega
  simp only [go_sem,iEq,iLE,iLT,iTN,h0,h1,h1n,h2',cfs_len,lMp]
  refine (anyCf 111 [.pel g.c] hpel (fun x=>!x.may g.kinds.length g.defs.length) ks (by omega) fun x hx=>cNodes1 g x (ih x hx)).pv ⟨.eq (by rw [Cfs,Cf.cs_eq]) (Cfs_bl ks),.same (.fn hpel),trivial⟩ ?_
  simp only [go_sem,iEq,iLE,iLT,iTN]
  exact Fin.v (by rw [← notAny])
 by_cases hk6:k=6
 ·subst hk6
  have ht:=may_tail g.kinds.length g.defs.length 6 n ks g.defs.length 0 (by rw [nodeOk_mk]; rw [if_neg (by omega),if_neg (by omega),if_pos rfl,zc]; simp only [zb,decide_eq_true_eq]; omega)
  rw [ht]
  refine AC.lbody hT hm Tryz.func87 f87_nm f87_lc f87_res f87_nt ?_
  simp only [go_sem,iEq,iLE,iLT,iTN,zd,lMp]
  by_cases h0:(0:Int)≤n
  case neg=>
   simp only [go_sem,iEq,iLE,iLT,iTN,h0,lMp]
   exact Fin.v (by first | rfl | (rw [decide_eq_false h0]; rfl))
  rw [decide_eq_true h0,za]
  by_cases h1:n<((g.defs.length:Nat):Int)
  case neg=>
   have h1n:True:=trivial
   simp only [go_sem,iEq,iLE,iLT,iTN,h0,h1,h1n,lMp]
   exact Fin.v (by first | rfl | (rw [decide_eq_false h1]; rfl))
  rw [decide_eq_true h1,za]
  have h1n:True:=trivial
  by_cases h2:ks.length=0
  case neg=>
   have h2':((ks.length:Int) == 0)=false:=by rw [beq_eq_false_iff_ne]; omega
   simp only [go_sem,iEq,iLE,iLT,iTN,h0,h1,h1n,h2',cfs_len,lMp]
   exact Fin.v (by first | rfl | (rw [decide_eq_false h2]; rfl))
  rw [decide_eq_true h2,za]
  have h2':((ks.length:Int) == 0)=true:=by rw [beq_iff_eq]; omega
  simp only [go_sem,iEq,iLE,iLT,iTN,h0,h1,h1n,h2',cfs_len,lMp]
  refine (anyCf 111 [.pel g.c] hpel (fun x=>!x.may g.kinds.length g.defs.length) ks (by omega) fun x hx=>cNodes1 g x (ih x hx)).pv ⟨.eq (by rw [Cfs,Cf.cs_eq]) (Cfs_bl ks),.same (.fn hpel),trivial⟩ ?_
  simp only [go_sem,iEq,iLE,iLT,iTN]
  exact Fin.v (by rw [← notAny])
 by_cases hk4:k=4
 ·subst hk4
  have ht:=may_tail g.kinds.length g.defs.length 4 n ks 1 2 (by rw [nodeOk_mk]; rw [if_neg (by omega),if_neg (by omega),if_neg (by omega),if_pos (by omega),zc]; simp only [zb,decide_eq_true_eq]; omega)
  rw [ht]
  refine AC.lbody hT hm Tryz.func87 f87_nm f87_lc f87_res f87_nt ?_
  simp only [go_sem,iEq,iLE,iLT,iTN,zd,lMp]
  by_cases h0:(0:Int)≤n
  case neg=>
   simp only [go_sem,iEq,iLE,iLT,iTN,h0,lMp]
   exact Fin.v (by first | rfl | (rw [decide_eq_false h0]; rfl))
  rw [decide_eq_true h0,za]
  by_cases h1:n<((1:Nat):Int)
  case neg=>
   have h1n:¬ n<1:=by omega
   simp only [go_sem,iEq,iLE,iLT,iTN,h0,h1,h1n,lMp]
   exact Fin.v (by first | rfl | (rw [decide_eq_false h1]; rfl))
  rw [decide_eq_true h1,za]
  have h1n:n<1:=by omega
  by_cases h2:ks.length=2
  case neg=>
   have h2':((ks.length:Int) == 2)=false:=by rw [beq_eq_false_iff_ne]; omega
   simp only [go_sem,iEq,iLE,iLT,iTN,h0,h1,h1n,h2',cfs_len,lMp]
   exact Fin.v (by first | rfl | (rw [decide_eq_false h2]; rfl))
  rw [decide_eq_true h2,za]
  have h2':((ks.length:Int) == 2)=true:=by rw [beq_iff_eq]; omega
  simp only [go_sem,iEq,iLE,iLT,iTN,h0,h1,h1n,h2',cfs_len,lMp]
  refine (anyCf 111 [.pel g.c] hpel (fun x=>!x.may g.kinds.length g.defs.length) ks (by omega) fun x hx=>cNodes1 g x (ih x hx)).pv ⟨.eq (by rw [Cfs,Cf.cs_eq]) (Cfs_bl ks),.same (.fn hpel),trivial⟩ ?_
  simp only [go_sem,iEq,iLE,iLT,iTN]
  exact Fin.v (by rw [← notAny])
 by_cases hk5:k=5
 ·subst hk5
  have ht:=may_tail g.kinds.length g.defs.length 5 n ks 1 2 (by rw [nodeOk_mk]; rw [if_neg (by omega),if_neg (by omega),if_neg (by omega),if_pos (by omega),zc]; simp only [zb,decide_eq_true_eq]; omega)
  rw [ht]
  refine AC.lbody hT hm Tryz.func87 f87_nm f87_lc f87_res f87_nt ?_
  simp only [go_sem,iEq,iLE,iLT,iTN,zd,lMp]
  by_cases h0:(0:Int)≤n
  case neg=>
   simp only [go_sem,iEq,iLE,iLT,iTN,h0,lMp]
   exact Fin.v (by first | rfl | (rw [decide_eq_false h0]; rfl))
  rw [decide_eq_true h0,za]
  by_cases h1:n<((1:Nat):Int)
  case neg=>
   have h1n:¬ n<1:=by omega
   simp only [go_sem,iEq,iLE,iLT,iTN,h0,h1,h1n,lMp]
   exact Fin.v (by first | rfl | (rw [decide_eq_false h1]; rfl))
  rw [decide_eq_true h1,za]
  have h1n:n<1:=by omega
  by_cases h2:ks.length=2
  case neg=>
   have h2':((ks.length:Int) == 2)=false:=by rw [beq_eq_false_iff_ne]; omega
   simp only [go_sem,iEq,iLE,iLT,iTN,h0,h1,h1n,h2',cfs_len,lMp]
   exact Fin.v (by first | rfl | (rw [decide_eq_false h2]; rfl))
  rw [decide_eq_true h2,za]
  have h2':((ks.length:Int) == 2)=true:=by rw [beq_iff_eq]; omega
  simp only [go_sem,iEq,iLE,iLT,iTN,h0,h1,h1n,h2',cfs_len,lMp]
  refine (anyCf 111 [.pel g.c] hpel (fun x=>!x.may g.kinds.length g.defs.length) ks (by omega) fun x hx=>cNodes1 g x (ih x hx)).pv ⟨.eq (by rw [Cfs,Cf.cs_eq]) (Cfs_bl ks),.same (.fn hpel),trivial⟩ ?_
  simp only [go_sem,iEq,iLE,iLT,iTN]
  exact Fin.v (by rw [← notAny])
 have ht:(Cf.mk k n ks).may g.kinds.length g.defs.length=false:=by
  rw [Cf.may_mk]
  rw [nodeOk_mk]
  rw [if_neg (by omega),if_neg hk3,if_neg hk6,if_neg (by omega)]; rfl
 rw [ht]
 have c1:(k == 1)=false:=by simp [hk1]
 have c2:(k == 2)=false:=by simp [hk2]
 have c3:(k == 3)=false:=by simp [hk3]
 have c4:(k == 4)=false:=by simp [hk4]
 have c5:(k == 5)=false:=by simp [hk5]
 have c6:(k == 6)=false:=by simp [hk6]
 refine AC.lbody hT hm Tryz.func87 f87_nm f87_lc f87_res f87_nt ?_
 simp only [go_sem,iEq,iLE,iLT,iTN,c1,c2,c3,c4,c5,c6]
 exact Fin.v rfl
end Go.Proofs.YtbmedfjmccnclaaGreat.W
set_option maxRecDepth 100000
namespace Go.Proofs.YtbmedfjmccnclaaGreat.W
open Go Go.Proofs Go.Proofs.YtbmedfjmccnclaaGreat.AWP
open Int renaming reduceEq→iEq,reduceLE→iLE,reduceLT→iLT,reduceToNat→iTN
open List renaming length_map→lMp
open _root_.Bool renaming and_eq_true → za
open _root_.Nat renaming zero_le → zb
attribute [local irreducible] xl hide aop aops aopQ qops guardP condP
set_option maxHeartbeats 1000000 in
theorem rIn (l:List ByteArray) (s:ByteArray):AP Tryz.prog 70 [Strs l,.s s] (.b (l.any fun y=>decide (y=s))):=by
 refine AC.wf rfl fun hw=>?_
 have hl:l.length≤9223372036854775807:=by
  have:=(hw _ (List.mem_cons_self ..)).sl_len
  simpa using this
 have hq:∀ om (F:Nat→Bool) (ks:List (Option Nat)),Cv om F ks (Strs l) (Strs l):=fun om F ks=>.same (Strs_bl l)
 refine AC.lbody hT hm Tryz.func70 f70_nm f70_lc f70_res f70_nt ?_
 simp only [go_sem,iEq,iLE,iLT,iTN,lMp]
 refine xl_loopM hT hm (fun i:Nat=>⟨f70_i7 (Strs l) (.s s) (.i l.length) (.i i),[]⟩)
  (fun i=>i≤l.length∧(l.any fun y=>decide (y=s))=(l.drop i).any fun y=>decide (y=s)) (fun i=>l.length - i) 0 ⟨zb _,rfl⟩ (Mv.none (by simp only [f70_i7,CvL]; simp [hq])) ?_
 rintro i ⟨hi,hn⟩
 simp only [go_sem,iEq,iLE,iLT,iTN,lMp]
 by_cases h:i<l.length
 case neg=>
  simp only [go_sem,iEq,iLE,iLT,iTN,h,lMp]
  exact Fin.v (by rw [hn,drop_end h]; rfl)
 obtain ⟨x,hx⟩:=get_ex h
 have hst:(l.drop i).any (fun y=>decide (y=s))=(decide (x=s) || (l.drop (i+1)).any fun y=>decide (y=s)):=by rw [drop_get hx,List.any_cons]
 simp only [go_sem,iEq,iLE,iLT,iTN,h,hx,lMp,str_eqb]
 cases hp:decide (x=s)
 case true=>
  simp only [go_sem,iEq,iLE,iLT,iTN]
  exact Fin.v (by rw [hn,hst,hp]; rfl)
 simp only [go_sem,iEq,iLE,iLT,iTN]
 rw [wrap_succ i (by omega)]
 exact ⟨i+1,⟨h,by rw [hn,hst,hp]; rfl⟩,by omega,Mv.none (by simp only [CvL]; simp [hq])⟩
theorem okB_zero (n:Nat):okB 0 n=(decide (97≤n) && decide (n≤122)):=by simp [okB]
theorem nameL_succ:∀ (l:List UInt8) (i j:Nat),0<i→0<j→nameL i l=nameL j l
 | [],_,_,_,_=>rfl
 | b :: l,i,j,hi,hj=>by
  rw [nameL,nameL,nameL_succ l (i+1) (j+1) (by omega) (by omega)]
  have:okB i b.toNat=okB j b.toNat:=by unfold okB; rw [decide_eq_true (show i≠0 by omega),decide_eq_true (show j≠0 by omega)]
  rw [this]
def letB (n:Nat):Bool:=((decide (97≤n) && decide (n≤122)) || (decide (48≤n) && decide (n≤57))) || decide (n=95)
theorem okB_letB {i:Nat} (hi:0<i) (n:Nat):okB i n=letB n:=by
 unfold okB letB
 rw [decide_eq_true (show i≠0 by omega),Bool.true_and,Bool.or_assoc,Bool.or_comm (decide (n=95))]
theorem letB_first {n:Nat} (h:(decide (97≤n) && decide (n≤122))=true):letB n=true:=by unfold letB; rw [h]; rfl
theorem rest_eq (s:ByteArray) {b:UInt8} (hb:s.data.toList[0]? = some b) (hf:(decide (97≤b.toNat) && decide (b.toNat≤122))=true):nameL 0 s.data.toList=nameL 1 s.data.toList:=by
 generalize s.data.toList=l at hb
 cases l with
 | nil=>simp at hb
 | cons c l=>
  simp at hb
  subst hb
  rw [nameL,nameL,okB_zero,hf,okB_letB (by omega),letB_first hf,nameL_succ l 1 2 (by omega) (by omega)]
theorem nm0_false (s:ByteArray) {b:UInt8} (hb:s.data.toList[0]? = some b) (hf:¬ (97≤b.toNat∧b.toNat≤122)):nameL 0 s.data.toList=false:=by
 generalize s.data.toList=l at hb
 cases l with
 | nil=>simp at hb
 | cons c l=>
  simp at hb
  subst hb
  have:(decide (97≤c.toNat) && decide (c.toNat≤122))=false:=by
   rw [Bool.eq_false_iff]; simp only [ne_eq,za,decide_eq_true_eq]; exact hf
  rw [nameL,okB_zero,this]; rfl
theorem nm_drop (s:ByteArray) {i:Nat} {b:UInt8} (hb:s.data.toList[i]? = some b):nameL 1 (s.data.toList.drop i)=(letB b.toNat && nameL 1 (s.data.toList.drop (i+1))):=by
 rw [drop_get hb,nameL,okB_letB (by omega),nameL_succ _ 2 1 (by omega) (by omega)]
set_option maxHeartbeats 4000000 in
theorem rName (s:ByteArray):AP Tryz.prog 69 [.s s] (.b (nameB s)):=by
 refine AC.lbody hT hm Tryz.func69 f69_nm f69_lc f69_res f69_nt ?_
 simp only [go_sem,iEq,iLE,iLT,iTN]
 unfold nameB
 by_cases h1:(s.size:Int)<1
 ·simp only [go_sem,iEq,iLE,iLT,iTN,h1]
  exact Fin.v (by rw [decide_eq_false (show ¬ 1≤s.size by omega)]; simp)
 by_cases h2:(30:Int)<s.size
 ·simp only [go_sem,iEq,iLE,iLT,iTN,h1,h2]
  exact Fin.v (by rw [decide_eq_false (show ¬ s.size≤30 by omega)]; simp)
 have hz:0<s.size:=by omega
 obtain ⟨b,hb⟩:=get_lt hz
 have hb':s.data.toList[0]? = some b:=by rw [Array.getElem?_toList]; exact hb
 rw [decide_eq_true (show 1≤s.size by omega),decide_eq_true (show s.size≤30 by omega),Bool.and_true]
 by_cases h3:(b.toNat:Int)<97
 ·simp only [go_sem,iEq,iLE,iLT,iTN,h1,h2,hb,h3]
  exact Fin.v (by rw [nm0_false s hb' (by omega)]; rfl)
 by_cases h4:(122:Int)<b.toNat
 ·simp only [go_sem,iEq,iLE,iLT,iTN,h1,h2,hb,h3,h4]
  exact Fin.v (by rw [nm0_false s hb' (by omega)]; rfl)
 rw [rest_eq s hb' (by simp only [za,decide_eq_true_eq]; omega),Bool.and_true]
 simp only [go_sem,iEq,iLE,iLT,iTN,h1,h2,hb,h3,h4]
 refine xl_loopM hT hm (fun i:Nat=>⟨f69_i9 (.s s) (.i i),[]⟩)
  (fun i=>i≤s.size∧nameL 1 s.data.toList=nameL 1 (s.data.toList.drop i)) (fun i=>s.size - i) 0 ⟨zb _,rfl⟩ (Mv.none (by simp [f69_i9])) ?_
 rintro i ⟨hi,hn⟩
 simp only [go_sem,iEq,iLE,iLT,iTN]
 by_cases h:i<s.size
 case neg=>
  simp only [go_sem,iEq,iLE,iLT,iTN,h]
  exact Fin.v (by rw [hn,List.drop_of_length_le (by rw [Array.length_toList]; exact Nat.le_of_not_lt h)]; rfl)
 obtain ⟨c,hc⟩:=get_lt h
 have hst:=nm_drop s (i:=i) (b:=c) (by rw [Array.getElem?_toList]; exact hc)
 have hwi:=wrap_succ i (by omega)
 have go:letB c.toNat=true→∃ i',(i'≤s.size∧nameL 1 s.data.toList=nameL 1 (s.data.toList.drop i'))∧s.size - i'<s.size - i∧i'=i+1:=fun hl=>⟨i+1,⟨h,by rw [hn,hst,hl]; rfl⟩,by omega,rfl⟩
 by_cases k1:(97:Int)≤c.toNat
 ·by_cases k2:(c.toNat:Int)≤122
  ·obtain ⟨i',q1,q2,rfl⟩:=go (letB_first (by simp only [za,decide_eq_true_eq]; omega))
   simp only [go_sem,iEq,iLE,iLT,iTN,h,hc,k1,k2,hwi]
   exact ⟨i+1,q1,q2,Mv.none (by simp)⟩
  ·have k3:(48:Int)≤c.toNat:=by omega
   have k4:¬ (c.toNat:Int)≤57:=by omega
   have k5:((c.toNat:Int) == 95)=false:=by rw [beq_eq_false_iff_ne]; omega
   have hl:letB c.toNat=false:=by
    unfold letB
    rw [decide_eq_false (show ¬ c.toNat≤122 by omega),decide_eq_false (show ¬ c.toNat≤57 by omega),decide_eq_false (show ¬ c.toNat=95 by omega)]; simp
   simp only [go_sem,iEq,iLE,iLT,iTN,h,hc,k1,k2,k3,k4,k5]
   exact Fin.v (by rw [hn,hst,hl]; rfl)
 ·by_cases k3:(48:Int)≤c.toNat
  ·by_cases k4:(c.toNat:Int)≤57
   ·obtain ⟨i',q1,q2,rfl⟩:=go (by unfold letB; rw [decide_eq_true (show 48≤c.toNat by omega),decide_eq_true (show c.toNat≤57 by omega)]; simp)
    simp only [go_sem,iEq,iLE,iLT,iTN,h,hc,k1,k3,k4,hwi]
    exact ⟨i+1,q1,q2,Mv.none (by simp)⟩
   ·by_cases k5:c.toNat=95
    ·obtain ⟨i',q1,q2,rfl⟩:=go (by unfold letB; rw [decide_eq_true k5]; simp)
     have k5':((c.toNat:Int) == 95)=true:=by rw [beq_iff_eq]; omega
     simp only [go_sem,iEq,iLE,iLT,iTN,h,hc,k1,k3,k4,k5',hwi]
     exact ⟨i+1,q1,q2,Mv.none (by simp)⟩
    ·have k5':((c.toNat:Int) == 95)=false:=by rw [beq_eq_false_iff_ne]; omega
     have hl:letB c.toNat=false:=by
      unfold letB
      rw [decide_eq_false (show ¬ 97≤c.toNat by omega),decide_eq_false (show ¬ c.toNat≤57 by omega),decide_eq_false k5]; simp
     simp only [go_sem,iEq,iLE,iLT,iTN,h,hc,k1,k3,k4,k5']
     exact Fin.v (by rw [hn,hst,hl]; rfl)
  ·have k5':((c.toNat:Int) == 95)=false:=by rw [beq_eq_false_iff_ne]; omega
   have hl:letB c.toNat=false:=by
    unfold letB
    rw [decide_eq_false (show ¬ 97≤c.toNat by omega),decide_eq_false (show ¬ 48≤c.toNat by omega),decide_eq_false (show ¬ c.toNat=95 by omega)]; simp
   simp only [go_sem,iEq,iLE,iLT,iTN,h,hc,k1,k3,k5']
   exact Fin.v (by rw [hn,hst,hl]; rfl)
set_option maxHeartbeats 2000000 in
theorem rOnce (l:List ByteArray):AP Tryz.prog 38 [Strs l] (.b (onceB l)):=by
 refine AC.wf rfl fun hw=>?_
 have hl:l.length≤9223372036854775807:=by
  have:=(hw _ (List.mem_cons_self ..)).sl_len
  simpa using this
 have hq:∀ om (F:Nat→Bool) (ks:List (Option Nat)),Cv om F ks (Strs l) (Strs l):=fun om F ks=>.same (Strs_bl l)
 rw [← onceGo_nil]
 refine AC.lbody hT hm Tryz.func38 f38_nm f38_lc f38_res f38_nt ?_
 simp only [go_sem,iEq,iLE,iLT,iTN,lMp]
 refine xl_loopM hT hm (fun i:Nat=>⟨f38_i7 (Strs l) (.i l.length) (.i i),[]⟩)
  (fun i=>i≤l.length∧onceGo [] l=onceGo (l.take i) (l.drop i)) (fun i=>l.length - i) 0 ⟨zb _,rfl⟩ (Mv.none (by simp only [f38_i7,CvL]; simp [hq])) ?_
 rintro i ⟨hi,hn⟩
 simp only [go_sem,iEq,iLE,iLT,iTN,lMp]
 by_cases h:i<l.length
 case neg=>
  simp only [go_sem,iEq,iLE,iLT,iTN,h,lMp]
  exact Fin.v (by rw [hn,drop_end h]; rfl)
 obtain ⟨x,hx⟩:=get_ex h
 have ht:l.take (i+1)=l.take i++[x]:=by rw [List.take_add_one,hx]; rfl
 have hst:onceGo (l.take i) (l.drop i)=((nameB x && !(l.take i).any fun y=>decide (y=x)) && onceGo (l.take (i+1)) (l.drop (i+1))):=by rw [drop_get hx,ht]; rfl
 have hI:=rIn (l.take i) x
 have htk:(strR l).take i=strR (l.take i):=(List.map_take ..).symm
 have hile:i≤l.length:=by omega
 simp only [go_sem,iEq,iLE,iLT,iTN,h,hx,lMp]
 refine (rName x).qv ⟨.v,trivial⟩ ?_
 cases hnb:nameB x with
 | false=>
  simp only [go_sem,iEq,iLE,iLT,iTN,Bool.not_false]
  exact Fin.v (by rw [hn,hst,hnb]; rfl)
 | true=>
 simp only [go_sem,iEq,iLE,iLT,iTN,Bool.not_true,lMp,hile,zb,hx]
 refine hI.pv ⟨.eq (by rw [htk]) (by rw [htk]; exact Strs_bl _),.v,trivial⟩ ?_
 cases hnI:(l.take i).any fun y=>decide (y=x) with
 | true=>
  simp only [go_sem,iEq,iLE,iLT,iTN]
  exact Fin.v (by rw [hn,hst,hnb,hnI]; rfl)
 | false=>
 simp only [go_sem,iEq,iLE,iLT,iTN]
 rw [wrap_succ i (by omega)]
 exact ⟨i+1,⟨h,by rw [hn,hst,hnb,hnI]; rfl⟩,by omega,Mv.none (by simp only [CvL]; simp [hq])⟩
end Go.Proofs.YtbmedfjmccnclaaGreat.W
set_option maxRecDepth 100000
namespace Go.Proofs.YtbmedfjmccnclaaGreat.W
open Go Go.Proofs Go.Proofs.YtbmedfjmccnclaaGreat.AWP
open Int renaming reduceEq→iEq,reduceLE→iLE,reduceLT→iLT,reduceToNat→iTN
open List renaming length_map→lMp
open _root_.List renaming take_of_length_le → za
attribute [local irreducible] xl hide aop aops aopQ qops guardP condP
def grNms (g:Gr):List ByteArray:=g.kinds++g.defs.map (·.1)
theorem df_0 (x:Df):(dfC x)[0]? = some (.s x.1):=rfl
theorem df_drop (x:Df):(dfC x).drop 1=x.2.c:=rfl
theorem df_len (x:Df):(dfC x).length=4:=by simp
theorem df_take (x:Df):(dfC x).take 4=dfC x:=za (by simp)
theorem df_put (ty:Nat) (a:List D) (ha:a.length=4) (x:Df):obPut (.var ty a) 0 (dfC x)=some (.var ty (dfC x)):=by
 rw [obPut_var (by simp [ha]),splc_all (by simp [ha])]
set_option maxHeartbeats 2000000 in
theorem rNames (g:Gr) (h1:g.kinds.length≤1000000) (h2:g.defs.length≤1000000):AP Tryz.prog 39 [.agg g.c] (Strs (grNms g)):=by
 have hq:=pelG g
 refine AC.lbody hT hm Tryz.func39 f39_nm f39_lc f39_res f39_nt ?_
 simp only [go_sem,iEq,iLE,iLT,iTN,lMp]
 refine ⟨by omega,?_⟩
 refine xl_loopM hT hm (fun i:Nat=>⟨f39_i7 (.pel g.c) (.own 0) (.i g.defs.length) (.i i),[strOb (g.kinds++(g.defs.take i).map (·.1))]⟩)
  (fun i=>i≤g.defs.length) (fun i=>g.defs.length - i) 0 (Nat.zero_le _) ?_ ?_
 ·refine Mv.of [some 1] rfl ⟨?_,trivial⟩ (by simp only [f39_i7,CvL]; simp [hq])
  exact .slcS (by simp) (strR_bl _)
 intro i hi
 simp only [go_sem,iEq,iLE,iLT,iTN,lMp]
 by_cases h:i<g.defs.length
 case neg=>
  have ht:g.defs.take i=g.defs:=za (by omega)
  simp only [go_sem,iEq,iLE,iLT,iTN,h,lMp]
  rw [ht]
  exact Fin.ret (.frzS rfl rfl (strR_bl _))
 obtain ⟨x,hx⟩:=get_ex h
 have ht:g.kinds++(g.defs.take (i+1)).map (·.1)=(g.kinds++(g.defs.take i).map (·.1))++[x.1]:=by
  rw [List.take_add_one,hx,List.map_append,List.append_assoc]; rfl
 have hwi:=wrap_succ i (by omega)
 obtain ⟨P,hP⟩:∃ P,P=g.kinds++(g.defs.take i).map (·.1):=⟨_,rfl⟩
 have hPl:P.length≤2000000:=by rw [hP]; simp; omega
 rw [← hP] at ht ⊢
 simp only [go_sem,iEq,iLE,iLT,iTN,h,hx,lMp,df_0]
 refine ⟨by omega,i+1,h,by omega,?_⟩
 rw [hwi,ht]
 exact Mv.of [some 1] rfl ⟨.slcS (by simp) (strR_bl _),trivial⟩ (by simp only [CvL]; simp [hq])
set_option maxHeartbeats 2000000 in
theorem cNames (l:List Df) (h2:l.length≤1000000):AP Tryz.prog 102 [Defs l] (Strs (l.map (·.1))):=by
 have hq:∀ om (F:Nat→Bool) (ks:List (Option Nat)),Cv om F ks (Defs l) (Defs l):=fun om F ks=>.same (Defs_bl l)
 refine AC.lbody hT hm Tryz.func102 f102_nm f102_lc f102_res f102_nt ?_
 simp only [go_sem,iEq,iLE,iLT,iTN,lMp]
 refine xl_loopM hT hm (fun i:Nat=>⟨f102_i7 (.own 0) (Defs l) (.i l.length) (.i i),[strOb ((l.take i).map (·.1))]⟩)
  (fun i=>i≤l.length) (fun i=>l.length - i) 0 (Nat.zero_le _) ?_ ?_
 ·exact Mv.of [none] rfl ⟨.nil (by decide),trivial⟩ (by simp only [f102_i7,CvL]; simp [hq])
 intro i hi
 simp only [go_sem,iEq,iLE,iLT,iTN,lMp]
 by_cases h:i<l.length
 case neg=>
  have ht:l.take i=l:=za (by omega)
  simp only [go_sem,iEq,iLE,iLT,iTN,h,lMp]
  rw [ht]
  exact Fin.ret (.frzS rfl rfl (strR_bl _))
 obtain ⟨x,hx⟩:=get_ex h
 have ht:(l.take (i+1)).map (·.1)=(l.take i).map (·.1)++[x.1]:=by
  rw [List.take_add_one,hx,List.map_append]; rfl
 have hwi:=wrap_succ i (by omega)
 simp only [go_sem,iEq,iLE,iLT,iTN,h,hx,lMp,df_0,df_len,df_take,df_put]
 refine ⟨by rw [List.length_take]; omega,i+1,h,by omega,?_⟩
 rw [hwi,ht]
 exact Mv.of [some 2] rfl ⟨.slcS (by simp) (strR_bl _),trivial⟩ (by simp only [CvL]; simp [hq])
end Go.Proofs.YtbmedfjmccnclaaGreat.W
set_option maxRecDepth 100000
namespace Go.Proofs.YtbmedfjmccnclaaGreat.W
open Go Go.Proofs Go.Proofs.YtbmedfjmccnclaaGreat.AWP
open Int renaming reduceEq→iEq,reduceLE→iLE,reduceLT→iLT,reduceToNat→iTN
open List renaming length_map→lMp
open _root_.Bool renaming false_and → za, true_and → zc, and_false → zd, and_eq_true → ze, eq_iff_iff → zf
open _root_.Int renaming reduceSub → zb
attribute [local irreducible] xl hide aop aops aopQ qops guardP condP
theorem cf_c (k n:Int) (ks:List Cf):(Cf.mk k n ks).c=[.v (.int .u8 k),.v (.int .i64 n),.sl 3 (ks.map Cf.c)]:=by rw [Cf.c_mk,Cf.cs_eq]
set_option maxHeartbeats 4000000 in
theorem rOf (c:Cf) (a b:Nat) (hz:c.sz≤1099511627776):AP Tryz.prog 40 [.agg c.c,.i a,.i b] (.b (c.may a b)):=by
 have hA:=rAllC c hz
 have hl:=c.all_len
 rw [Cf.may_all]
 generalize c.all=l at hA hl
 have hq:∀ om (F:Nat→Bool) (ks:List (Option Nat)),Cv om F ks (Cfs l) (Cfs l):=fun om F ks=>.same (.sl (Cf.cs_bl l))
 have hqm:∀ om (F:Nat→Bool) (ks:List (Option Nat)),Cv om F ks (.sl 3 (l.map Cf.c)) (.sl 3 (l.map Cf.c)):=fun om F ks=>.same (Cfs_bl l)
 refine AC.lbody hT hm Tryz.func40 f40_nm f40_lc f40_res f40_nt ?_
 simp only [go_sem,iEq,iLE,iLT,iTN]
 refine hA.pd ⟨.same (Cf.d_bl c),trivial⟩ (.sl (Cf.cs_bl l)) ?_
 simp only [go_sem,iEq,iLE,iLT,iTN,lMp]
 refine xl_loopM hT hm (fun i:Nat=>⟨f40_i13 (.i a) (.i b) (Cfs l) (.i l.length) (.i i),[]⟩)
  (fun i=>i≤l.length∧l.all (nodeOk a b)=(l.drop i).all (nodeOk a b)) (fun i=>l.length - i) 0 ⟨Nat.zero_le _,rfl⟩ (Mv.none (by simp only [f40_i13,CvL,Cfs,Cf.cs_eq]; simp [hqm])) ?_
 rintro i ⟨hi,hn⟩
 simp only [go_sem,iEq,iLE,iLT,iTN,lMp]
 by_cases h:i<l.length
 case neg=>
  simp only [go_sem,iEq,iLE,iLT,iTN,h,lMp]
  exact Fin.v (by rw [hn,drop_end h]; rfl)
 obtain ⟨⟨k,n,ks⟩,hx⟩:=get_ex h
 have hst:(l.drop i).all (nodeOk a b)=(nodeOk a b (.mk k n ks) && (l.drop (i+1)).all (nodeOk a b)):=by rw [drop_get hx,List.all_cons]
 rw [nodeOk_mk] at hst
 have hwi:=wrap_succ i (by omega)
 have hc:=cf_c k n ks
 by_cases g1:k<1
 ·simp only [go_sem,iEq,iLE,iLT,iTN,h,hx,hc,lMp,g1]
  rw [if_neg (by omega),if_neg (by omega),if_neg (by omega),if_neg (by omega),za] at hst
  exact Fin.v (by rw [hn,hst])
 by_cases g2:6<k
 ·simp only [go_sem,iEq,iLE,iLT,iTN,h,hx,hc,lMp,g1,g2]
  rw [if_neg (by omega),if_neg (by omega),if_neg (by omega),if_neg (by omega),za] at hst
  exact Fin.v (by rw [hn,hst])
 have w0:IntKind.u8.wrap 0=0:=by decide
 have w1:IntKind.u8.wrap 1=1:=by decide
 have w2:IntKind.u8.wrap 2=2:=by decide
 have w3:IntKind.u8.wrap 3=3:=by decide
 have w4:IntKind.u8.wrap 4=4:=by decide
 have w5:IntKind.u8.wrap 5=5:=by decide
 by_cases hk1:k=1
 ·subst hk1
  have ho:(decide (0≤n∧n<((1:Nat):Int)) && decide (ks.length=0))=(if (1:Int)=1∨(1:Int)=2 then decide (n=0) && decide (ks.length=0) else if (1:Int)=3 then decide (0≤n∧n<a) && decide (ks.length=0) else if (1:Int)=6 then decide (0≤n∧n<b) && decide (ks.length=0) else if (1:Int)=4∨(1:Int)=5 then decide (n=0) && decide (ks.length=2) else false):=by
   rw [if_pos (.inl rfl),zf]; simp only [ze,decide_eq_true_eq]; omega
  rw [← ho] at hst
  clear ho
  by_cases h2:ks.length=0
  case neg=>
   have h2':((ks.length:Int) != 0)=true:=bne_true (by omega)
   simp only [go_sem,iEq,iLE,iLT,iTN,h,hx,hc,lMp,zb,w0,w1,w2,w3,w4,w5,h2']
   exact Fin.v (by rw [hn,hst,decide_eq_false h2,zd,za])
  have h2':((ks.length:Int) != 0)=false:=by rw [bne_eq_false_iff_eq]; omega
  by_cases h0:n<0
  case pos=>
   simp only [go_sem,iEq,iLE,iLT,iTN,h,hx,hc,lMp,zb,w0,w1,w2,w3,w4,w5,h2',h0]
   exact Fin.v (by rw [hn,hst,decide_eq_false (show ¬ (0≤n∧n<((1:Nat):Int)) by omega),za,za])
  by_cases h1:1≤n
  case pos=>
   simp only [go_sem,iEq,iLE,iLT,iTN,h,hx,hc,lMp,zb,w0,w1,w2,w3,w4,w5,h2',h0,h1]
   exact Fin.v (by rw [hn,hst,decide_eq_false (show ¬ (0≤n∧n<((1:Nat):Int)) by omega),za,za])
  simp only [go_sem,iEq,iLE,iLT,iTN,h,hx,hc,lMp,zb,w0,w1,w2,w3,w4,w5,h2',h0,h1]
  rw [hwi]
  exact ⟨i+1,⟨h,by rw [hn,hst,decide_eq_true (show 0≤n∧n<((1:Nat):Int) by omega),decide_eq_true h2,zc,zc]⟩,by omega,Mv.none (by simp only [CvL,Cfs,Cf.cs_eq]; simp [hqm])⟩
 by_cases hk2:k=2
 ·subst hk2
  have ho:(decide (0≤n∧n<((1:Nat):Int)) && decide (ks.length=0))=(if (2:Int)=1∨(2:Int)=2 then decide (n=0) && decide (ks.length=0) else if (2:Int)=3 then decide (0≤n∧n<a) && decide (ks.length=0) else if (2:Int)=6 then decide (0≤n∧n<b) && decide (ks.length=0) else if (2:Int)=4∨(2:Int)=5 then decide (n=0) && decide (ks.length=2) else false):=by
   rw [if_pos (.inr rfl),zf]; simp only [ze,decide_eq_true_eq]; omega
  rw [← ho] at hst
  clear ho
  by_cases h2:ks.length=0
  case neg=>
   have h2':((ks.length:Int) != 0)=true:=bne_true (by omega)
   simp only [go_sem,iEq,iLE,iLT,iTN,h,hx,hc,lMp,zb,w0,w1,w2,w3,w4,w5,h2']
   exact Fin.v (by rw [hn,hst,decide_eq_false h2,zd,za])
  have h2':((ks.length:Int) != 0)=false:=by rw [bne_eq_false_iff_eq]; omega
  by_cases h0:n<0
  case pos=>
   simp only [go_sem,iEq,iLE,iLT,iTN,h,hx,hc,lMp,zb,w0,w1,w2,w3,w4,w5,h2',h0]
   exact Fin.v (by rw [hn,hst,decide_eq_false (show ¬ (0≤n∧n<((1:Nat):Int)) by omega),za,za])
  by_cases h1:1≤n
  case pos=>
   simp only [go_sem,iEq,iLE,iLT,iTN,h,hx,hc,lMp,zb,w0,w1,w2,w3,w4,w5,h2',h0,h1]
   exact Fin.v (by rw [hn,hst,decide_eq_false (show ¬ (0≤n∧n<((1:Nat):Int)) by omega),za,za])
  simp only [go_sem,iEq,iLE,iLT,iTN,h,hx,hc,lMp,zb,w0,w1,w2,w3,w4,w5,h2',h0,h1]
  rw [hwi]
  exact ⟨i+1,⟨h,by rw [hn,hst,decide_eq_true (show 0≤n∧n<((1:Nat):Int) by omega),decide_eq_true h2,zc,zc]⟩,by omega,Mv.none (by simp only [CvL,Cfs,Cf.cs_eq]; simp [hqm])⟩
 by_cases hk3:k=3
 ·subst hk3
  have ho:(decide (0≤n∧n<((a:Nat):Int)) && decide (ks.length=0))=(if (3:Int)=1∨(3:Int)=2 then decide (n=0) && decide (ks.length=0) else if (3:Int)=3 then decide (0≤n∧n<a) && decide (ks.length=0) else if (3:Int)=6 then decide (0≤n∧n<b) && decide (ks.length=0) else if (3:Int)=4∨(3:Int)=5 then decide (n=0) && decide (ks.length=2) else false):=by
   rw [if_neg (by omega),if_pos rfl]
  rw [← ho] at hst
  clear ho
  by_cases h2:ks.length=0
  case neg=>
   have h2':((ks.length:Int) != 0)=true:=bne_true (by omega)
   simp only [go_sem,iEq,iLE,iLT,iTN,h,hx,hc,lMp,zb,w0,w1,w2,w3,w4,w5,h2']
   exact Fin.v (by rw [hn,hst,decide_eq_false h2,zd,za])
  have h2':((ks.length:Int) != 0)=false:=by rw [bne_eq_false_iff_eq]; omega
  by_cases h0:n<0
  case pos=>
   simp only [go_sem,iEq,iLE,iLT,iTN,h,hx,hc,lMp,zb,w0,w1,w2,w3,w4,w5,h2',h0]
   exact Fin.v (by rw [hn,hst,decide_eq_false (show ¬ (0≤n∧n<((a:Nat):Int)) by omega),za,za])
  by_cases h1:(a:Int)≤n
  case pos=>
   simp only [go_sem,iEq,iLE,iLT,iTN,h,hx,hc,lMp,zb,w0,w1,w2,w3,w4,w5,h2',h0,h1]
   exact Fin.v (by rw [hn,hst,decide_eq_false (show ¬ (0≤n∧n<((a:Nat):Int)) by omega),za,za])
  simp only [go_sem,iEq,iLE,iLT,iTN,h,hx,hc,lMp,zb,w0,w1,w2,w3,w4,w5,h2',h0,h1]
  rw [hwi]
  exact ⟨i+1,⟨h,by rw [hn,hst,decide_eq_true (show 0≤n∧n<((a:Nat):Int) by omega),decide_eq_true h2,zc,zc]⟩,by omega,Mv.none (by simp only [CvL,Cfs,Cf.cs_eq]; simp [hqm])⟩
 by_cases hk4:k=4
 ·subst hk4
  have ho:(decide (0≤n∧n<((1:Nat):Int)) && decide (ks.length=2))=(if (4:Int)=1∨(4:Int)=2 then decide (n=0) && decide (ks.length=0) else if (4:Int)=3 then decide (0≤n∧n<a) && decide (ks.length=0) else if (4:Int)=6 then decide (0≤n∧n<b) && decide (ks.length=0) else if (4:Int)=4∨(4:Int)=5 then decide (n=0) && decide (ks.length=2) else false):=by
   rw [if_neg (by omega),if_neg (by omega),if_neg (by omega),if_pos (by omega),zf]; simp only [ze,decide_eq_true_eq]; omega
  rw [← ho] at hst
  clear ho
  by_cases h2:ks.length=2
  case neg=>
   have h2':((ks.length:Int) != 2)=true:=bne_true (by omega)
   simp only [go_sem,iEq,iLE,iLT,iTN,h,hx,hc,lMp,zb,w0,w1,w2,w3,w4,w5,h2']
   exact Fin.v (by rw [hn,hst,decide_eq_false h2,zd,za])
  have h2':((ks.length:Int) != 2)=false:=by rw [bne_eq_false_iff_eq]; omega
  by_cases h0:n<0
  case pos=>
   simp only [go_sem,iEq,iLE,iLT,iTN,h,hx,hc,lMp,zb,w0,w1,w2,w3,w4,w5,h2',h0]
   exact Fin.v (by rw [hn,hst,decide_eq_false (show ¬ (0≤n∧n<((1:Nat):Int)) by omega),za,za])
  by_cases h1:1≤n
  case pos=>
   simp only [go_sem,iEq,iLE,iLT,iTN,h,hx,hc,lMp,zb,w0,w1,w2,w3,w4,w5,h2',h0,h1]
   exact Fin.v (by rw [hn,hst,decide_eq_false (show ¬ (0≤n∧n<((1:Nat):Int)) by omega),za,za])
  simp only [go_sem,iEq,iLE,iLT,iTN,h,hx,hc,lMp,zb,w0,w1,w2,w3,w4,w5,h2',h0,h1]
  rw [hwi]
  exact ⟨i+1,⟨h,by rw [hn,hst,decide_eq_true (show 0≤n∧n<((1:Nat):Int) by omega),decide_eq_true h2,zc,zc]⟩,by omega,Mv.none (by simp only [CvL,Cfs,Cf.cs_eq]; simp [hqm])⟩
 by_cases hk5:k=5
 ·subst hk5
  have ho:(decide (0≤n∧n<((1:Nat):Int)) && decide (ks.length=2))=(if (5:Int)=1∨(5:Int)=2 then decide (n=0) && decide (ks.length=0) else if (5:Int)=3 then decide (0≤n∧n<a) && decide (ks.length=0) else if (5:Int)=6 then decide (0≤n∧n<b) && decide (ks.length=0) else if (5:Int)=4∨(5:Int)=5 then decide (n=0) && decide (ks.length=2) else false):=by
   rw [if_neg (by omega),if_neg (by omega),if_neg (by omega),if_pos (by omega),zf]; simp only [ze,decide_eq_true_eq]; omega
  rw [← ho] at hst
  clear ho
  by_cases h2:ks.length=2
  case neg=>
   have h2':((ks.length:Int) != 2)=true:=bne_true (by omega)
   simp only [go_sem,iEq,iLE,iLT,iTN,h,hx,hc,lMp,zb,w0,w1,w2,w3,w4,w5,h2']
   exact Fin.v (by rw [hn,hst,decide_eq_false h2,zd,za])
  have h2':((ks.length:Int) != 2)=false:=by rw [bne_eq_false_iff_eq]; omega
  by_cases h0:n<0
  case pos=>
   simp only [go_sem,iEq,iLE,iLT,iTN,h,hx,hc,lMp,zb,w0,w1,w2,w3,w4,w5,h2',h0]
   exact Fin.v (by rw [hn,hst,decide_eq_false (show ¬ (0≤n∧n<((1:Nat):Int)) by omega),za,za])
  by_cases h1:1≤n
  case pos=>
   simp only [go_sem,iEq,iLE,iLT,iTN,h,hx,hc,lMp,zb,w0,w1,w2,w3,w4,w5,h2',h0,h1]
   exact Fin.v (by rw [hn,hst,decide_eq_false (show ¬ (0≤n∧n<((1:Nat):Int)) by omega),za,za])
  simp only [go_sem,iEq,iLE,iLT,iTN,h,hx,hc,lMp,zb,w0,w1,w2,w3,w4,w5,h2',h0,h1]
  rw [hwi]
  exact ⟨i+1,⟨h,by rw [hn,hst,decide_eq_true (show 0≤n∧n<((1:Nat):Int) by omega),decide_eq_true h2,zc,zc]⟩,by omega,Mv.none (by simp only [CvL,Cfs,Cf.cs_eq]; simp [hqm])⟩
 by_cases hk6:k=6
 ·subst hk6
  have ho:(decide (0≤n∧n<((b:Nat):Int)) && decide (ks.length=0))=(if (6:Int)=1∨(6:Int)=2 then decide (n=0) && decide (ks.length=0) else if (6:Int)=3 then decide (0≤n∧n<a) && decide (ks.length=0) else if (6:Int)=6 then decide (0≤n∧n<b) && decide (ks.length=0) else if (6:Int)=4∨(6:Int)=5 then decide (n=0) && decide (ks.length=2) else false):=by
   rw [if_neg (by omega),if_neg (by omega),if_pos rfl]
  rw [← ho] at hst
  clear ho
  by_cases h2:ks.length=0
  case neg=>
   have h2':((ks.length:Int) != 0)=true:=bne_true (by omega)
   simp only [go_sem,iEq,iLE,iLT,iTN,h,hx,hc,lMp,zb,w0,w1,w2,w3,w4,w5,h2']
   exact Fin.v (by rw [hn,hst,decide_eq_false h2,zd,za])
  have h2':((ks.length:Int) != 0)=false:=by rw [bne_eq_false_iff_eq]; omega
  by_cases h0:n<0
  case pos=>
   simp only [go_sem,iEq,iLE,iLT,iTN,h,hx,hc,lMp,zb,w0,w1,w2,w3,w4,w5,h2',h0]
   exact Fin.v (by rw [hn,hst,decide_eq_false (show ¬ (0≤n∧n<((b:Nat):Int)) by omega),za,za])
  by_cases h1:(b:Int)≤n
  case pos=>
   simp only [go_sem,iEq,iLE,iLT,iTN,h,hx,hc,lMp,zb,w0,w1,w2,w3,w4,w5,h2',h0,h1]
   exact Fin.v (by rw [hn,hst,decide_eq_false (show ¬ (0≤n∧n<((b:Nat):Int)) by omega),za,za])
  simp only [go_sem,iEq,iLE,iLT,iTN,h,hx,hc,lMp,zb,w0,w1,w2,w3,w4,w5,h2',h0,h1]
  rw [hwi]
  exact ⟨i+1,⟨h,by rw [hn,hst,decide_eq_true (show 0≤n∧n<((b:Nat):Int) by omega),decide_eq_true h2,zc,zc]⟩,by omega,Mv.none (by simp only [CvL,Cfs,Cf.cs_eq]; simp [hqm])⟩
 exact False.elim (by omega)
end Go.Proofs.YtbmedfjmccnclaaGreat.W
set_option maxRecDepth 100000
namespace Go.Proofs.YtbmedfjmccnclaaGreat.W
open Go Go.Proofs Go.Proofs.YtbmedfjmccnclaaGreat.AWP
open Int renaming reduceEq→iEq,reduceLE→iLE,reduceLT→iLT,reduceToNat→iTN
open List renaming length_map→lMp
open _root_.Bool renaming false_and → za, true_and → zb, and_false → zc
open _root_.List renaming map_take → zd
attribute [local irreducible] xl hide aop aops aopQ qops guardP condP
def grSz (l:List Df):Nat:=Cf.szs (l.map (·.2))
theorem grSz_take {l:List Df} {i:Nat} {x:Df} (h:l[i]? = some x):grSz (l.take (i+1))=grSz (l.take i)+x.2.sz:=by
 unfold grSz
 rw [zd,zd,Cf.szs_take (by rw [List.getElem?_map,h]; rfl)]
theorem grSz_le (l:List Df) (i:Nat):grSz (l.take i)≤grSz l:=by
 unfold grSz; rw [zd]; exact Cf.szs_take_le _ i
theorem grSz_mem {l:List Df} {x:Df} (h:x∈l):x.2.sz≤grSz l:=Cf.szs_mem (List.mem_map.2 ⟨x,h,rfl⟩)
def defsOk (g:Gr):Bool:=g.defs.all fun x=>x.2.may g.kinds.length g.defs.length
def mayG (g:Gr):Bool:=
 (decide (1≤g.kinds.length) && (decide (g.kinds.length≤100) && (decide (1≤g.defs.length) && (decide (g.defs.length≤50) && onceB (grNms g))))) && (defsOk g && decide (grSz g.defs≤2000))
theorem all_drop {α:Type} {p:α→Bool} {l:List α} {i:Nat} {x:α} (h:l[i]? = some x):(l.drop i).all p=(p x && (l.drop (i+1)).all p):=by rw [drop_get h,List.all_cons]
set_option maxHeartbeats 4000000 in
theorem rMayG (g:Gr) (hz:grSz g.defs≤1099511627776) (hk:g.kinds.length≤1000000) (hd:g.defs.length≤1000000):AP Tryz.prog 13 [.agg g.c] (.b (mayG g)):=by
 have hq:=pelG g
 have hN:=rNames g hk hd
 have hO:=rOnce (grNms g)
 unfold mayG
 refine AC.lbody hT hm Tryz.func13 f13_nm f13_lc f13_res f13_nt ?_
 simp only [go_sem,iEq,iLE,iLT,iTN,lMp]
 by_cases h1:(g.kinds.length:Int)<1
 ·simp only [go_sem,iEq,iLE,iLT,iTN,h1,lMp]
  exact Fin.v (by rw [decide_eq_false (show ¬ 1≤g.kinds.length by omega)]; rfl)
 by_cases h2:(100:Int)<g.kinds.length
 ·simp only [go_sem,iEq,iLE,iLT,iTN,h1,h2,lMp]
  exact Fin.v (by rw [decide_eq_false (show ¬ g.kinds.length≤100 by omega),za,zc,za])
 by_cases h3:(g.defs.length:Int)<1
 ·simp only [go_sem,iEq,iLE,iLT,iTN,h1,h2,h3,lMp]
  exact Fin.v (by rw [decide_eq_false (show ¬ 1≤g.defs.length by omega),za,zc,zc,za])
 by_cases h4:(50:Int)<g.defs.length
 ·simp only [go_sem,iEq,iLE,iLT,iTN,h1,h2,h3,h4,lMp]
  exact Fin.v (by rw [decide_eq_false (show ¬ g.defs.length≤50 by omega),za,zc,zc,zc,za])
 rw [decide_eq_true (show 1≤g.kinds.length by omega),decide_eq_true (show g.kinds.length≤100 by omega),decide_eq_true (show 1≤g.defs.length by omega),decide_eq_true (show g.defs.length≤50 by omega),zb,zb,zb,zb]
 simp only [go_sem,iEq,iLE,iLT,iTN,h1,h2,h3,h4,lMp,gr_take,gr_c_len]
 refine hN.pd ⟨.same (Gr.d_bl g),trivial⟩ (Strs_bl _) ?_
 simp only [go_sem,iEq,iLE,iLT,iTN]
 refine hO.pv ⟨.same (Strs_bl _),trivial⟩ ?_
 cases hob:onceB (grNms g) with
 | false=>
  simp only [go_sem,iEq,iLE,iLT,iTN,Bool.not_false]
  exact Fin.v (by rw [za])
 | true=>
 rw [zb]
 simp only [go_sem,iEq,iLE,iLT,iTN,Bool.not_true,lMp]
 refine xl_loopM hT hm (fun i:Nat=>⟨f13_i11 (.pel g.c) (.i (grSz (g.defs.take i):Nat)) (.i g.defs.length) (.i i),[]⟩)
  (fun i=>i≤g.defs.length∧defsOk g=(g.defs.drop i).all fun x=>x.2.may g.kinds.length g.defs.length) (fun i=>g.defs.length - i) 0 ⟨Nat.zero_le _,rfl⟩ (Mv.none (by simp only [f13_i11,CvL]; simp [hq]; rfl)) ?_
 rintro i ⟨hi,hn⟩
 simp only [go_sem,iEq,iLE,iLT,iTN,lMp]
 by_cases h:i<g.defs.length
 case neg=>
  have ht:g.defs.take i=g.defs:=List.take_of_length_le (by omega)
  have e:defsOk g=true:=by rw [hn,drop_end h]; rfl
  simp only [go_sem,iEq,iLE,iLT,iTN,h,lMp]
  rw [ht,e,zb]
  exact Fin.v (by congr 1; rw [decide_eq_decide]; omega)
 obtain ⟨x,hx⟩:=get_ex h
 have hst:=all_drop (p:=fun x:Df=>x.2.may g.kinds.length g.defs.length) hx
 have h5:=grSz_take hx
 have h6:=grSz_le g.defs (i+1)
 have h7:=grSz_mem (List.mem_of_getElem? hx)
 have hOf:=rOf x.2 g.kinds.length g.defs.length (by omega)
 have hAl:=rAllC x.2 (by omega)
 have hlen:=x.2.all_len
 have hwi:=wrap_succ i (by omega)
 have e:IntKind.i64.wrap ((grSz (g.defs.take i):Nat)+(x.2.sz:Int))=((grSz (g.defs.take (i+1)):Nat):Int):=by
  rw [wrap_int _ (by omega) (by omega)]; omega
 simp only [go_sem,iEq,iLE,iLT,iTN,h,hx,lMp,df_0,df_drop,Cf.c_take]
 refine hOf.pv ⟨.same (Cf.d_bl _),.v,.v,trivial⟩ ?_
 cases hm:x.2.may g.kinds.length g.defs.length with
 | false=>
  simp only [go_sem,iEq,iLE,iLT,iTN,Bool.not_false]
  exact Fin.v (by rw [hn,hst,hm]; rfl)
 | true=>
 simp only [go_sem,iEq,iLE,iLT,iTN,Bool.not_true,hx,h,lMp,df_drop,Cf.c_take]
 refine hAl.pd ⟨.same (Cf.d_bl _),trivial⟩ (.sl (Cf.cs_bl _)) ?_
 simp only [go_sem,iEq,iLE,iLT,iTN,cfs_len,lMp,hlen,e]
 rw [hwi]
 exact ⟨i+1,⟨h,by rw [hn,hst,hm]; rfl⟩,by omega,Mv.none (by simp only [CvL]; simp [hq])⟩
set_option maxHeartbeats 2000000 in
theorem rFits (g:Gr) (c:Cf) (hz:grSz g.defs≤1099511627776) (hk:g.kinds.length≤1000000) (hd:g.defs.length≤1000000) (hc:c.sz≤1099511627776) :
  AP Tryz.prog 44 [.agg g.c,.agg c.c] (.b (mayG g && (c.may g.kinds.length g.defs.length && decide (c.sz≤2000)))):=by
 have hlen:=c.all_len
 refine AC.lbody hT hm Tryz.func44 f44_nm f44_lc f44_res f44_nt ?_
 simp only [go_sem,iEq,iLE,iLT,iTN,gr_take,gr_c_len]
 refine (rMayG g hz hk hd).pv ⟨.same (Gr.d_bl g),trivial⟩ ?_
 cases mayG g with
 | false=>
  simp only [go_sem,iEq,iLE,iLT,iTN]
  exact Fin.v (by rw [za])
 | true=>
 rw [zb]
 simp only [go_sem,iEq,iLE,iLT,iTN,Cf.c_take,lMp]
 refine (rOf c g.kinds.length g.defs.length hc).pv ⟨.same (Cf.d_bl _),.v,.v,trivial⟩ ?_
 cases c.may g.kinds.length g.defs.length with
 | false=>
  simp only [go_sem,iEq,iLE,iLT,iTN]
  exact Fin.v (by rw [za])
 | true=>
 rw [zb]
 simp only [go_sem,iEq,iLE,iLT,iTN,Cf.c_take]
 refine (rAllC c hc).pd ⟨.same (Cf.d_bl _),trivial⟩ (.sl (Cf.cs_bl _)) ?_
 simp only [go_sem,iEq,iLE,iLT,iTN,cfs_len,lMp,hlen]
 exact Fin.v (by congr 1; rw [decide_eq_decide]; omega)
end Go.Proofs.YtbmedfjmccnclaaGreat.W
set_option maxRecDepth 100000
namespace Go.Proofs.YtbmedfjmccnclaaGreat.W
open Go Go.Proofs Go.Proofs.YtbmedfjmccnclaaGreat.AWP
open Int renaming reduceEq→iEq,reduceLE→iLE,reduceLT→iLT,reduceToNat→iTN
open List renaming length_map→lMp
end Go.Proofs.YtbmedfjmccnclaaGreat.W
set_option maxRecDepth 100000
namespace Go.Proofs.YtbmedfjmccnclaaGreat.W
open Go Go.Proofs Go.Proofs.YtbmedfjmccnclaaGreat.AWP
open Int renaming reduceEq→iEq,reduceLE→iLE,reduceLT→iLT,reduceToNat→iTN
open List renaming length_map→lMp
attribute [local irreducible] xl hide aop aops aopQ qops guardP condP
theorem finSelf {om0 om:List Ob} {o:Out} {R:Out→List Ob→Prop} (h:R o om):Fin om0 om o R:=fun E0 E e _ hx hR ho=>⟨E,o,om,h,rfl,hx,hR,ho⟩
end Go.Proofs.YtbmedfjmccnclaaGreat.W
set_option maxRecDepth 100000
namespace Go.Proofs.YtbmedfjmccnclaaGreat.W
open Go Go.Proofs Go.Proofs.YtbmedfjmccnclaaGreat.AWP
open Int renaming reduceEq→iEq,reduceLE→iLE,reduceLT→iLT,reduceToNat→iTN
open List renaming length_map→lMp
attribute [local irreducible] xl hide aop aops aopQ qops guardP condP
abbrev SEQS:Nat:=131
abbrev VALS:Nat:=114
abbrev seqS (l:List ByteArray):List D:=[.v (.slice none 0 0),.fn VALS [.pel [Strs l]],.ref 0 0,.any,.v (.slice none 0 0),.any,.fn VALS [.pel [Strs l]],.any,.any,.any,.any,.any,.any]
theorem seqFn (l:List ByteArray):Bl 0 (.fn VALS [.pel [Strs l]]):=.fn fun d hd=>by
 rw [List.mem_singleton.1 hd]; exact .pel fun d hd=>by rw [List.mem_singleton.1 hd]; exact Strs_bl l
theorem cvFn (l:List ByteArray):∀ om (F:Nat→Bool) (ks:List (Option Nat)),Cv om F ks (.fn VALS [.pel [Strs l]]) (.fn VALS [.pel [Strs l]]):=fun om F ks=>.same (seqFn l)
theorem cvSt (l:List ByteArray):∀ om (F:Nat→Bool) (ks:List (Option Nat)),Cv om F ks (Strs l) (Strs l):=fun om F ks=>.same (Strs_bl l)
theorem cvSeq (l:List ByteArray) {om:List Ob} {F:Nat→Bool} {ks:List (Option Nat)} (h:ks[0]? = some (some 0)):CvL om F ks (seqS l) (seqS l):=by
 simp only [CvL,seqS]
 simp [cvFn,h]
theorem seqRoundS {ca cb:Code} (ha:lc ca=f131_a4.st) (hb:lc cb=f131_b4.st) (l0 L:List ByteArray) (x:ByteArray) (hL:L.length≤1000000) :
  AY Tryz.prog 1 [.s x] [.var 22 [.own 2],.lp #[7] ca cb .ready none (seqS l0),strOb L]
   (fun o om'=>o=.ret (.b true)∧om'=[.var 22 [.own 3],.lp #[7] ca cb .ready none (seqS l0),.dead,strOb (L++[x])]):=by
 refine AY.walk hT hm ha hb rfl rfl rfl ?_
 simp only [go_sem,iEq,iLE,iLT,iTN,lMp]
 refine ⟨by omega,?_⟩
 refine Fin.mv (om':=[.var 22 [.own 3],.lp #[7] ca cb .ready none (seqS l0),.dead,strOb (L++[x])]) [some 0,some 1,some 2,some 3] rfl ⟨.varL rfl (by simp),.lpL rfl (cvSeq l0 rfl),.deadE (by simp),.slcS (by simp) (strR_bl _),trivial⟩ .v ⟨rfl,rfl⟩
theorem valuesS1 {ca cb:Code} (ha:lc ca=(f131_a4).st) (hb:lc cb=(f131_b4).st) (l:List ByteArray) (hl:l.length≤1000000) :
  AC Tryz.prog VALS [.yld 1,.pel [Strs l]] [.var 22 [.v (.slice none 0 0)],.lp #[7] ca cb .ready none (seqS l)]
   (fun o om'=>o=.ret (.tup [])∧om'=[.var 22 [.own 2],.lp #[7] ca cb .ready none (seqS l),strOb l]):=by
 have hq:=cvSt l
 refine AC.lbody hT hm Tryz.func114 f114_nm f114_lc f114_res f114_nt ?_
 simp only [go_sem,iEq,iLE,iLT,iTN,lMp]
 refine xl_loopM hT hm (fun i:Nat=>⟨f114_i5 (.yld 1) (Strs l) (.i l.length) (.i i),[.var 22 [.own 2],.lp #[7] ca cb .ready none (seqS l),strOb (l.take i)]⟩)
  (fun i=>i≤l.length) (fun i=>l.length - i) 0 (Nat.zero_le _) ?_ ?_
 ·exact Mv.of [some 0,some 1,none] rfl ⟨.varL rfl (by simp),.lpL rfl (cvSeq l rfl),.nil (by decide),trivial⟩ (by simp only [f114_i5,CvL]; simp [hq])
 intro i hi
 simp only [go_sem,iEq,iLE,iLT,iTN,lMp]
 by_cases h:i<l.length
 case neg=>
  simp only [go_sem,iEq,iLE,iLT,iTN,h,lMp]
  rw [List.take_of_length_le (by omega)]
  exact Fin.mv (om':=[.var 22 [.own 2],.lp #[7] ca cb .ready none (seqS l),strOb l]) [some 0,some 1,some 2] rfl ⟨.varL rfl (by simp),.lpL rfl (cvSeq l rfl),.slcS rfl (strR_bl _),trivial⟩ (by simp) ⟨rfl,rfl⟩
 obtain ⟨x,hx⟩:=get_ex h
 simp only [go_sem,iEq,iLE,iLT,iTN,h,hx,lMp]
 refine ⟨_,seqRoundS ha hb l (l.take i) x (by simp; omega),?_⟩
 rintro _ _ ⟨rfl,rfl⟩
 simp only [go_sem,iEq,iLE,iLT,iTN,lMp]
 rw [wrap_succ i (by omega)]
 refine ⟨i+1,h,by omega,?_⟩
 have e:l.take (i+1)=l.take i++[x]:=by rw [List.take_add_one,hx]; rfl
 rw [e]
 exact Mv.of [some 0,some 1,some 3] rfl ⟨.varL rfl (by simp),.lpL rfl (cvSeq l rfl),.slcS rfl (strR_bl _),trivial⟩ (by simp only [CvL]; simp [hq])
theorem appendSeqS (l:List ByteArray) (hl:l.length≤1000000):AC Tryz.prog SEQS [.v (.slice none 0 0),.fn VALS [.pel [Strs l]]] [] (fun o om'=>o=.ret (.own 0)∧om'=[strOb l]):=by
 refine AC.lbody hT hm Tryz.func131 f131_nm f131_lc f131_res f131_nt ?_
 simp only [go_sem,iEq,iLE,iLT,iTN,W_rfun]
 intro ca cb ha hb
 refine ⟨_,valuesS1 ha hb l hl,?_⟩
 rintro _ _ ⟨rfl,rfl⟩
 simp only [go_sem,iEq,iLE,iLT,iTN]
 exact ⟨by simp,Fin.mv (om':=[strOb l]) [some 2] rfl ⟨.slcS rfl (strR_bl _),trivial⟩ (by simp) ⟨rfl,rfl⟩⟩
theorem collectS (l:List ByteArray) (hl:l.length≤1000000):AC Tryz.prog 112 [.fn VALS [.pel [Strs l]]] [] (fun o om'=>o=.ret (.own 0)∧om'=[strOb l]):=by
 refine AC.lbody hT hm Tryz.func112 f112_nm f112_lc f112_res f112_nt ?_
 simp only [go_sem,iEq,iLE,iLT,iTN]
 refine ⟨_,appendSeqS l hl,?_⟩
 rintro _ _ ⟨rfl,rfl⟩
 simp only [go_sem,iEq,iLE,iLT,iTN]
 exact Fin.mv (om':=[strOb l]) [some 0] rfl ⟨.slcS rfl (strR_bl _),trivial⟩ (by simp) ⟨rfl,rfl⟩
theorem sortedS (l:List ByteArray) (hl:l.length≤1000000):AP Tryz.prog 89 [.fn VALS [.pel [Strs l]]] (Strs (srt l)):=by
 refine AC.lbody hT hm Tryz.func89 f89_nm f89_lc f89_res f89_nt ?_
 simp only [go_sem,iEq,iLE,iLT,iTN]
 refine ⟨_,collectS l hl,?_⟩
 rintro _ _ ⟨rfl,rfl⟩
 simp only [go_sem,iEq,iLE,iLT,iTN]
 refine ⟨_,sortS l hl 0 [strOb l] rfl,?_⟩
 rintro _ _ ⟨rfl,rfl⟩
 simp only [go_sem,iEq,iLE,iLT,iTN]
 exact Fin.ret (.frzS rfl rfl (strR_bl _))
theorem valuesS (l:List ByteArray):AP Tryz.prog 90 [Strs l] (.fn VALS [.pel [Strs l]]):=by
 refine AC.lbody hT hm Tryz.func90 f90_nm f90_lc f90_res f90_nt ?_
 simp only [go_sem,iEq,iLE,iLT,iTN]
 exact Fin.ret (.same (seqFn l))
theorem cloneS (l:List ByteArray) (hl:l.length≤1000000) (om:List Ob):AC Tryz.prog 73 [Strs l] om (fun o om'=>(l=[]∧o=.ret (.v (.slice none 0 0))∧om'=om)∨(o=.ret (.own (om.length+1))∧om'=om++[.dead,strOb l])):=by
 refine AC.lbodyA hT Tryz.func73 f73_nm f73_lc f73_res f73_nt ?_
 refine ALW.seq (xl_ok hT hm ?_)
 simp only [go_sem,iEq,iLE,iLT,iTN]
 refine ALW.seq (ALW.seq (ALW.regX ?_))
 refine OpX.aop (own:=true) hT ?_
 simp only [go_sem,iEq,iLE,iLT,iTN]
 refine OpX.eqNil hT (t:=22) (e:=9) rfl rfl rfl (fun he=>?_) ?_
 ·have hl0:l=[]:=by
   cases l with
   | nil=>rfl
   | cons x l=>simp [strR] at he
  refine xl_ok hT hm ?_
  simp only [go_sem,iEq,iLE,iLT,iTN]
  exact finSelf (.inl ⟨hl0,rfl,rfl⟩)
 ·refine xl_ok hT hm ?_
  simp only [go_sem,iEq,iLE,iLT,iTN]
  refine xl_ok hT hm ?_
  simp only [go_sem,iEq,iLE,iLT,iTN,get_con,set_con,lMp]
  refine ⟨by omega,?_⟩
  exact finSelf (.inr ⟨rfl,by simp⟩)
theorem compactNil:AP Tryz.prog 92 [.v (.slice none 0 0)] (.v (.slice none 0 0)):=
 AO.of_calls (vs:=[.slice none 0 0]) (by kernel_rfl) fun w=>Any.slices_Compact_string_empty layCompact none 0 w
theorem cpt_len (l:List ByteArray):(cpt l).length≤l.length:=by
 have:=Go.Lib.compact_length_le (lsts l)
 simp only [cpt,bas,lMp]
 simpa [lsts] using this
theorem numName1 (s:ByteArray) (hs:s.size≤1000000):AP Tryz.prog 116 [.s s] (.b (!nameB s)):=by
 refine AC.lbody hT hm Tryz.func116 f116_nm f116_lc f116_res f116_nt ?_
 simp only [go_sem,iEq,iLE,iLT,iTN]
 refine (numName s hs).pv ⟨.v,trivial⟩ ?_
 simp only [go_sem,iEq,iLE,iLT,iTN]
 exact Fin.v rfl
theorem numNames (l:List ByteArray) (hl:l.length≤1000000) (hs:∀ x∈l,x.size≤1000000):AP Tryz.prog 91 [Strs l] (.b (l.all nameB)):=by
 have e:(!l.any fun s=>!nameB s)=l.all nameB:=by
  induction l with
  | nil=>rfl
  | cons x l ih=>rw [List.any_cons,List.all_cons,Bool.not_or,Bool.not_not,ih (by simp at hl; omega) fun y hy=>hs y (by simp [hy])]
 refine AC.lbody hT hm Tryz.func91 f91_nm f91_lc f91_res f91_nt ?_
 simp only [go_sem,iEq,iLE,iLT,iTN]
 refine (anyStr 116 [] (by simp) (fun s=>!nameB s) l (by omega) fun x hx=>numName1 x (hs x hx)).pv ⟨.same (Strs_bl l),.same (by simp),trivial⟩ ?_
 simp only [go_sem,iEq,iLE,iLT,iTN]
 exact Fin.v (by rw [e])
set_option maxHeartbeats 1000000 in
theorem once (l:List ByteArray) (hl:l.length≤1000000) (hs:∀ x∈l,x.size≤1000000):AP Tryz.prog 71 [Strs l] (.b (onceB l)):=by
 have hsl:=srt_len l
 have hN:=numNames (srt l) (by omega) fun x hx=>hs x ((srt_perm l).mem_iff.1 hx)
 rw [srt_all] at hN
 have hC:=cpt_srt l
 have hcl:=cpt_len (srt l)
 unfold onceB
 refine AC.lbody hT hm Tryz.func71 f71_nm f71_lc f71_res f71_nt ?_
 simp only [go_sem,iEq,iLE,iLT,iTN]
 refine (valuesS l).pd ⟨.same (Strs_bl l),trivial⟩ (seqFn l) ?_
 simp only [go_sem,iEq,iLE,iLT,iTN]
 refine (sortedS l hl).pd ⟨.same (seqFn l),trivial⟩ (Strs_bl _) ?_
 simp only [go_sem,iEq,iLE,iLT,iTN]
 refine hN.pv ⟨.same (Strs_bl _),trivial⟩ ?_
 cases l.all nameB with
 | false=>
  simp only [go_sem,iEq,iLE,iLT,iTN]
  exact Fin.v (by rw [Bool.false_and])
 | true=>
 rw [Bool.true_and,← hC]
 simp only [go_sem,iEq,iLE,iLT,iTN]
 refine ⟨_,cloneS (srt l) (by omega) [],?_⟩
 rintro _ _ (⟨h0,rfl,rfl⟩ | ⟨rfl,rfl⟩)
 ·have e0:(((0:Nat):Int) == 0)=true:=rfl
  simp only [go_sem,iEq,iLE,iLT,iTN]
  refine compactNil.pv ⟨.v,trivial⟩ ?_
  rw [h0]
  simp only [go_sem,iEq,iLE,iLT,iTN,List.length_nil,e0]
  exact Fin.v rfl
 ·simp only [go_sem,iEq,iLE,iLT,iTN]
  refine ⟨_,compactS (srt l) (by omega) 1 _ rfl,?_⟩
  rintro _ _ ⟨rfl,rfl⟩
  simp only [go_sem,iEq,iLE,iLT,iTN,lMp]
  exact Fin.v (by congr 1; rw [Bool.eq_iff_iff]; simp only [beq_iff_eq,decide_eq_true_eq]; omega)
end Go.Proofs.YtbmedfjmccnclaaGreat.W
set_option maxRecDepth 100000
namespace Go.Proofs.YtbmedfjmccnclaaGreat.W
open Go Go.Proofs Go.Proofs.YtbmedfjmccnclaaGreat.AWP
open Int renaming reduceEq→iEq,reduceLE→iLE,reduceLT→iLT,reduceToNat→iTN
open List renaming length_map→lMp
open _root_.List renaming length_append → za, take_of_length_le → zb
open _root_.Nat renaming zero_le → zc
attribute [local irreducible] xl hide aop aops aopQ qops guardP condP
abbrev rowsR (l:List (List ByteArray)):List (List D):=l.map fun x=>[Strs x]
abbrev RowS (l:List (List ByteArray)):D:=.sl 1 (rowsR l)
theorem rowsR_bl (l:List (List ByteArray)):∀ r∈rowsR l,∀ d∈r,Bl 0 d:=by
 intro r hr d hd
 obtain ⟨s,_,rfl⟩:=List.mem_map.1 hr
 rw [List.mem_singleton.1 hd]
 exact Strs_bl s
theorem RowS_bl (l:List (List ByteArray)):Bl 0 (RowS l):=.sl (rowsR_bl l)
theorem rows_get {l:List (List ByteArray)} {i:Nat} {x:List ByteArray} (h:l[i]? = some x):(rowsR l)[i]? = some [Strs x]:=by rw [List.getElem?_map,h]; rfl
theorem flat_take {l:List (List ByteArray)} {i:Nat} {x:List ByteArray} (h:l[i]? = some x):(l.take (i+1)).flatten=(l.take i).flatten++x:=by
 rw [List.take_add_one,h,List.flatten_append]; simp
theorem flat_le (l:List (List ByteArray)) (i:Nat):(l.take i).flatten.length≤l.flatten.length:=by
 conv=>rhs; rw [← List.take_append_drop i l,List.flatten_append,za]
 omega
set_option maxHeartbeats 2000000 in
theorem concatS (l:List (List ByteArray)) (hl:l.length≤1000000) (hf:l.flatten.length≤1000000):AP Tryz.prog 101 [RowS l] (Strs l.flatten):=by
 have hq:∀ om (F:Nat→Bool) (ks:List (Option Nat)),Cv om F ks (RowS l) (RowS l):=fun om F ks=>.same (RowS_bl l)
 refine AC.lbody hT hm Tryz.func101 f101_nm f101_lc f101_res f101_nt ?_
 simp only [go_sem,iEq,iLE,iLT,iTN,lMp]
 refine xl_loopM hT hm (fun i:Nat=>⟨f101_i9 (RowS l) (.i ((l.take i).flatten.length:Nat)) (RowS l) (.i l.length) (.i i),[]⟩)
  (fun i=>i≤l.length) (fun i=>l.length - i) 0 (zc _) (Mv.none (by simp only [f101_i9,CvL]; simp [hq])) ?_
 intro i hi
 simp only [go_sem,iEq,iLE,iLT,iTN,lMp]
 by_cases h:i<l.length
 case pos=>
  obtain ⟨x,hx⟩:=get_ex h
  have h5:=flat_take hx
  have h6:=flat_le l (i+1)
  have h7:(l.take (i+1)).flatten.length=(l.take i).flatten.length+x.length:=by rw [h5,za]
  have e:IntKind.i64.wrap (((l.take i).flatten.length:Int)+(x.length:Int))=(((l.take (i+1)).flatten.length:Nat):Int):=by
   rw [wrap_int _ (by omega) (by omega)]; omega
  have h8:¬ (((l.take (i+1)).flatten.length:Nat):Int)<0:=by omega
  have hwi:=wrap_succ i (by omega)
  simp only [go_sem,iEq,iLE,iLT,iTN,h,hx,rows_get hx,lMp,e,h8,hwi]
  exact ⟨i+1,h,by omega,Mv.none (by simp only [CvL]; simp [hq])⟩
 have ht:l.take i=l:=zb (by omega)
 simp only [go_sem,iEq,iLE,iLT,iTN,h,lMp,ht]
 refine ⟨_,growS l.flatten.length hf [],?_⟩
 have hgo:∀ i:Nat,i<l.length→∃ x,l[i]? = some x:=fun i h=>get_ex h
 rintro _ _ (⟨h0,rfl,rfl⟩ | ⟨h0,rfl,rfl⟩)
 ·simp only [go_sem,iEq,iLE,iLT,iTN,lMp]
  refine xl_loopM hT hm (fun i:Nat=>⟨f101_i16 (.own 0) (RowS l) (.i l.length) (.i i),[strOb (l.take i).flatten]⟩)
   (fun i=>i≤l.length) (fun i=>l.length - i) 0 (zc _) ?_ ?_
  ·exact Mv.of [none] rfl ⟨.nil (by decide),trivial⟩ (by simp only [f101_i16,CvL]; simp [hq])
  intro i hi
  simp only [go_sem,iEq,iLE,iLT,iTN,lMp]
  by_cases h:i<l.length
  ·obtain ⟨x,hx⟩:=get_ex h
   have h5:=flat_take hx
   have h6:=flat_le l (i+1)
   have h7:(l.take (i+1)).flatten.length=(l.take i).flatten.length+x.length:=by rw [h5,za]
   have hwi:=wrap_succ i (by omega)
   obtain ⟨P,hP⟩:∃ P,P=(l.take i).flatten:=⟨_,rfl⟩
   have hPl:P.length+x.length≤1000000:=by rw [hP]; omega
   rw [← hP] at h5 ⊢
   simp only [go_sem,iEq,iLE,iLT,iTN,h,hx,rows_get hx,lMp,hwi]
   refine ⟨by omega,i+1,h,by omega,?_⟩
   rw [h5]
   exact Mv.of [some 1] rfl ⟨.slcS (by simp) (strR_bl _),trivial⟩ (by simp only [CvL]; simp [hq])
  ·have ht:l.take i=l:=zb (by omega)
   simp only [go_sem,iEq,iLE,iLT,iTN,h,lMp]
   rw [ht]
   exact Fin.ret (.frzS rfl rfl (strR_bl _))
 ·simp only [go_sem,iEq,iLE,iLT,iTN,lMp]
  refine xl_loopM hT hm (fun i:Nat=>⟨f101_i16 (.own 0) (RowS l) (.i l.length) (.i i),[strOb (l.take i).flatten]⟩)
   (fun i=>i≤l.length) (fun i=>l.length - i) 0 (zc _) ?_ ?_
  ·exact Mv.of [some 0] rfl ⟨.slcS rfl (strR_bl _),trivial⟩ (by simp only [f101_i16,CvL]; simp [hq])
  intro i hi
  simp only [go_sem,iEq,iLE,iLT,iTN,lMp]
  by_cases h:i<l.length
  ·obtain ⟨x,hx⟩:=get_ex h
   have h5:=flat_take hx
   have h6:=flat_le l (i+1)
   have h7:(l.take (i+1)).flatten.length=(l.take i).flatten.length+x.length:=by rw [h5,za]
   have hwi:=wrap_succ i (by omega)
   obtain ⟨P,hP⟩:∃ P,P=(l.take i).flatten:=⟨_,rfl⟩
   have hPl:P.length+x.length≤1000000:=by rw [hP]; omega
   rw [← hP] at h5 ⊢
   simp only [go_sem,iEq,iLE,iLT,iTN,h,hx,rows_get hx,lMp,hwi]
   refine ⟨by omega,i+1,h,by omega,?_⟩
   rw [h5]
   exact Mv.of [some 1] rfl ⟨.slcS (by simp) (strR_bl _),trivial⟩ (by simp only [CvL]; simp [hq])
  ·have ht:l.take i=l:=zb (by omega)
   simp only [go_sem,iEq,iLE,iLT,iTN,h,lMp]
   rw [ht]
   exact Fin.ret (.frzS rfl rfl (strR_bl _))
end Go.Proofs.YtbmedfjmccnclaaGreat.W
set_option maxRecDepth 100000
namespace Go.Proofs.YtbmedfjmccnclaaGreat.W
open Go Go.Proofs Go.Proofs.YtbmedfjmccnclaaGreat.AWP
open Int renaming reduceEq→iEq,reduceLE→iLE,reduceLT→iLT,reduceToNat→iTN
open List renaming length_map→lMp
open _root_.Bool renaming false_and → za, and_false → zb, true_and → zc, not_false → zd, not_true → ze
attribute [local irreducible] xl hide aop aops aopQ qops guardP condP
structure GFit (g:Gr):Prop where
 kinds:g.kinds.length≤1000000
 defs:g.defs.length≤1000000
 nodes:grSz g.defs≤1099511627776
 names:∀ x∈grNms g,x.size≤1000000
set_option maxHeartbeats 4000000 in
theorem cMayG (g:Gr) (hg:GFit g):AP Tryz.prog 75 [.agg g.c] (.b (mayG g)):=by
 obtain ⟨hk,hd,hz,hs⟩:=hg
 have hq:=pelG g
 have hN:=cNames g.defs hd
 unfold mayG
 refine AC.lbody hT hm Tryz.func75 f75_nm f75_lc f75_res f75_nt ?_
 simp only [go_sem,iEq,iLE,iLT,iTN,lMp]
 by_cases h1:(g.kinds.length:Int)<1
 ·simp only [go_sem,iEq,iLE,iLT,iTN,h1,lMp]
  exact Fin.v (by rw [decide_eq_false (show ¬ 1≤g.kinds.length by omega)]; rfl)
 by_cases h2:(100:Int)<g.kinds.length
 ·simp only [go_sem,iEq,iLE,iLT,iTN,h1,h2,lMp]
  exact Fin.v (by rw [decide_eq_false (show ¬ g.kinds.length≤100 by omega),za,zb,za])
 by_cases h3:(g.defs.length:Int)<1
 ·simp only [go_sem,iEq,iLE,iLT,iTN,h1,h2,h3,lMp]
  exact Fin.v (by rw [decide_eq_false (show ¬ 1≤g.defs.length by omega),za,zb,zb,za])
 by_cases h4:(50:Int)<g.defs.length
 ·simp only [go_sem,iEq,iLE,iLT,iTN,h1,h2,h3,h4,lMp]
  exact Fin.v (by rw [decide_eq_false (show ¬ g.defs.length≤50 by omega),za,zb,zb,zb,za])
 rw [decide_eq_true (show 1≤g.kinds.length by omega),decide_eq_true (show g.kinds.length≤100 by omega),decide_eq_true (show 1≤g.defs.length by omega),decide_eq_true (show g.defs.length≤50 by omega),zc,zc,zc,zc]
 have hC:=concatS [g.kinds,g.defs.map (·.1)] (by simp) (by simp; omega)
 have hO:=once (grNms g) (by unfold grNms; simp; omega) hs
 have hfl:[g.kinds,g.defs.map (·.1)].flatten=grNms g:=by simp [grNms]
 rw [hfl] at hC
 simp only [go_sem,iEq,iLE,iLT,iTN,h1,h2,h3,h4,lMp,gr_take,gr_c_len]
 refine hN.qd ⟨.same (Defs_bl _),trivial⟩ (Strs_bl _) ?_
 simp only [go_sem,iEq,iLE,iLT,iTN]
 refine hC.pd ⟨.same (show Bl 0 (RowS [g.kinds,g.defs.map fun x=>x.1]) from RowS_bl _),trivial⟩ (Strs_bl _) ?_
 simp only [go_sem,iEq,iLE,iLT,iTN]
 refine hO.pv ⟨.same (Strs_bl _),trivial⟩ ?_
 cases hob:onceB (grNms g) with
 | false=>
  simp only [go_sem,iEq,iLE,iLT,iTN,zd]
  exact Fin.v (by rw [za])
 | true=>
 rw [zc]
 simp only [go_sem,iEq,iLE,iLT,iTN,ze,lMp]
 refine xl_loopM hT hm (fun i:Nat=>⟨f75_i12 (.pel g.c) (.i (grSz (g.defs.take i):Nat)) (Defs g.defs) (.i g.defs.length) (.i i),[]⟩)
  (fun i=>i≤g.defs.length∧defsOk g=(g.defs.drop i).all fun x=>x.2.may g.kinds.length g.defs.length) (fun i=>g.defs.length - i) 0 ⟨Nat.zero_le _,rfl⟩ (Mv.none (by simp only [f75_i12,CvL]; simp [hq]; exact ⟨rfl,.same (Defs_bl _)⟩)) ?_
 rintro i ⟨hi,hn⟩
 simp only [go_sem,iEq,iLE,iLT,iTN,lMp]
 by_cases h:i<g.defs.length
 case neg=>
  have ht:g.defs.take i=g.defs:=List.take_of_length_le (by omega)
  have e:defsOk g=true:=by rw [hn,drop_end h]; rfl
  simp only [go_sem,iEq,iLE,iLT,iTN,h,lMp]
  rw [ht,e,zc]
  exact Fin.v (by congr 1; rw [decide_eq_decide]; omega)
 obtain ⟨x,hx⟩:=get_ex h
 have hst:=all_drop (p:=fun x:Df=>x.2.may g.kinds.length g.defs.length) hx
 have h5:=grSz_take hx
 have h6:=grSz_le g.defs (i+1)
 have h7:=grSz_mem (List.mem_of_getElem? hx)
 have hOf:=cNodes g x.2
 have hAl:=cSize1 x.2 (by omega)
 have hwi:=wrap_succ i (by omega)
 have e:IntKind.i64.wrap ((grSz (g.defs.take i):Nat)+(x.2.sz:Int))=((grSz (g.defs.take (i+1)):Nat):Int):=by
  rw [wrap_int _ (by omega) (by omega)]; omega
 have hDf:∀ om (F:Nat→Bool) (ks:List (Option Nat)),Cv om F ks (Defs g.defs) (Defs g.defs):=fun om F ks=>.same (Defs_bl _)
 simp only [go_sem,iEq,iLE,iLT,iTN,h,hx,lMp,df_0,df_drop,df_len,df_take,df_put,Cf.c_take,gr_take,gr_c_len]
 refine hOf.pv ⟨.same (Gr.d_bl g),.same (Cf.d_bl _),trivial⟩ ?_
 cases hm:x.2.may g.kinds.length g.defs.length with
 | false=>
  simp only [go_sem,iEq,iLE,iLT,iTN,zd]
  exact Fin.v (by rw [hn,hst,hm]; rfl)
 | true=>
 simp only [go_sem,iEq,iLE,iLT,iTN,ze,hx,h,lMp,df_drop,Cf.c_take]
 refine hAl.pv ⟨.same (one_blC _),trivial⟩ ?_
 simp only [go_sem,iEq,iLE,iLT,iTN,lMp,e,hwi]
 exact ⟨i+1,⟨h,by rw [hn,hst,hm]; rfl⟩,by omega,Mv.none (by simp only [CvL]; simp [hq,hDf])⟩
theorem cMay1 (g:Gr) (hg:GFit g):AP Tryz.prog 76 [.agg g.c] (.b (!mayG g)):=by
 refine AC.lbody hT hm Tryz.func76 f76_nm f76_lc f76_res f76_nt ?_
 simp only [go_sem,iEq,iLE,iLT,iTN,gr_take,gr_c_len]
 refine (cMayG g hg).pv ⟨.same (Gr.d_bl g),trivial⟩ ?_
 simp only [go_sem,iEq,iLE,iLT,iTN]
 exact Fin.v rfl
theorem cMayS (l:List Gr) (hl:l.length≤1000000) (hg:∀ g∈l,GFit g):AP Tryz.prog 42 [Grs l] (.b (l.all mayG)):=by
 have e:(!l.any fun g=>!mayG g)=l.all mayG:=by
  clear hl hg
  induction l with
  | nil=>rfl
  | cons x l ih=>rw [List.any_cons,List.all_cons,Bool.not_or,Bool.not_not,ih]
 refine AC.lbody hT hm Tryz.func42 f42_nm f42_lc f42_res f42_nt ?_
 simp only [go_sem,iEq,iLE,iLT,iTN]
 refine (anyGr 76 [] (by simp) (fun g=>!mayG g) l (by omega) fun x hx=>cMay1 x (hg x hx)).pv ⟨.same (Grs_bl l),.same (by simp),trivial⟩ ?_
 simp only [go_sem,iEq,iLE,iLT,iTN]
 exact Fin.v (by rw [e])
theorem cFits1 (g:Gr) (c:Cf) (hc:c.sz≤1099511627776):AP Tryz.prog 86 [.agg c.c,.pel g.c] (.b (!(c.may g.kinds.length g.defs.length && decide (c.sz≤2000)))):=by
 refine AC.lbody hT hm Tryz.func86 f86_nm f86_lc f86_res f86_nt ?_
 simp only [go_sem,iEq,iLE,iLT,iTN,gr_take,gr_c_len,Cf.c_take]
 refine (cNodes g c).pv ⟨.same (Gr.d_bl g),.same (Cf.d_bl _),trivial⟩ ?_
 cases c.may g.kinds.length g.defs.length with
 | false=>
  simp only [go_sem,iEq,iLE,iLT,iTN,zd]
  exact Fin.v rfl
 | true=>
 simp only [go_sem,iEq,iLE,iLT,iTN,ze,Cf.c_take]
 refine (cSize1 c hc).pv ⟨.same (one_blC _),trivial⟩ ?_
 simp only [go_sem,iEq,iLE,iLT,iTN]
 exact Fin.v (by congr 1; rw [Bool.eq_iff_iff]; simp; omega)
end Go.Proofs.YtbmedfjmccnclaaGreat.W
set_option maxRecDepth 100000
namespace Go.Proofs.YtbmedfjmccnclaaGreat.W
open Go Go.Proofs Go.Proofs.YtbmedfjmccnclaaGreat.AWP
open Int renaming reduceEq→iEq,reduceLE→iLE,reduceLT→iLT,reduceToNat→iTN
open List renaming length_map→lMp
open _root_.Bool renaming and_false → za
attribute [local irreducible] xl hide aop aops aopQ qops guardP condP
abbrev crOb (ks ds:List ByteArray) (s:ByteArray) (p:Nat):Ob:=.var 124 [.s s,.i p,Strs ks,Strs ds]
abbrev wrongC (p e:Nat):D:=.ifc 146 (.agg [.i p,.i e])
theorem crBl (ks ds:List ByteArray) (s:ByteArray) (p:Nat):∀ d∈([.s s,.i p,Strs ks,Strs ds]:List D),Bl 0 d:=by
 intro d hd
 simp only [List.mem_cons,List.not_mem_nil,or_false] at hd
 rcases hd with rfl | rfl | rfl | rfl
 ·exact .v _
 ·exact .v _
 ·exact Strs_bl _
 ·exact Strs_bl _
section
variable {ks ds:List ByteArray} {s:ByteArray}
theorem mvK {p:Nat} {om:List Ob} {F:Nat→Bool} (h:om[0]? = some (crOb ks ds s p)):MvL om F [some 0] [some 0] [crOb ks ds s p]:=⟨.varS h (crBl ks ds s p),trivial⟩
theorem FinK {p:Nat} {om:List Ob} {d d':D} {R:Out→List Ob→Prop} {om0:List Ob} (h0:om0.length=1) (h:om[0]? = some (crOb ks ds s p)) (hd:Cv om (kF [some 0]) [some 0] d d') (hr:R (.ret d') [crOb ks ds s p]):Fin om0 om (.ret d) R:=
 Fin.mv [some 0] (by rw [h0]; rfl) (mvK h) hd hr
theorem FinQ {p e n:Nat} {om:List Ob} {R:Out→List Ob→Prop} {om0:List Ob} (h0:om0.length=1) (h:om[0]? = some (crOb ks ds s p)) (hr:R (.panic (wrongC e n)) [crOb ks ds s p]):Fin om0 om (.panic (wrongC e n)) R:=
 Fin.mvp [some 0] (by rw [h0]; rfl) (mvK h) (.same (by simp)) hr
def toK (ks ds:List ByteArray) (s:ByteArray) (q:Nat) (fr:List Ob):Out→List Ob→Prop:=fun o om=>o=.ret (.tup [])∧om=crOb ks ds s q :: fr
def badK (ks ds:List ByteArray) (s:ByteArray) (e n:Nat) (fr:List Ob):Out→List Ob→Prop:=fun o om=>o=.panic (wrongC e n)∧∃ k,om=crOb ks ds s k :: fr
theorem _root_.Go.Proofs.YtbmedfjmccnclaaGreat.AWP.AC.ck {f:FuncId} {dl:List D} {p:Nat} {fr:List Ob} {R R':Out→List Ob→Prop} (h:AC Tryz.prog f dl [crOb ks ds s p] R) (hds:∀ d∈dl,Bl 1 d)
  (hR:∀ o om,R o om→om.length=1∧R' o (om++fr)):AC Tryz.prog f dl (crOb ks ds s p :: fr) R':=by
 refine (AC.frame (fr:=fr) h (fun o ho=>?_) hds fun o om' hr=>(hR o om' hr).1).mono ?_
 ·cases List.mem_singleton.1 ho
  exact fun d hd=>(crBl ks ds s p d hd).mono (Nat.zero_le _)
 ·rintro o om ⟨om',hr,rfl⟩
  exact (hR o om' hr).2
theorem letterC (b:UInt8):AP Tryz.prog 178 [.y b] (.b (ltrB b.toNat)):=by
 have e95:((b.toNat:Int) == 95)=decide (b.toNat=95):=by rw [Bool.eq_iff_iff]; simp; omega
 unfold ltrB
 refine AC.lbody hT hm Tryz.func178 f178_nm f178_lc f178_res f178_nt ?_
 by_cases k1:(97:Int)≤b.toNat
 ·by_cases k2:(b.toNat:Int)≤122
  ·simp only [go_sem,iEq,iLE,iLT,iTN,k1,k2]
   exact Fin.v (by rw [decide_eq_true (show 97≤b.toNat by omega),decide_eq_true (show b.toNat≤122 by omega)]; rfl)
  ·have k3:(48:Int)≤b.toNat:=by omega
   have k4:¬ (b.toNat:Int)≤57:=by omega
   simp only [go_sem,iEq,iLE,iLT,iTN,k1,k2,k3,k4,e95]
   exact Fin.v (by rw [decide_eq_false (show ¬ b.toNat≤122 by omega),decide_eq_false (show ¬ b.toNat≤57 by omega),za,za]; rfl)
 ·by_cases k3:(48:Int)≤b.toNat
  ·by_cases k4:(b.toNat:Int)≤57
   ·simp only [go_sem,iEq,iLE,iLT,iTN,k1,k3,k4]
    exact Fin.v (by rw [decide_eq_true (show 48≤b.toNat by omega),decide_eq_true (show b.toNat≤57 by omega),Bool.and_true,Bool.or_true]; rfl)
   ·simp only [go_sem,iEq,iLE,iLT,iTN,k1,k3,k4,e95]
    exact Fin.v (by rw [decide_eq_false (show ¬ 97≤b.toNat by omega),decide_eq_false (show ¬ b.toNat≤57 by omega),za]; rfl)
  ·simp only [go_sem,iEq,iLE,iLT,iTN,k1,k3,e95]
   exact Fin.v (by rw [decide_eq_false (show ¬ 97≤b.toNat by omega),decide_eq_false (show ¬ 48≤b.toNat by omega)]; rfl)
theorem blanksC (p:Nat) (hs:s.size≤65536):AC Tryz.prog 99 [.ref 0 0] [crOb ks ds s p] (toK ks ds s (skipB s p) []):=by
 refine AC.lbody hT hm Tryz.func99 f99_nm f99_lc f99_res f99_nt ?_
 simp only [go_sem,iEq,iLE,iLT,iTN]
 refine xl_loopM hT hm (fun i:Nat=>⟨f99_i2 (.ref 0 0),[crOb ks ds s i]⟩)
  (fun i=>skipB s i=skipB s p) (fun i=>s.size - i) p rfl (Mv.of [some 0] rfl (mvK rfl) (by simp [f99_i2])) ?_
 intro i hi
 simp only [go_sem,iEq,iLE,iLT,iTN]
 by_cases h:i<s.size
 case neg=>
  simp only [go_sem,iEq,iLE,iLT,iTN,h]
  rw [skipB_eq,if_neg (fun hh=>h hh.1)] at hi
  rw [← hi]
  exact FinK rfl rfl (by simp) ⟨rfl,rfl⟩
 obtain ⟨b,hb⟩:=get_lt h
 rw [skipB_eq,at_of hb] at hi
 by_cases h32:b.toNat=32
 ·have e:((b.toNat:Int) == 32)=true:=by rw [h32]; rfl
  have hw:=wrap_succ i (by omega)
  simp only [go_sem,iEq,iLE,iLT,iTN,h,hb,e,hw]
  rw [if_pos ⟨h,h32⟩] at hi
  exact ⟨i+1,hi,by omega,Mv.of [some 0] rfl (mvK rfl) (by simp [f99_i2])⟩
 ·have e:((b.toNat:Int) == 32)=false:=by simp; omega
  simp only [go_sem,iEq,iLE,iLT,iTN,h,hb,e]
  rw [if_neg (fun hh=>h32 hh.2)] at hi
  rw [← hi]
  exact FinK rfl rfl (by simp) ⟨rfl,rfl⟩
theorem blanksF (p:Nat) (hs:s.size≤65536) (fr:List Ob):AC Tryz.prog 99 [.ref 0 0] (crOb ks ds s p :: fr) (toK ks ds s (skipB s p) fr):=
 (blanksC p hs).ck (by simp) (by rintro _ _ ⟨rfl,rfl⟩; exact ⟨rfl,rfl,rfl⟩)
theorem isK (c:UInt8) (p:Nat) (hs:s.size≤65536):AC Tryz.prog 124 [.ref 0 0,.y c] [crOb ks ds s p] (retP (.b (byB s (skipB s p) c.toNat)) [crOb ks ds s (skipB s p)]):=by
 refine AC.lbody hT hm Tryz.func124 f124_nm f124_lc f124_res f124_nt ?_
 simp only [go_sem,iEq,iLE,iLT,iTN]
 refine ⟨_,blanksC p hs,?_⟩
 rintro _ _ ⟨rfl,rfl⟩
 simp only [go_sem,iEq,iLE,iLT,iTN]
 generalize skipB s p=q
 by_cases h:q<s.size
 case neg=>
  simp only [go_sem,iEq,iLE,iLT,iTN,h]
  rw [byB_end h]
  exact FinK rfl rfl .v ⟨rfl,rfl⟩
 obtain ⟨b,hb⟩:=get_lt h
 have e:((b.toNat:Int) == (c.toNat:Int))=decide (b.toNat=c.toNat):=by rw [Bool.eq_iff_iff]; simp; omega
 simp only [go_sem,iEq,iLE,iLT,iTN,h,hb,e]
 rw [byB_at h hb]
 exact FinK rfl rfl .v ⟨rfl,rfl⟩
theorem isKF (c:UInt8) (p:Nat) (hs:s.size≤65536) (fr:List Ob):AC Tryz.prog 124 [.ref 0 0,.y c] (crOb ks ds s p :: fr) (retP (.b (byB s (skipB s p) c.toNat)) (crOb ks ds s (skipB s p) :: fr)):=
 (isK c p hs).ck (by simp) (by rintro _ _ ⟨rfl,rfl⟩; exact ⟨rfl,rfl,rfl⟩)
theorem failK (p e n:Nat):AC Tryz.prog 100 [.ref 0 0,.i e,.i n] [crOb ks ds s p] (fun o om=>o=.panic (wrongC e n)∧om=[crOb ks ds s p]):=by
 refine AC.lbody hT hm Tryz.func100 f100_nm f100_lc f100_res f100_nt ?_
 simp only [go_sem,iEq,iLE,iLT,iTN]
 exact ⟨rfl,FinQ rfl rfl ⟨rfl,rfl⟩⟩
theorem failF (p e n:Nat) (fr:List Ob):AC Tryz.prog 100 [.ref 0 0,.i e,.i n] (crOb ks ds s p :: fr) (fun o om=>o=.panic (wrongC e n)∧om=crOb ks ds s p :: fr):=
 (failK p e n).ck (by simp) (by rintro _ _ ⟨rfl,rfl⟩; exact ⟨rfl,rfl,rfl⟩)
theorem badK_fr {e n:Nat} {fr:List Ob} {o:Out} {om:List Ob} (h:badK ks ds s e n [] o om):om.length=1∧badK ks ds s e n fr o (om++fr):=by
 obtain ⟨rfl,k,rfl⟩:=h
 exact ⟨rfl,rfl,k,rfl⟩
theorem eatK (c:UInt8) (p:Nat) (hs:s.size≤65536):AC Tryz.prog 160 [.ref 0 0,.y c] [crOb ks ds s p] (fun o om=>(byB s (skipB s p) c.toNat=true∧toK ks ds s (skipB s p+1) [] o om)∨(byB s (skipB s p) c.toNat=false∧badK ks ds s (skipB s p) 2 [] o om)):=by
 refine AC.lbody hT hm Tryz.func160 f160_nm f160_lc f160_res f160_nt ?_
 simp only [go_sem,iEq,iLE,iLT,iTN]
 refine ⟨_,isK c p hs,?_⟩
 rintro _ _ ⟨rfl,rfl⟩
 generalize skipB s p=q
 cases h:byB s q c.toNat
 ·simp only [go_sem,iEq,iLE,iLT,iTN,Bool.not_false]
  refine ⟨_,failK q q 2,?_⟩
  rintro _ _ ⟨rfl,rfl⟩
  simp only [go_sem,iEq,iLE,iLT,iTN]
  exact FinQ rfl rfl (.inr ⟨rfl,_,rfl⟩)
 ·have hp:=byB_lt h
  have hw:=wrap_succ q (by omega)
  simp only [go_sem,iEq,iLE,iLT,iTN,Bool.not_true,hw]
  exact FinK rfl rfl (by simp) (.inl ⟨rfl,rfl⟩)
theorem eatKF (c:UInt8) (p:Nat) (hs:s.size≤65536) (fr:List Ob):AC Tryz.prog 160 [.ref 0 0,.y c] (crOb ks ds s p :: fr) (fun o om=>(byB s (skipB s p) c.toNat=true∧toK ks ds s (skipB s p+1) fr o om)∨(byB s (skipB s p) c.toNat=false∧badK ks ds s (skipB s p) 2 fr o om)):=
 (eatK c p hs).ck (by simp) (by
  rintro o om (⟨h,rfl,rfl⟩ | ⟨h,hb⟩)
  ·exact ⟨rfl,.inl ⟨h,rfl,rfl⟩⟩
  ·exact ⟨(badK_fr (fr:=fr) hb).1,.inr ⟨h,(badK_fr hb).2⟩⟩)
theorem namedK (p:Nat) (hs:s.size≤65536):AC Tryz.prog 139 [.ref 0 0] [crOb ks ds s p] (retP (.b (lowB s (skipB s p))) [crOb ks ds s (skipB s p)]):=by
 refine AC.lbody hT hm Tryz.func139 f139_nm f139_lc f139_res f139_nt ?_
 simp only [go_sem,iEq,iLE,iLT,iTN]
 refine ⟨_,blanksC p hs,?_⟩
 rintro _ _ ⟨rfl,rfl⟩
 simp only [go_sem,iEq,iLE,iLT,iTN]
 generalize skipB s p=q
 by_cases h:q<s.size
 case neg=>
  simp only [go_sem,iEq,iLE,iLT,iTN,h]
  rw [lowB_end h]
  exact FinK rfl rfl .v ⟨rfl,rfl⟩
 obtain ⟨b,hb⟩:=get_lt h
 rw [lowB_at h hb]
 by_cases k1:(97:Int)≤b.toNat
 ·simp only [go_sem,iEq,iLE,iLT,iTN,h,hb,k1]
  exact FinK rfl rfl .v ⟨by rw [decide_eq_true (show 97≤b.toNat by omega),Bool.true_and]; congr 3; rw [decide_eq_decide]; omega,rfl⟩
 ·simp only [go_sem,iEq,iLE,iLT,iTN,h,hb,k1]
  exact FinK rfl rfl .v ⟨by rw [decide_eq_false (show ¬ 97≤b.toNat by omega),Bool.false_and],rfl⟩
theorem namedKF (p:Nat) (hs:s.size≤65536) (fr:List Ob):AC Tryz.prog 139 [.ref 0 0] (crOb ks ds s p :: fr) (retP (.b (lowB s (skipB s p))) (crOb ks ds s (skipB s p) :: fr)):=
 (namedK p hs).ck (by simp) (by rintro _ _ ⟨rfl,rfl⟩; exact ⟨rfl,rfl,rfl⟩)
end
end Go.Proofs.YtbmedfjmccnclaaGreat.W
set_option maxRecDepth 100000
namespace Go.Proofs.YtbmedfjmccnclaaGreat.W
open Go Go.Proofs Go.Proofs.YtbmedfjmccnclaaGreat.AWP
open Int renaming reduceEq→iEq,reduceLE→iLE,reduceLT→iLT,reduceToNat→iTN
open List renaming length_map→lMp
open _root_.Nat renaming le_of_lt → za
attribute [local irreducible] xl hide aop aops aopQ qops guardP condP
section
variable {ks ds:List ByteArray} {s:ByteArray}
def crR (ks ds:List ByteArray) (s:ByteArray) (x:CR) (fr:List Ob):Out→List Ob→Prop:=fun o om=>
 match x with
 | .ok r q=>o=.ret (.agg r.c)∧om=crOb ks ds s q :: fr
 | .bad e n=>badK ks ds s e n fr o om
theorem _root_.Go.Proofs.YtbmedfjmccnclaaGreat.AWP.AC.cr {f:FuncId} {p:Nat} {x:CR} (fr:List Ob) (h:AC Tryz.prog f [.ref 0 0] [crOb ks ds s p] (crR ks ds s x [])):AC Tryz.prog f [.ref 0 0] (crOb ks ds s p :: fr) (crR ks ds s x fr):=
 h.ck (by simp) (by
  intro o om h
  unfold crR at h ⊢
  split at h
  ·obtain ⟨rfl,rfl⟩:=h; exact ⟨rfl,rfl,rfl⟩
  ·exact badK_fr h)
theorem FinKR {r:Cf} {q:Nat} {om:List Ob} {d:D} {om0:List Ob} (h0:om0.length=1) (h:om[0]? = some (crOb ks ds s q)) (hd:Cv om (kF [some 0]) [some 0] d (.agg r.c)):Fin om0 om (.ret d) (crR ks ds s (.ok r q) []):=
 FinK h0 h hd ⟨rfl,rfl⟩
theorem FinKB {e n k:Nat} {om:List Ob} {om0:List Ob} (h0:om0.length=1) (h:om[0]? = some (crOb ks ds s k)):Fin om0 om (.panic (wrongC e n)) (crR ks ds s (.bad e n) []):=
 FinQ h0 h ⟨rfl,_,rfl⟩
abbrev zCf:List D:=[.v (.int .u8 0),.v (.int .i64 0),.v (.slice Option.none 0 0)]
abbrev zCfOb:Ob:=.var 28 zCf
theorem cf_put (b:Cf):obPut zCfOb 0 b.c=some (.var 28 b.c):=Cf.put0 _ _ rfl b
theorem bare_c (k n:Int):(Cf.mk k n []).c=[.v (.int .u8 k),.v (.int .i64 n),.sl 3 []]:=by rw [Cf.c_mk,Cf.cs_eq]; rfl
theorem mvK2 {p:Nat} {om:List Ob} {F:Nat→Bool} (h0:om[0]? = some (crOb ks ds s p)) (h1:om[1]? = some zCfOb):MvL om F [some 0,some 1] [some 0,some 1] [crOb ks ds s p,zCfOb]:=
 ⟨.varS h0 (crBl ks ds s p),.varS h1 (by simp),trivial⟩
theorem nmI_eq (l:List ByteArray) (w:ByteArray):idxI (fun x=>decide (w=x)) l=nmI l w:=rfl
theorem nmI_ge (l:List ByteArray) (w:ByteArray) : -1≤nmI l w:=by
 unfold nmI
 split <;> omega
def nameQ (ks ds:List ByteArray) (s:ByteArray) (p:Nat):CR:=
 if lowB s p=true then
  if 0≤nmI ks (s.extract p (nameTo s p)) then .ok (.mk 3 (nmI ks (s.extract p (nameTo s p))) []) (nameTo s p)
  else if 0≤nmI ds (s.extract p (nameTo s p)) then .ok (.mk 6 (nmI ds (s.extract p (nameTo s p))) []) (nameTo s p)
  else .bad p 5
 else .bad p 2
set_option maxHeartbeats 2000000 in
theorem nameK (p:Nat) (hs:s.size≤65536) (hk:ks.length≤1000000) (hd:ds.length≤1000000):AC Tryz.prog 161 [.ref 0 0] [crOb ks ds s p] (crR ks ds s (nameQ ks ds s (skipB s p)) []):=by
 unfold nameQ
 refine AC.lbody hT hm Tryz.func161 f161_nm f161_lc f161_res f161_nt ?_
 simp only [go_sem,iEq,iLE,iLT,iTN]
 refine ⟨_,namedKF p hs _,?_⟩
 rintro _ _ ⟨rfl,rfl⟩
 generalize skipB s p=q
 cases h0:lowB s q
 ·simp only [go_sem,iEq,iLE,iLT,iTN,Bool.not_false]
  refine ⟨_,failF q q 2 _,?_⟩
  rintro _ _ ⟨rfl,rfl⟩
  simp only [go_sem,iEq,iLE,iLT,iTN]
  exact FinKB rfl rfl
 have hq:=lowB_lt h0
 simp only [go_sem,iEq,iLE,iLT,iTN,Bool.not_true]
 refine xl_loopM hT hm (fun i:Nat=>⟨f161_i6 (.ref 0 0) (.ref 1 0) (.i q),[crOb ks ds s i,zCfOb]⟩)
  (fun i=>q≤i∧i≤s.size∧nameTo s i=nameTo s q) (fun i=>s.size - i) q ⟨Nat.le_refl _,za hq,rfl⟩ (Mv.of [some 0,some 1] rfl (mvK2 rfl rfl) (by simp [f161_i6])) ?_
 rintro i ⟨hqi,hi,hn⟩
 simp only [go_sem,iEq,iLE,iLT,iTN]
 by_cases h:i<s.size
 case neg=>
  rw [nameTo_eq,if_neg (fun hh=>h hh.1)] at hn
  subst hn
  have hle:=nameTo_le (s:=s) (za hq)
  simp only [go_sem,iEq,iLE,iLT,iTN,h,hqi,hi]
  refine (ixStr ks _ (by omega)).pv ⟨.same (Strs_bl ks),.v,trivial⟩ ?_
  rw [nmI_eq]
  have hge:=nmI_ge ks (s.extract q (nameTo s q))
  generalize nmI ks (s.extract q (nameTo s q))=m at hge
  by_cases hm0:0≤m
  ·simp only [go_sem,iEq,iLE,iLT,iTN,hm0]
   exact FinKR rfl rfl (by rw [bare_c]; exact .aggL (by simp [CvL]))
  simp only [go_sem,iEq,iLE,iLT,iTN,hm0]
  refine (ixStr ds _ (by omega)).pv ⟨.same (Strs_bl ds),.v,trivial⟩ ?_
  rw [nmI_eq]
  have hge:=nmI_ge ds (s.extract q (nameTo s q))
  generalize nmI ds (s.extract q (nameTo s q))=m at hge
  by_cases hm1:0≤m
  ·have hm2:¬ m<0:=by omega
   simp only [go_sem,iEq,iLE,iLT,iTN,hm1,hm2]
   exact FinKR rfl rfl (by rw [bare_c]; exact .aggL (by simp [CvL]))
  have hm2:m<0:=by omega
  simp only [go_sem,iEq,iLE,iLT,iTN,hm1,hm2]
  refine ⟨_,failF _ q 5 _,?_⟩
  rintro _ _ ⟨rfl,rfl⟩
  simp only [go_sem,iEq,iLE,iLT,iTN]
  exact FinKB rfl rfl
 obtain ⟨b,hb⟩:=get_lt h
 simp only [go_sem,iEq,iLE,iLT,iTN,h,hb]
 refine (letterC b).qv (by simp) ?_
 cases hl:ltrB b.toNat
 case false=>
  rw [nameTo_eq,if_neg (fun hh=>by rw [at_of hb,hl] at hh; exact absurd hh.2 (by simp))] at hn
  subst hn
  have hle:=nameTo_le (s:=s) (za hq)
  simp only [go_sem,iEq,iLE,iLT,iTN,h,hqi,hi]
  refine (ixStr ks _ (by omega)).pv ⟨.same (Strs_bl ks),.v,trivial⟩ ?_
  rw [nmI_eq]
  have hge:=nmI_ge ks (s.extract q (nameTo s q))
  generalize nmI ks (s.extract q (nameTo s q))=m at hge
  by_cases hm0:0≤m
  ·simp only [go_sem,iEq,iLE,iLT,iTN,hm0]
   exact FinKR rfl rfl (by rw [bare_c]; exact .aggL (by simp [CvL]))
  simp only [go_sem,iEq,iLE,iLT,iTN,hm0]
  refine (ixStr ds _ (by omega)).pv ⟨.same (Strs_bl ds),.v,trivial⟩ ?_
  rw [nmI_eq]
  have hge:=nmI_ge ds (s.extract q (nameTo s q))
  generalize nmI ds (s.extract q (nameTo s q))=m at hge
  by_cases hm1:0≤m
  ·have hm2:¬ m<0:=by omega
   simp only [go_sem,iEq,iLE,iLT,iTN,hm1,hm2]
   exact FinKR rfl rfl (by rw [bare_c]; exact .aggL (by simp [CvL]))
  have hm2:m<0:=by omega
  simp only [go_sem,iEq,iLE,iLT,iTN,hm1,hm2]
  refine ⟨_,failF _ q 5 _,?_⟩
  rintro _ _ ⟨rfl,rfl⟩
  simp only [go_sem,iEq,iLE,iLT,iTN]
  exact FinKB rfl rfl
 have hw:=wrap_succ i (by omega)
 simp only [go_sem,iEq,iLE,iLT,iTN,hw]
 rw [nameTo_eq,if_pos ⟨h,by rw [at_of hb]; exact hl⟩] at hn
 exact ⟨i+1,⟨by omega,h,hn⟩,by omega,Mv.of [some 0,some 1] rfl (mvK2 rfl rfl) (by simp [f161_i6])⟩
end
end Go.Proofs.YtbmedfjmccnclaaGreat.W
set_option maxRecDepth 100000
namespace Go.Proofs.YtbmedfjmccnclaaGreat.W
open Go Go.Proofs Go.Proofs.YtbmedfjmccnclaaGreat.AWP
open Int renaming reduceEq→iEq,reduceLE→iLE,reduceLT→iLT,reduceToNat→iTN
open List renaming length_map→lMp
open _root_.Option renaming none → za
attribute [local irreducible] xl hide aop aops aopQ qops guardP condP
abbrev CfMp (l:List Cf):D:=.sl 3 (l.map Cf.c)
abbrev BWC:Nat:=162
theorem backwardC (l:List Cf):AP Tryz.prog 140 [CfMp l] (.fn BWC [.pel [CfMp l]]):=by
 refine AC.lbody hT hm Tryz.func140 f140_nm f140_lc f140_res f140_nt ?_
 simp only [go_sem]
 exact Fin.ret (Cv.same (.fn fun d hd=>by rw [List.mem_singleton.1 hd]; exact .pel fun d hd=>by rw [List.mem_singleton.1 hd]; exact Cfs_bl l))
abbrev foldEC (kind:Int) (m:List Cf) (x:Cf):List D:=
 [.v (.int .u8 kind),Cfs (m++[x]),.pel [.v (.int .u8 kind)],.any,.ref 0 0,.ref 1 0,.any,.any,Cfs (m++[x]),Cfs (m++[x]),
  .i ((m.length+1:Nat):Int),.i m.length,.pel x.c,.agg x.c,Cfs (m++[x]),Cfs (m++[x]),.i ((m.length+1:Nat):Int),.i m.length,
  .sl 3 (m.map Cf.c),.fn BWC [.pel [CfMp m]],.any,.any,.any,.any,.any,.any,.any,.any]
abbrev cfVar (r:Cf):Ob:=.var 28 r.c
def foldRC (kind:Int) (l:List Cf) (x:Cf):Cf:=l.foldr (fun y acc=>.mk kind 0 [y,acc]) x
theorem bwBl (m:List Cf):Bl 0 (.fn BWC [.pel [CfMp m]]):=.fn fun d hd=>by rw [List.mem_singleton.1 hd]; exact .pel fun d hd=>by rw [List.mem_singleton.1 hd]; exact Cfs_bl m
theorem cvFoldE (kind:Int) (m:List Cf) (x:Cf) {om:List Ob} {F:Nat→Bool} {ks:List (Option Nat)} (h0:ks[0]? = some (some 0)) (h1:ks[1]? = some (some 1)):CvL om F ks (foldEC kind m x) (foldEC kind m x):=by
 have e1:∀ l:List Cf,Cv om F ks (Cfs l) (Cfs l):=fun l=>.same (Cfs_bl' l)
 have e2:Cv om F ks (.sl 3 (m.map Cf.c)) (.sl 3 (m.map Cf.c)):=.same (Cfs_bl m)
 have e3:Cv om F ks (.fn BWC [.pel [CfMp m]]) (.fn BWC [.pel [CfMp m]]):=.same (bwBl m)
 have e4:Cv om F ks (.agg x.c) (.agg x.c):=.same (Cf.d_bl x)
 have e5:Cv om F ks (.pel x.c) (.pel x.c):=.same (Cf.pel_bl x)
 simp only [CvL,foldEC]
 simp [e1,e2,e3,e4,e5,h0,h1]
theorem foldRoundC {ca cb:Code} (ha:lc ca=(f125_a5).st) (hb:lc cb=(f125_b5).st) (kind:Int) (m:List Cf) (x:Cf) (j:Int) (y acc:Cf) :
  AY Tryz.prog 2 [.i j,.agg y.c] [zCfOb,cfVar acc,.lp #[20,21] ca cb .ready za (foldEC kind m x)]
   (fun o om'=>o=.ret (.b true)∧om'=[zCfOb,cfVar (.mk kind 0 [y,acc]),.lp #[20,21] ca cb .ready za (foldEC kind m x)]):=by
 refine AY.walk hT hm ha hb rfl rfl rfl ?_
 simp only [go_sem,iEq,iLE,iLT,iTN]
 have e:(((acc.c.set 0 (.v (.int .u8 kind))).set 1 (.v (.int .i64 0))).set 2 (.sl 3 [y.c,acc.c]))=(Cf.mk kind 0 [y,acc]).c:=by
  obtain ⟨k,n,ks⟩:=acc
  rw [Cf.c_mk kind,Cf.c_mk k,Cf.cs_eq]
  simp [Cf.c_mk,Cf.cs_eq]
 rw [e]
 exact Fin.mv (om':=[zCfOb,cfVar (.mk kind 0 [y,acc]),.lp #[20,21] ca cb .ready za (foldEC kind m x)]) [some 0,some 1,some 2] rfl
  ⟨.varS rfl (by simp),.varS rfl (Cf.c_bl _),.lpL rfl (cvFoldE kind m x rfl rfl),trivial⟩ .v ⟨rfl,rfl⟩
theorem backward1C {ca cb:Code} (ha:lc ca=(f125_a5).st) (hb:lc cb=(f125_b5).st) (kind:Int) (m:List Cf) (hm':m.length≤100000) (x:Cf) :
  AC Tryz.prog BWC [.yld 2,.pel [CfMp m]] [zCfOb,cfVar x,.lp #[20,21] ca cb .ready za (foldEC kind m x)]
   (fun o om'=>o=.ret (.tup [])∧om'=[zCfOb,cfVar (foldRC kind m x),.lp #[20,21] ca cb .ready za (foldEC kind m x)]):=by
 have hq:∀ om (F:Nat→Bool) (ks:List (Option Nat)),Cv om F ks (.pel [CfMp m]) (.pel [CfMp m]):=fun om F ks=>.same (.pel fun d hd=>by rw [List.mem_singleton.1 hd]; exact Cfs_bl m)
 have mv3:∀ {om:List Ob} {F:Nat→Bool} (a:Cf),om[0]? = some zCfOb→om[1]? = some (cfVar a)→om[2]? = some (.lp #[20,21] ca cb .ready za (foldEC kind m x)) →
   MvL om F [some 0,some 1,some 2] [some 0,some 1,some 2] [zCfOb,cfVar a,.lp #[20,21] ca cb .ready za (foldEC kind m x)]:=
  fun a h0 h1 h2=>⟨.varS h0 (by simp),.varS h1 (Cf.c_bl _),.lpL h2 (cvFoldE kind m x rfl rfl),trivial⟩
 refine AC.lbody hT hm Tryz.func162 f162_nm f162_lc f162_res f162_nt ?_
 simp only [go_sem,iEq,iLE,iLT,iTN,cfs_len]
 refine xl_loopM hT hm (fun i:Nat=>⟨f162_i4 (.yld 2) (.pel [CfMp m]) (.i ((i:Int) - 1)),[zCfOb,cfVar (foldRC kind (m.drop i) x),.lp #[20,21] ca cb .ready za (foldEC kind m x)]⟩)
  (fun i=>i≤m.length) (fun i=>i) m.length (Nat.le_refl _) ?_ ?_
 ·try rw [wrap_int _ (by simp; omega) (by simp; omega)]
  try rw [List.drop_length]
  exact Mv.of [some 0,some 1,some 2] rfl (mv3 _ rfl rfl rfl) (by simp only [f162_i4,CvL]; simp [hq]; exact wrap_int _ (by omega) (by omega))
 intro i hi
 cases i with
 | zero=>
  have hf:decide ((0:Int)≤((0:Nat):Int) - 1)=false:=rfl
  simp only [go_sem,iEq,iLE,iLT,iTN]
  simp only [go_sem,iEq,iLE,iLT,iTN,hf]
  exact Fin.mv (om':=[zCfOb,cfVar (foldRC kind m x),.lp #[20,21] ca cb .ready za (foldEC kind m x)]) [some 0,some 1,some 2] rfl (mv3 _ rfl rfl rfl) (by simp) ⟨rfl,rfl⟩
 | succ i=>
  have e1:(((i+1:Nat):Int) - 1)=(i:Int):=by omega
  obtain ⟨y,hy⟩:=get_ex (l:=m) (show i<m.length by omega)
  rw [e1]
  simp only [go_sem,iEq,iLE,iLT,iTN,hy,cfs_get hy]
  refine ⟨_,foldRoundC ha hb kind m x i y (foldRC kind (m.drop (i+1)) x),?_⟩
  rintro _ _ ⟨rfl,rfl⟩
  simp only [go_sem,iEq,iLE,iLT,iTN]
  refine ⟨i,by omega,by omega,?_⟩
  rw [wrap_int _ (by omega) (by omega)]
  have e2:foldRC kind (m.drop i) x=.mk kind 0 [y,foldRC kind (m.drop (i+1)) x]:=by rw [drop_get hy]; rfl
  rw [e2]
  exact Mv.of [some 0,some 1,some 2] rfl (mv3 _ rfl rfl rfl) (by simp only [CvL]; simp [hq])
theorem foldK (kind:Int) (l:List Cf) (h0:l≠[]) (hl:l.length≤100000):AP Tryz.prog 125 [.v (.int .u8 kind),Cfs l] (.agg (Cf.fold kind l).c):=by
 obtain ⟨m,x,rfl⟩:∃ m x,l=m++[x]:=by
  rcases List.eq_nil_or_concat l with h | ⟨A',y,h⟩
  ·exact absurd h h0
  ·exact ⟨A',y,by rw [h,List.concat_eq_append]⟩
 have hlen:(m++[x]).length=m.length+1:=by simp
 have hsub:IntKind.i64.wrap (((m.length+1:Nat):Int) - 1)=(m.length:Int):=by rw [wrap_int _ (by omega) (by omega)]; omega
 have hget:(m++[x])[m.length]? = some x:=by simp
 have hle:m.length≤(m++[x]).length:=by simp
 have htk:((m++[x]).map Cf.c).take m.length=m.map Cf.c:=by simp
 refine AC.lbody hT hm Tryz.func125 f125_nm f125_lc f125_res f125_nt ?_
 simp only [go_sem,iEq,iLE,iLT,iTN,hlen,cfs_len]
 simp only [go_sem,iEq,iLE,iLT,iTN,hsub,hget,hlen,cfs_len,cfs_get hget,Nat.le_succ,Nat.zero_le,htk,Cf.cs_eq]
 refine (backwardC m).pd ⟨.same (Cfs_bl m),trivial⟩ (bwBl m) ?_
 simp only [go_sem,iEq,iLE,iLT,iTN,W_rfun]
 intro ca cb ha hb
 refine ⟨_,backward1C ha hb kind m (by simp at hl; omega) x,?_⟩
 rintro _ _ ⟨rfl,rfl⟩
 simp only [go_sem,iEq,iLE,iLT,iTN]
 refine ⟨by simp,?_⟩
 refine Fin.ret ?_
 rw [Cf.fold_foldr]
 exact .same (Cf.d_bl _)
end Go.Proofs.YtbmedfjmccnclaaGreat.W
set_option maxRecDepth 100000
namespace Go.Proofs.YtbmedfjmccnclaaGreat.W
open Go Go.Proofs Go.Proofs.YtbmedfjmccnclaaGreat.AWP
open Int renaming reduceEq→iEq,reduceLE→iLE,reduceLT→iLT,reduceToNat→iTN
open List renaming length_map→lMp
attribute [local irreducible] xl hide aop aops aopQ qops guardP condP
section
variable {ks ds:List ByteArray} {s:ByteArray}
theorem nameKF (p:Nat) (hs:s.size≤65536) (hk:ks.length≤1000000) (hd:ds.length≤1000000) (fr:List Ob):AC Tryz.prog 161 [.ref 0 0] (crOb ks ds s p :: fr) (crR ks ds s (nameQ ks ds s (skipB s p)) fr):=(nameK p hs hk hd).cr fr
theorem atomQ_name {A:Nat→CR} {p:Nat} (h1:byB s p 91=false) (h2:byB s p 40=false):atomQ ks ds A s p=nameQ ks ds s p:=by
 unfold atomQ nameQ
 rw [if_neg (by rw [h1]; simp),if_neg (by rw [h2]; simp)]
theorem FinKA {r:Cf} {q:Nat} {om:List Ob} {d:D} {om0:List Ob} (h0:om0.length=1) (h:om[0]? = some (crOb ks ds s q)) (hd:d=.agg r.c):Fin om0 om (.ret d) (crR ks ds s (.ok r q) []):=
 FinKR h0 h (.eq hd (by rw [hd]; exact Cf.d_bl _))
set_option maxHeartbeats 2000000 in
theorem atomK (A:Nat→CR) (p:Nat) (hs:s.size≤65536) (hk:ks.length≤1000000) (hd:ds.length≤1000000) (hA:FwdC A s)
  (HA:∀ q,skipB s p<q→q≤s.size→AC Tryz.prog 98 [.ref 0 0] [crOb ks ds s q] (crR ks ds s ((A q).sk s) [])) :
  AC Tryz.prog 138 [.ref 0 0] [crOb ks ds s p] (crR ks ds s (atomP ks ds A s p) []):=by
 unfold atomP
 refine AC.lbody hT hm Tryz.func138 f138_nm f138_lc f138_res f138_nt ?_
 simp only [go_sem,iEq,iLE,iLT,iTN]
 refine ⟨_,isKF 91 p hs _,?_⟩
 rintro _ _ ⟨rfl,rfl⟩
 have hi:=skipB_idem s p
 revert HA
 generalize skipB s p=x at hi
 intro HA
 rw [show (91:UInt8).toNat=91 from rfl]
 cases h1:byB s x 91
 case true=>
  have lt:=byB_lt h1
  have hw:=wrap_succ x (by omega)
  unfold atomQ
  simp only [go_sem,iEq,iLE,iLT,iTN,hw]
  refine ⟨_,eatKF 93 (x+1) hs _,?_⟩
  rw [show (93:UInt8).toNat=93 from rfl,if_pos h1]
  rintro _ _ (⟨h2,rfl,rfl⟩ | ⟨h2,rfl,k,rfl⟩)
  ·rw [if_pos h2]
   simp only [go_sem,iEq,iLE,iLT,iTN]
   exact FinKR rfl rfl (by rw [bare_c]; exact .aggL (by simp [CvL]))
  ·rw [if_neg (by rw [h2]; simp)]
   simp only [go_sem,iEq,iLE,iLT,iTN]
   exact FinKB rfl rfl
 simp only [go_sem,iEq,iLE,iLT,iTN]
 refine ⟨_,isKF 40 x hs _,?_⟩
 rintro _ _ ⟨rfl,rfl⟩
 rw [show (40:UInt8).toNat=40 from rfl,hi]
 cases h2:byB s x 40
 case true=>
  have lt:=byB_lt h2
  have hw:=wrap_succ x (by omega)
  unfold atomQ
  simp only [go_sem,iEq,iLE,iLT,iTN,hw]
  refine ⟨_,isKF 41 (x+1) hs _,?_⟩
  rintro _ _ ⟨rfl,rfl⟩
  have hsk:=le_skipB s (x+1)
  have hsl:=skipB_le (s:=s) (show x+1≤s.size from lt)
  rw [show (41:UInt8).toNat=41 from rfl,if_neg (by rw [h1]; simp),if_pos h2]
  cases h3:byB s (skipB s (x+1)) 41
  case true=>
   have lt3:=byB_lt h3
   have hw3:=wrap_succ (skipB s (x+1)) (by omega)
   simp only [go_sem,iEq,iLE,iLT,iTN,hw3]
   exact FinKR rfl rfl (by rw [bare_c]; exact .aggL (by simp [CvL]))
  simp only [go_sem,iEq,iLE,iLT,iTN]
  refine ⟨_,(HA (skipB s (x+1)) (by omega) hsl).cr _,?_⟩
  cases hc:A (skipB s (x+1))
  case bad q e=>
   rintro _ _ ⟨rfl,k,rfl⟩
   simp only [go_sem,iEq,iLE,iLT,iTN]
   exact FinKB rfl rfl
  rename_i r q
  rintro _ _ ⟨rfl,rfl⟩
  simp only [go_sem,iEq,iLE,iLT,iTN,cf_put]
  have hE:=eatKF (ks:=ks) (ds:=ds) 41 (skipB s q) hs [zCfOb,cfVar r]
  rw [skipB_idem,show (41:UInt8).toNat=41 from rfl] at hE
  refine ⟨_,hE,?_⟩
  rintro _ _ (⟨h5,rfl,rfl⟩ | ⟨h5,rfl,k,rfl⟩)
  case inr=>
   simp only [go_sem,iEq,iLE,iLT,iTN,h5]
   exact FinKB rfl rfl
  simp only [go_sem,iEq,iLE,iLT,iTN,h5,cf_put,Cf.c_take]
  exact FinKA rfl rfl rfl
 simp only [go_sem,iEq,iLE,iLT,iTN]
 rw [atomQ_name h1 h2]
 have hN:=nameKF (ks:=ks) (ds:=ds) x hs hk hd [zCfOb]
 rw [hi] at hN
 refine ⟨_,hN,?_⟩
 cases hc:nameQ ks ds s x
 case bad q e=>
  rintro _ _ ⟨rfl,k,rfl⟩
  simp only [go_sem,iEq,iLE,iLT,iTN]
  exact FinKB rfl rfl
 rintro _ _ ⟨rfl,rfl⟩
 simp only [go_sem,iEq,iLE,iLT,iTN,cf_put]
 exact FinKA rfl rfl rfl
abbrev clOb (l:List Cf):Ob:=.slc 28 3 (l.map Cf.c)
theorem mvKL {p:Nat} {l:List Cf} {k:Nat} {om:List Ob} {F:Nat→Bool} (h0:om[0]? = some (crOb ks ds s p)) (h1:om[1]? = some zCfOb) (h2:om[k]? = some (clOb l)):MvL om F [some 0,some 1,some k] [some 0,some 1,some k] [crOb ks ds s p,zCfOb,clOb l]:=
 ⟨.varS h0 (crBl ks ds s p),.varS h1 (by simp),.slcS h2 (Cf.map_bl l),trivial⟩
theorem cvCl {l:List Cf} {k:Nat} {om:List Ob} {F:Nat→Bool} {kk:List (Option Nat)} (h:om[k]? = some (clOb l)) (hF:F k=true):Cv om F kk (.own k) (Cfs l):=by
 rw [show Cfs l=.sl 3 (l.map Cf.c) from by rw [← Cf.cs_eq]]
 exact .frzS h hF (Cf.map_bl l)
set_option maxHeartbeats 2000000 in
theorem thenK (A:Nat→CR) (p:Nat) (hs:s.size≤65536) (hk:ks.length≤1000000) (hd:ds.length≤1000000) (hA:FwdC A s)
  (HA:∀ q,skipB s p<q→q≤s.size→AC Tryz.prog 98 [.ref 0 0] [crOb ks ds s q] (crR ks ds s ((A q).sk s) [])) :
  AC Tryz.prog 123 [.ref 0 0] [crOb ks ds s p] (crR ks ds s ((thenP ks ds A s p).sk s) []):=by
 unfold thenP
 refine AC.lbody hT hm Tryz.func123 f123_nm f123_lc f123_res f123_nt ?_
 simp only [go_sem,iEq,iLE,iLT,iTN]
 refine ⟨_,(atomK A p hs hk hd hA HA).cr _,?_⟩
 cases hc:atomP ks ds A s p
 case bad q e=>
  rintro _ _ ⟨rfl,k,rfl⟩
  simp only [go_sem,iEq,iLE,iLT,iTN]
  exact FinKB rfl rfl
 rename_i r0 q0
 rintro _ _ ⟨rfl,rfl⟩
 simp only [go_sem,iEq,iLE,iLT,iTN]
 have hq0:=atomP_lt hA hc
 refine xl_loopM hT hm (fun i:List Cf × Nat=>⟨f123_i4 (.ref 0 0) (.ref 1 0) (.own 2),[crOb ks ds s i.2,zCfOb,clOb i.1]⟩)
  (fun i=>skipB s p<i.2∧i.2≤s.size∧i.1.length≤i.2∧i.1≠[]∧thenGo ks ds A s i.1 i.2=thenGo ks ds A s [r0] q0) (fun i=>s.size - i.2) ([r0],q0) ⟨hq0.1,hq0.2,by simp; omega,by simp,rfl⟩ ?_ ?_
 ·exact Mv.of [some 0,some 1,some 2] rfl (mvKL rfl rfl rfl) (by simp [f123_i4])
 rintro ⟨l,q⟩ ⟨hpq,hq,hlen,hne,hst⟩
 dsimp only at hpq hq hlen hst hne
 have hsq:=le_skipB s q
 have hsl:=skipB_le hq
 have hi:=skipB_idem s q
 have go:moreB s (skipB s q)=true→thenGo ks ds A s [r0] q0=match atomP ks ds A s q with
   | .bad q e=>.bad q e
   | .ok r q'=>if hq:q<q'∧q'≤s.size then thenGo ks ds A s (l++[r]) q' else .bad 0 2:=by
  intro h
  rw [← hst,thenGo,if_pos h]
  cases atomP ks ds A s q <;> rfl
 have stop:moreB s (skipB s q)=false→thenGo ks ds A s [r0] q0=.ok (Cf.fold 4 l) q:=by
  intro h
  rw [← hst,thenGo,if_neg (by rw [h]; simp)]
 rw [atomP_skip (p:=q) (p':=skipB s q) hi.symm] at go
 have HA':∀ q',skipB s (skipB s q)<q'→q'≤s.size→AC Tryz.prog 98 [.ref 0 0] [crOb ks ds s q'] (crR ks ds s ((A q').sk s) []):=fun q' h h'=>HA q' (by omega) h'
 simp only [go_sem,iEq,iLE,iLT,iTN]
 refine ⟨_,isKF 91 q hs _,?_⟩
 rintro _ _ ⟨rfl,rfl⟩
 rw [show (91:UInt8).toNat=91 from rfl]
 generalize hsx:skipB s q=x at *
 have go1:moreB s x=true→∀ r q',atomP ks ds A s x=.ok r q'→(q<q'∧q'≤s.size)∧thenGo ks ds A s [r0] q0=thenGo ks ds A s (l++[r]) q':=by
  intro h r q' h1
  have h2:=atomP_lt hA h1
  have h3:=go h
  rw [h1] at h3
  dsimp only at h3
  rw [hi] at h2
  rw [dif_pos (by omega)] at h3
  exact ⟨by omega,h3⟩
 have go2:moreB s x=true→∀ q' e,atomP ks ds A s x=.bad q' e→thenGo ks ds A s [r0] q0=.bad q' e:=by
  intro h q' e h1
  have h3:=go h
  rw [h1] at h3
  exact h3
 cases h1:byB s x 91
 case true=>
  have hmr:moreB s x=true:=by unfold moreB; rw [h1]; rfl
  simp only [go_sem,iEq,iLE,iLT,iTN]
  refine ⟨_,(atomK A x hs hk hd hA HA').cr _,?_⟩
  cases hc':atomP ks ds A s x
  case bad q' e=>
   rintro _ _ ⟨rfl,k,rfl⟩
   simp only [go_sem,iEq,iLE,iLT,iTN]
   rw [go2 hmr _ _ hc']
   exact FinKB rfl rfl
  rename_i r q'
  rintro _ _ ⟨rfl,rfl⟩
  simp only [go_sem,iEq,iLE,iLT,iTN,lMp]
  obtain ⟨hq',hgo⟩:=go1 hmr _ _ hc'
  rw [hgo]
  exact ⟨by omega,(l++[r],q'),⟨by dsimp only; omega,hq'.2,by simp; omega,by simp,rfl⟩,by dsimp only; omega,Mv.of [some 0,some 1,some 3] rfl (mvKL rfl rfl (by simp)) (by simp [f123_i4])⟩
 simp only [go_sem,iEq,iLE,iLT,iTN]
 refine ⟨_,isKF 40 x hs _,?_⟩
 rintro _ _ ⟨rfl,rfl⟩
 rw [show (40:UInt8).toNat=40 from rfl,hi]
 cases h2:byB s x 40
 case true=>
  have hmr:moreB s x=true:=by unfold moreB; rw [h1,h2]; rfl
  simp only [go_sem,iEq,iLE,iLT,iTN]
  refine ⟨_,(atomK A x hs hk hd hA HA').cr _,?_⟩
  cases hc':atomP ks ds A s x
  case bad q' e=>
   rintro _ _ ⟨rfl,k,rfl⟩
   simp only [go_sem,iEq,iLE,iLT,iTN]
   rw [go2 hmr _ _ hc']
   exact FinKB rfl rfl
  rename_i r q'
  rintro _ _ ⟨rfl,rfl⟩
  simp only [go_sem,iEq,iLE,iLT,iTN,lMp]
  obtain ⟨hq',hgo⟩:=go1 hmr _ _ hc'
  rw [hgo]
  exact ⟨by omega,(l++[r],q'),⟨by dsimp only; omega,hq'.2,by simp; omega,by simp,rfl⟩,by dsimp only; omega,Mv.of [some 0,some 1,some 3] rfl (mvKL rfl rfl (by simp)) (by simp [f123_i4])⟩
 simp only [go_sem,iEq,iLE,iLT,iTN]
 refine ⟨_,namedKF x hs _,?_⟩
 rintro _ _ ⟨rfl,rfl⟩
 rw [hi]
 cases h3:lowB s x
 case true=>
  have hmr:moreB s x=true:=by unfold moreB; rw [h1,h2,h3]; rfl
  simp only [go_sem,iEq,iLE,iLT,iTN]
  refine ⟨_,(atomK A x hs hk hd hA HA').cr _,?_⟩
  cases hc':atomP ks ds A s x
  case bad q' e=>
   rintro _ _ ⟨rfl,k,rfl⟩
   simp only [go_sem,iEq,iLE,iLT,iTN]
   rw [go2 hmr _ _ hc']
   exact FinKB rfl rfl
  rename_i r q'
  rintro _ _ ⟨rfl,rfl⟩
  simp only [go_sem,iEq,iLE,iLT,iTN,lMp]
  obtain ⟨hq',hgo⟩:=go1 hmr _ _ hc'
  rw [hgo]
  exact ⟨by omega,(l++[r],q'),⟨by dsimp only; omega,hq'.2,by simp; omega,by simp,rfl⟩,by dsimp only; omega,Mv.of [some 0,some 1,some 3] rfl (mvKL rfl rfl (by simp)) (by simp [f123_i4])⟩
 rw [stop (by unfold moreB; rw [h1,h2,h3]; rfl)]
 simp only [go_sem,iEq,iLE,iLT,iTN]
 refine (foldK 4 l hne (by omega)).callF (fun k=>k == 2) ⟨.v,cvCl rfl rfl,trivial⟩ (Cf.d_bl _) ?_
 have ef:frzL (fun k=>k == 2) [crOb ks ds s x,zCfOb,clOb l]=[crOb ks ds s x,zCfOb,.frz 3 (l.map Cf.c)]:=rfl
 have hfin:CR.sk s (CR.ok (Cf.fold 4 l) q)=.ok (Cf.fold 4 l) x:=by rw [← hsx]; rfl
 simp only [go_sem,iEq,iLE,iLT,iTN,cf_put,ef]
 rw [hfin]
 exact FinKA rfl rfl rfl
set_option maxHeartbeats 2000000 in
theorem orK1 (A:Nat→CR) (p:Nat) (hs:s.size≤65536) (hk:ks.length≤1000000) (hd:ds.length≤1000000) (hA:FwdC A s)
  (HA:∀ q,skipB s p<q→q≤s.size→AC Tryz.prog 98 [.ref 0 0] [crOb ks ds s q] (crR ks ds s ((A q).sk s) [])) :
  AC Tryz.prog 98 [.ref 0 0] [crOb ks ds s p] (crR ks ds s ((orP ks ds A s p).sk s) []):=by
 unfold orP
 refine AC.lbody hT hm Tryz.func98 f98_nm f98_lc f98_res f98_nt ?_
 simp only [go_sem,iEq,iLE,iLT,iTN]
 refine ⟨_,(thenK A p hs hk hd hA HA).cr _,?_⟩
 cases hc:thenP ks ds A s p
 case bad q e=>
  rintro _ _ ⟨rfl,k,rfl⟩
  simp only [go_sem,iEq,iLE,iLT,iTN]
  exact FinKB rfl rfl
 rename_i r0 q0
 rintro _ _ ⟨rfl,rfl⟩
 simp only [go_sem,iEq,iLE,iLT,iTN]
 have hq0:=thenP_lt hA hc
 refine xl_loopM hT hm (fun i:List Cf × Nat=>⟨f98_i5 (.ref 0 0) (.ref 1 0) (.own 2),[crOb ks ds s (skipB s i.2),zCfOb,clOb i.1]⟩)
  (fun i=>skipB s p<i.2∧i.2≤s.size∧i.1.length≤i.2∧i.1≠[]∧orGo ks ds A s i.1 i.2=orGo ks ds A s [r0] q0) (fun i=>s.size - i.2) ([r0],q0) ⟨hq0.1,hq0.2,by simp; omega,by simp,rfl⟩ ?_ ?_
 ·exact Mv.of [some 0,some 1,some 2] rfl (mvKL rfl rfl rfl) (by simp [f98_i5])
 rintro ⟨l,q⟩ ⟨hpq,hq,hlen,hne,hst⟩
 dsimp only at hpq hq hlen hst hne
 have hi:=skipB_idem s q
 have hqx:=le_skipB s q
 simp only [go_sem,iEq,iLE,iLT,iTN]
 refine ⟨_,isKF 124 (skipB s q) hs _,?_⟩
 rintro _ _ ⟨rfl,rfl⟩
 rw [show (124:UInt8).toNat=124 from rfl,hi]
 rw [orGo] at hst
 have hfin:CR.sk s (CR.ok (Cf.fold 5 l) q)=.ok (Cf.fold 5 l) (skipB s q):=rfl
 generalize skipB s q=x at *
 cases h1:byB s x 124
 case false=>
  rw [if_neg (by rw [h1]; simp)] at hst
  rw [← hst]
  simp only [go_sem,iEq,iLE,iLT,iTN]
  refine (foldK 5 l hne (by omega)).callF (fun k=>k == 2) ⟨.v,cvCl rfl rfl,trivial⟩ (Cf.d_bl _) ?_
  have ef:frzL (fun k=>k == 2) [crOb ks ds s x,zCfOb,clOb l]=[crOb ks ds s x,zCfOb,.frz 3 (l.map Cf.c)]:=rfl
  simp only [go_sem,iEq,iLE,iLT,iTN,cf_put,ef]
  rw [hfin]
  exact FinKA rfl rfl rfl
 have lt:=byB_lt h1
 have hw:=wrap_succ x (by omega)
 have hsk:=le_skipB s (x+1)
 rw [if_pos h1] at hst
 simp only [go_sem,iEq,iLE,iLT,iTN,hw]
 refine ⟨_,(thenK A (x+1) hs hk hd hA fun q' h h'=>HA q' (by omega) h').cr _,?_⟩
 cases hc':thenP ks ds A s (x+1)
 case bad q' e=>
  rintro _ _ ⟨rfl,k,rfl⟩
  simp only [go_sem,iEq,iLE,iLT,iTN]
  rw [hc'] at hst
  rw [← hst]
  exact FinKB rfl rfl
 rename_i r q'
 rintro _ _ ⟨rfl,rfl⟩
 simp only [go_sem,iEq,iLE,iLT,iTN,lMp]
 have hq':=thenP_lt hA hc'
 rw [hc'] at hst
 dsimp only at hst
 rw [dif_pos (by omega)] at hst
 exact ⟨by omega,(l++[r],q'),⟨by dsimp only; omega,hq'.2,by simp; omega,by simp,hst⟩,by dsimp only; omega,Mv.of [some 0,some 1,some 3] rfl (mvKL rfl rfl (by simp)) (by simp [f98_i5])⟩
end
theorem orK (ks ds:List ByteArray) (s:ByteArray) (hs:s.size≤65536) (hk:ks.length≤1000000) (hd:ds.length≤1000000):∀ (n p:Nat),s.size - p≤n→AC Tryz.prog 98 [.ref 0 0] [crOb ks ds s p] (crR ks ds s ((orF ks ds s p).sk s) []):=by
 intro n
 induction n with
 | zero=>
  intro p hn
  rw [orF_eq]
  exact orK1 _ p hs hk hd (orA_fwd ks ds s p) fun q h h'=>by have:=le_skipB s p; omega
 | succ n ih=>
  intro p hn
  rw [orF_eq]
  refine orK1 _ p hs hk hd (orA_fwd ks ds s p) fun q h h'=>?_
  unfold orA
  rw [if_pos ⟨h,h'⟩]
  have:=le_skipB s p
  exact ih q (by omega)
end Go.Proofs.YtbmedfjmccnclaaGreat.W
set_option maxRecDepth 100000
namespace Go.Proofs.YtbmedfjmccnclaaGreat.W
open Go Go.Proofs Go.Proofs.YtbmedfjmccnclaaGreat.AWP
open Int renaming reduceEq→iEq,reduceLE→iLE,reduceLT→iLT,reduceToNat→iTN
open List renaming length_map→lMp
attribute [local irreducible] xl hide aop aops aopQ qops guardP condP
abbrev WHC:Nat:=97
theorem whc_rf:Tryz.f97.body.map noRF=some true:=by kernel_rfl
theorem anyc_if:Tryz.prog.underlying 20=some (.interface #[]):=by kernel_rfl
theorem wrongc_c:Tryz.prog.concrete 146=true:=by kernel_rfl
def whc_T:OT:=.both (.op 0 (.both (.op 1 (.both (.op 2 (.both (.op 3 (.both (.op 4 (.op 5 (.op 6 (.op 7 .done)))) (.op 5 (.both (.op 4 (.op 6 (.op 7 .done))) (.op 6 (.op 4 (.op 7 .done))))))) (.op 5 (.both (.op 3 (.both (.op 4 (.op 6 (.op 7 .done))) (.op 6 (.op 4 (.op 7 .done))))) (.op 6 (.op 3 (.op 4 (.op 7 .done)))))))) (.both (.op 3 (.both (.op 2 (.both (.op 4 (.op 5 (.op 6 (.op 7 .done)))) (.op 5 (.both (.op 4 (.op 6 (.op 7 .done))) (.op 6 (.op 4 (.op 7 .done))))))) (.both (.op 4 (.both (.op 2 (.op 5 (.op 6 (.op 7 .done)))) (.op 5 (.op 2 (.op 6 (.op 7 .done)))))) (.op 5 (.both (.op 2 (.both (.op 4 (.op 6 (.op 7 .done))) (.op 6 (.op 4 (.op 7 .done))))) (.op 4 (.op 2 (.op 6 (.op 7 .done))))))))) (.op 5 (.both (.op 2 (.both (.op 3 (.both (.op 4 (.op 6 (.op 7 .done))) (.op 6 (.op 4 (.op 7 .done))))) (.op 6 (.op 3 (.op 4 (.op 7 .done)))))) (.op 3 (.both (.op 2 (.both (.op 4 (.op 6 (.op 7 .done))) (.op 6 (.op 4 (.op 7 .done))))) (.op 4 (.op 2 (.op 6 (.op 7 .done))))))))))) (.both (.op 3 (.both (.op 1 (.both (.op 2 (.both (.op 4 (.op 5 (.op 6 (.op 7 .done)))) (.op 5 (.both (.op 4 (.op 6 (.op 7 .done))) (.op 6 (.op 4 (.op 7 .done))))))) (.both (.op 4 (.both (.op 2 (.op 5 (.op 6 (.op 7 .done)))) (.op 5 (.op 2 (.op 6 (.op 7 .done)))))) (.op 5 (.both (.op 2 (.both (.op 4 (.op 6 (.op 7 .done))) (.op 6 (.op 4 (.op 7 .done))))) (.op 4 (.op 2 (.op 6 (.op 7 .done))))))))) (.both (.op 4 (.both (.op 1 (.both (.op 2 (.op 5 (.op 6 (.op 7 .done)))) (.op 5 (.op 2 (.op 6 (.op 7 .done)))))) (.op 5 (.op 1 (.op 2 (.op 6 (.op 7 .done))))))) (.op 5 (.both (.op 1 (.both (.op 2 (.both (.op 4 (.op 6 (.op 7 .done))) (.op 6 (.op 4 (.op 7 .done))))) (.op 4 (.op 2 (.op 6 (.op 7 .done)))))) (.op 4 (.op 1 (.op 2 (.op 6 (.op 7 .done)))))))))) (.op 5 (.both (.op 1 (.both (.op 2 (.both (.op 3 (.both (.op 4 (.op 6 (.op 7 .done))) (.op 6 (.op 4 (.op 7 .done))))) (.op 6 (.op 3 (.op 4 (.op 7 .done)))))) (.op 3 (.both (.op 2 (.both (.op 4 (.op 6 (.op 7 .done))) (.op 6 (.op 4 (.op 7 .done))))) (.op 4 (.op 2 (.op 6 (.op 7 .done)))))))) (.op 3 (.both (.op 1 (.both (.op 2 (.both (.op 4 (.op 6 (.op 7 .done))) (.op 6 (.op 4 (.op 7 .done))))) (.op 4 (.op 2 (.op 6 (.op 7 .done)))))) (.op 4 (.op 1 (.op 2 (.op 6 (.op 7 .done)))))))))))) (.both (.op 1 (.both (.op 0 (.both (.op 2 (.both (.op 3 (.both (.op 4 (.op 5 (.op 6 (.op 7 .done)))) (.op 5 (.both (.op 4 (.op 6 (.op 7 .done))) (.op 6 (.op 4 (.op 7 .done))))))) (.op 5 (.both (.op 3 (.both (.op 4 (.op 6 (.op 7 .done))) (.op 6 (.op 4 (.op 7 .done))))) (.op 6 (.op 3 (.op 4 (.op 7 .done)))))))) (.both (.op 3 (.both (.op 2 (.both (.op 4 (.op 5 (.op 6 (.op 7 .done)))) (.op 5 (.both (.op 4 (.op 6 (.op 7 .done))) (.op 6 (.op 4 (.op 7 .done))))))) (.both (.op 4 (.both (.op 2 (.op 5 (.op 6 (.op 7 .done)))) (.op 5 (.op 2 (.op 6 (.op 7 .done)))))) (.op 5 (.both (.op 2 (.both (.op 4 (.op 6 (.op 7 .done))) (.op 6 (.op 4 (.op 7 .done))))) (.op 4 (.op 2 (.op 6 (.op 7 .done))))))))) (.op 5 (.both (.op 2 (.both (.op 3 (.both (.op 4 (.op 6 (.op 7 .done))) (.op 6 (.op 4 (.op 7 .done))))) (.op 6 (.op 3 (.op 4 (.op 7 .done)))))) (.op 3 (.both (.op 2 (.both (.op 4 (.op 6 (.op 7 .done))) (.op 6 (.op 4 (.op 7 .done))))) (.op 4 (.op 2 (.op 6 (.op 7 .done))))))))))) (.both (.op 2 (.both (.op 0 (.both (.op 3 (.both (.op 4 (.op 5 (.op 6 (.op 7 .done)))) (.op 5 (.both (.op 4 (.op 6 (.op 7 .done))) (.op 6 (.op 4 (.op 7 .done))))))) (.op 5 (.both (.op 3 (.both (.op 4 (.op 6 (.op 7 .done))) (.op 6 (.op 4 (.op 7 .done))))) (.op 6 (.op 3 (.op 4 (.op 7 .done)))))))) (.op 3 (.both (.op 0 (.both (.op 4 (.op 5 (.op 6 (.op 7 .done)))) (.op 5 (.both (.op 4 (.op 6 (.op 7 .done))) (.op 6 (.op 4 (.op 7 .done))))))) (.op 4 (.op 0 (.op 5 (.op 6 (.op 7 .done))))))))) (.op 3 (.both (.op 0 (.both (.op 2 (.both (.op 4 (.op 5 (.op 6 (.op 7 .done)))) (.op 5 (.both (.op 4 (.op 6 (.op 7 .done))) (.op 6 (.op 4 (.op 7 .done))))))) (.both (.op 4 (.both (.op 2 (.op 5 (.op 6 (.op 7 .done)))) (.op 5 (.op 2 (.op 6 (.op 7 .done)))))) (.op 5 (.both (.op 2 (.both (.op 4 (.op 6 (.op 7 .done))) (.op 6 (.op 4 (.op 7 .done))))) (.op 4 (.op 2 (.op 6 (.op 7 .done))))))))) (.both (.op 2 (.both (.op 0 (.both (.op 4 (.op 5 (.op 6 (.op 7 .done)))) (.op 5 (.both (.op 4 (.op 6 (.op 7 .done))) (.op 6 (.op 4 (.op 7 .done))))))) (.op 4 (.op 0 (.op 5 (.op 6 (.op 7 .done))))))) (.op 4 (.both (.op 0 (.both (.op 2 (.op 5 (.op 6 (.op 7 .done)))) (.op 5 (.op 2 (.op 6 (.op 7 .done)))))) (.op 2 (.op 0 (.op 5 (.op 6 (.op 7 .done))))))))))))) (.op 3 (.both (.op 0 (.both (.op 1 (.both (.op 2 (.both (.op 4 (.op 5 (.op 6 (.op 7 .done)))) (.op 5 (.both (.op 4 (.op 6 (.op 7 .done))) (.op 6 (.op 4 (.op 7 .done))))))) (.both (.op 4 (.both (.op 2 (.op 5 (.op 6 (.op 7 .done)))) (.op 5 (.op 2 (.op 6 (.op 7 .done)))))) (.op 5 (.both (.op 2 (.both (.op 4 (.op 6 (.op 7 .done))) (.op 6 (.op 4 (.op 7 .done))))) (.op 4 (.op 2 (.op 6 (.op 7 .done))))))))) (.both (.op 4 (.both (.op 1 (.both (.op 2 (.op 5 (.op 6 (.op 7 .done)))) (.op 5 (.op 2 (.op 6 (.op 7 .done)))))) (.op 5 (.op 1 (.op 2 (.op 6 (.op 7 .done))))))) (.op 5 (.both (.op 1 (.both (.op 2 (.both (.op 4 (.op 6 (.op 7 .done))) (.op 6 (.op 4 (.op 7 .done))))) (.op 4 (.op 2 (.op 6 (.op 7 .done)))))) (.op 4 (.op 1 (.op 2 (.op 6 (.op 7 .done)))))))))) (.both (.op 1 (.both (.op 0 (.both (.op 2 (.both (.op 4 (.op 5 (.op 6 (.op 7 .done)))) (.op 5 (.both (.op 4 (.op 6 (.op 7 .done))) (.op 6 (.op 4 (.op 7 .done))))))) (.both (.op 4 (.both (.op 2 (.op 5 (.op 6 (.op 7 .done)))) (.op 5 (.op 2 (.op 6 (.op 7 .done)))))) (.op 5 (.both (.op 2 (.both (.op 4 (.op 6 (.op 7 .done))) (.op 6 (.op 4 (.op 7 .done))))) (.op 4 (.op 2 (.op 6 (.op 7 .done))))))))) (.both (.op 2 (.both (.op 0 (.both (.op 4 (.op 5 (.op 6 (.op 7 .done)))) (.op 5 (.both (.op 4 (.op 6 (.op 7 .done))) (.op 6 (.op 4 (.op 7 .done))))))) (.op 4 (.op 0 (.op 5 (.op 6 (.op 7 .done))))))) (.op 4 (.both (.op 0 (.both (.op 2 (.op 5 (.op 6 (.op 7 .done)))) (.op 5 (.op 2 (.op 6 (.op 7 .done)))))) (.op 2 (.op 0 (.op 5 (.op 6 (.op 7 .done)))))))))) (.op 4 (.both (.op 0 (.both (.op 1 (.both (.op 2 (.op 5 (.op 6 (.op 7 .done)))) (.op 5 (.op 2 (.op 6 (.op 7 .done)))))) (.op 5 (.op 1 (.op 2 (.op 6 (.op 7 .done))))))) (.op 1 (.both (.op 0 (.both (.op 2 (.op 5 (.op 6 (.op 7 .done)))) (.op 5 (.op 2 (.op 6 (.op 7 .done)))))) (.op 2 (.op 0 (.op 5 (.op 6 (.op 7 .done)))))))))))))
theorem whc_tree:((Tryz.f97.body.bind drawn1).map fun ops=>(ops.toList.map lop,drawOk ops [] 0 false,mkTree ops ops.size (headMask ops.size 0)))=some (f97_r5,true,whc_T):=by kernel_rfl
section
variable {ks ds:List ByteArray} {s:ByteArray}
abbrev whcOb (ks ds:List ByteArray) (s:ByteArray) (p:Nat) (x:List D) (a e:Int):List Ob:=[crOb ks ds s p,.var 28 x,.var 3 [.i a],.var 33 [.i e]]
theorem recNC (p:Nat) (x:List D) (a e:Int):DC Tryz.prog WHC [.ref 1 0,.ref 2 0,.ref 3 0] (whcOb ks ds s p x a e) Option.none (fun om=>om=whcOb ks ds s p x a e):=by
 refine DC.lbody hT Tryz.func97 f97_lc whc_rf f97_nm f97_res f97_nt ?_
 refine ALW.block (ALW.seq (ALW.regO ⟨rfl,OpO.eqNil anyc_if rfl (.inl ⟨rfl,rfl⟩) ?_⟩))
 refine ALW.cond (t:=true) rfl ?_
 refine xl_ok hT hm ?_
 simp only [go_sem,iEq,iLE,iLT,iTN]
 exact .inl trivial
theorem recWC (p k n:Nat) (x:List D) (hx3:x.length=3) (a e:Int) :
  DC Tryz.prog WHC [.ref 1 0,.ref 2 0,.ref 3 0] (whcOb ks ds s p x a e) (some (wrongC k n)) (fun om=>om=whcOb ks ds s p zCf k n++[.var 146 [.i k,.i n]]):=by
 obtain ⟨x0,x1,x2,rfl⟩:∃ x0 x1 x2,x=[x0,x1,x2]:=by
  match x,hx3 with
  | [x0,x1,x2],_=>exact ⟨x0,x1,x2,rfl⟩
 have hb:=f97_lc
 have hrf:=whc_rf
 have hd:=whc_tree
 simp only [Option.map_eq_some_iff] at hb
 obtain ⟨c,hc,hl⟩:=hb
 rw [hc] at hd hrf
 simp only [f97_c,LC.st] at hl
 obtain ⟨c0,cB,rfl,h0,hB⟩:=lc_inv.1 _ _ hl
 obtain ⟨id0,ops0,rfl,e0⟩:=reg_none h0
 obtain ⟨cS,rfl,hS⟩:=lc_inv.2.2.2.2.2.1 _ _ hB
 obtain ⟨c1,cC,rfl,h1,hC⟩:=lc_inv.1 _ _ hS
 obtain ⟨id1,ops1,rfl,e1⟩:=reg_none h1
 obtain ⟨c2,c3,rfl,h2,h3⟩:=lc_inv.2.2.2.2.2.2.1 _ _ _ hC
 obtain ⟨id2,ops2,rfl,e2⟩:=reg_none h2
 obtain ⟨c3a,c4,rfl,h3a,h4⟩:=lc_inv.1 _ _ h3
 obtain ⟨id3,ops3,rfl,e3⟩:=reg_none h3a
 obtain ⟨c5,c6,rfl,h5,h6⟩:=lc_inv.2.2.2.2.2.2.1 _ _ _ h4
 obtain ⟨c5a,c5b,rfl,h5a,h5b⟩:=lc_inv.1 _ _ h5
 obtain ⟨id4,ops4,rfl,e4⟩:=reg_none h5a
 obtain ⟨id5,ops5,rfl⟩:=regq_inv h5b
 have hd5:(ops5.toList.map lop,drawOk ops5 [] 0 false,mkTree ops5 ops5.size (headMask ops5.size 0))=(f97_r5,true,whc_T):=by
  simpa [drawn1] using hd
 simp only [Prod.mk.injEq] at hd5
 obtain ⟨d1,d2,d3⟩:=hd5
 refine DC.body hT Tryz.func97 hc f97_nm f97_res f97_nt e0 (by simpa [noRF] using hrf) ?_
 refine AW.block (AW.seq (AW.regionO _ e1 ⟨rfl,OpO.eqNil anyc_if rfl (.inr ⟨⟨_,_,rfl⟩,rfl⟩) ?_⟩))
 refine AW.cond (t:=false) rfl ?_
 refine AW.seq (AW.regionO _ e3 ⟨rfl,OpO.assert wrongc_c rfl ⟨rfl,OpO.aop hT ?_⟩⟩)
 simp only [go_sem,iEq,iLE,iLT,iTN]
 refine ⟨rfl,OpO.aop hT ?_⟩
 simp only [go_sem,iEq,iLE,iLT,iTN]
 refine AW.cond (t:=true) rfl ?_
 refine AW.seq (AW.region hT _ [] e4 ?_)
 simp only [go_sem,iEq,iLE,iLT,iTN]
 refine AW.regionT0 hT hm d1 d2 d3 ?_
 unfold whc_T
 simp only [go_sem,iEq,iLE,iLT,iTN]
 simp
abbrev wcD (x:Cf × Nat × Nat):D:=.tup [.agg x.1.c,.i x.2.1,.i x.2.2]
theorem FinWC {k:Nat} {om:List Ob} {x:Cf × Nat × Nat} {d:D} {om0:List Ob} (h0:om0.length=1) (h:om[0]? = some (crOb ks ds s k)) (hd:Cv om (kF [some 0]) [some 0] d (wcD x)):Fin om0 om (.ret d) (fun o om=>o=.ret (wcD x)∧∃ k,om=[crOb ks ds s k]):=
 FinK h0 h hd ⟨rfl,k,rfl⟩
set_option maxHeartbeats 1000000 in
theorem wholeK (hs:s.size≤65536) (hk:ks.length≤1000000) (hd:ds.length≤1000000):AC Tryz.prog 74 [.ref 0 0] [crOb ks ds s 0] (fun o om=>o=.ret (wcD (wholeP ks ds s))∧∃ k,om=[crOb ks ds s k]):=by
 refine AC.lbodyD hT hm Tryz.func74 (l0:=.reg f74_r0 [] none) (l2:=.seq (.reg f74_r2 [] none) (.seq (.reg f74_r3 [] none) (.seq (.seq (.reg f74_r4 [] (some 9)) (.cond (.tmp 19) (.reg f74_r5 [] none) .skip)) (.seq (.reg f74_r6 [] none) .ret))))
  f74_lc f74_nm f74_res f74_nt ?_
 simp only [go_sem,iEq,iLE,iLT,iTN]
 unfold wholeP
 refine ⟨_,(orK ks ds s hs hk hd _ 0 (Nat.le_refl _)).cr _,?_⟩
 cases hc:orF ks ds s 0
 case bad q e=>
  rintro _ _ ⟨rfl,k,rfl⟩
  simp only [go_sem,iEq,iLE,iLT,iTN,defQ]
  refine ⟨_,recWC k q e zCf rfl 0 0,?_⟩
  rintro _ rfl
  simp only [go_sem,iEq,iLE,iLT,iTN]
  exact FinWC rfl rfl (.tupL ⟨by rw [bare_c]; exact .aggL (by simp [CvL]),.v,.v,trivial⟩)
 rename_i r q
 have hqs:=skipB_idem s q
 rintro _ _ ⟨rfl,rfl⟩
 simp only [go_sem,iEq,iLE,iLT,iTN,cf_put]
 refine ⟨_,blanksF (skipB s q) hs _,?_⟩
 rintro _ _ ⟨rfl,rfl⟩
 rw [hqs]
 generalize skipB s q=q
 by_cases hq:q<s.size
 ·simp only [go_sem,iEq,iLE,iLT,iTN,hq,defQ]
  refine ⟨_,failF q q 2 _,?_⟩
  rintro _ _ ⟨rfl,rfl⟩
  simp only [go_sem,iEq,iLE,iLT,iTN,defQ]
  refine ⟨_,recWC q q 2 r.c (Cf.c_len r) 0 0,?_⟩
  rintro _ rfl
  simp only [go_sem,iEq,iLE,iLT,iTN]
  exact FinWC rfl rfl (.tupL ⟨by rw [bare_c]; exact .aggL (by simp [CvL]),.v,.v,trivial⟩)
 ·simp only [go_sem,iEq,iLE,iLT,iTN,hq,defQ,Cf.c_take,Cf.put0 _ _ (Cf.c_len _)]
  refine ⟨_,recNC q r.c 0 0,?_⟩
  rintro _ rfl
  simp only [go_sem,iEq,iLE,iLT,iTN]
  exact FinWC rfl rfl (.tupL ⟨.same (Cf.d_bl _),.v,.v,trivial⟩)
end
end Go.Proofs.YtbmedfjmccnclaaGreat.W
set_option maxRecDepth 100000
namespace Go.Proofs.YtbmedfjmccnclaaGreat.W
open Go Go.Proofs Go.Proofs.YtbmedfjmccnclaaGreat.AWP
open Int renaming reduceEq→iEq,reduceLE→iLE,reduceLT→iLT,reduceToNat→iTN
open List renaming length_map→lMp
attribute [local irreducible] xl hide aop aops aopQ qops guardP condP
section
variable {s:ByteArray}
end
end Go.Proofs.YtbmedfjmccnclaaGreat.W
set_option maxRecDepth 100000
namespace Go.Proofs.YtbmedfjmccnclaaGreat.W
open Go Go.Proofs Go.Proofs.YtbmedfjmccnclaaGreat.AWP
open Int renaming reduceEq→iEq,reduceLE→iLE,reduceLT→iLT,reduceToNat→iTN
open List renaming length_map→lMp
attribute [local irreducible] xl hide aop aops aopQ qops guardP condP
section
variable {ks ds:List ByteArray} {s:ByteArray}
abbrev rdA (ks ds:List ByteArray) (s:ByteArray) (p:Nat):List D:=[.s s,.i p,Strs ks,Strs ds]
end
end Go.Proofs.YtbmedfjmccnclaaGreat.W
set_option maxRecDepth 100000
namespace Go.Proofs.YtbmedfjmccnclaaGreat.W
open Go Go.Proofs Go.Proofs.YtbmedfjmccnclaaGreat.AWP
open Int renaming reduceEq→iEq,reduceLE→iLE,reduceLT→iLT,reduceToNat→iTN
open List renaming length_map→lMp
attribute [local irreducible] xl hide aop aops aopQ qops guardP condP
section
variable {ks ds:List ByteArray} {s:ByteArray}
end
end Go.Proofs.YtbmedfjmccnclaaGreat.W
set_option maxRecDepth 100000
namespace Go.Proofs.YtbmedfjmccnclaaGreat.W
open Go Go.Proofs Go.Proofs.YtbmedfjmccnclaaGreat.AWP
open Int renaming reduceEq→iEq,reduceLE→iLE,reduceLT→iLT,reduceToNat→iTN
open List renaming length_map→lMp
open _root_.Bool renaming not_false → za, not_true → zb
attribute [local irreducible] xl hide aop aops aopQ qops guardP condP
abbrev LNC:Nat:=118
theorem linesC (s:ByteArray) (om:List Ob):AC Tryz.prog 93 [.s s] om (fun o om'=>o=.ret (.fn LNC [.ref om.length 0])∧om'=om++[.var 9 [.s s]]):=by
 refine AC.lbody hT hm Tryz.func93 f93_nm f93_lc f93_res f93_nt ?_
 simp only [go_sem,iEq,iLE,iLT,iTN]
 exact finSelf ⟨rfl,rfl⟩
abbrev Ln:Type:=Nat × ByteArray × ByteArray
abbrev lnC (x:Ln):List D:=[.i x.1,.s x.2.1,.s x.2.2]
abbrev lnR (l:List Ln):List (List D):=l.map lnC
theorem lnR_bl (l:List Ln):∀ r∈lnR l,∀ d∈r,Bl 0 d:=by
 intro r hr d hd
 obtain ⟨x,_,rfl⟩:=List.mem_map.1 hr
 simp only [List.mem_cons,List.not_mem_nil,or_false] at hd
 rcases hd with rfl | rfl | rfl <;> exact .v _
abbrev Lns (l:List Ln):D:=.sl 3 (lnR l)
theorem Lns_bl (l:List Ln):Bl 0 (Lns l):=.sl (lnR_bl l)
abbrev lnOb (l:List Ln):Ob:=.slc 120 3 (lnR l)
abbrev eqS:ByteArray:=⟨#[32,61,32]⟩
abbrev metC (kinds:List ByteArray) (l:List Ln):List ByteArray:=kinds++l.map (·.2.1)
def lnK (tot:Nat) (kinds:List ByteArray) (out:List Ln) (a sz:Nat) (ended:Bool) (k:ByteArray × ByteArray × Bool):(Nat × Nat) ⊕ (List Ln × Nat):=
 if ended=false then .inl (tot,2)
 else if 50≤out.length then .inl (a,4)
 else if k.2.2=false then .inl (a,2)
 else if nameB k.1=false then .inl (a,2)
 else if ((metC kinds out).any fun x=>decide (k.1=x))=true then .inl (a,2)
 else .inr (out++[(a,k.1,k.2.1)],a+sz)
def lnStep (tot:Nat) (kinds:List ByteArray) (out:List Ln) (a:Nat) (ln:ByteArray):(Nat × Nat) ⊕ (List Ln × Nat):=
 lnK tot kinds out a ln.size (csuf 10 ln).2 (cutL (csuf 10 ln).1 eqS)
theorem lnK_inr {tot:Nat} {kinds:List ByteArray} {out:List Ln} {a sz:Nat} {ended:Bool} {k:ByteArray × ByteArray × Bool} {l:List Ln} {a':Nat} (h:lnK tot kinds out a sz ended k=.inr (l,a')) :
  out.length<50∧l=out++[(a,k.1,k.2.1)]∧a'=a+sz∧nameB k.1=true∧((metC kinds out).any fun x=>decide (k.1=x))=false:=by
 unfold lnK at h
 split at h
 ·cases h
 split at h
 ·cases h
 split at h
 ·cases h
 split at h
 ·cases h
 split at h
 ·cases h
 rename_i h1 h2 h3 h4 h5
 cases h
 exact ⟨by omega,rfl,rfl,by simpa using h4,by cases hh:((metC kinds out).any fun x=>decide (k.1=x)) with
  | true=>exact absurd hh h5
  | false=>rfl⟩
theorem csuf_szC (c:UInt8) (s:ByteArray):(csuf c s).1.size≤s.size:=by
 unfold csuf
 split
 ·simp only [ByteArray.size_extract]; omega
 ·exact Nat.le_refl _
theorem cutL_sz (s sep:ByteArray):(cutL s sep).1.size≤s.size:=by
 unfold cutL Go.Lib.cut
 split
 ·rename_i a b c h
  split at h
  ·cases h
   simp only [List.size_toArray]
   show (List.take _ s.data.toList).length≤_
   rw [List.length_take]
   have:s.data.toList.length=s.size:=by rw [Array.length_toList]; rfl
   omega
  ·cases h
   show (s.data.toList.toArray).size≤_
   simp
theorem numName_1 (x:ByteArray) (hx:x.size≤1000000):AP Tryz.prog 91 [.sl 1 [[.s x]]] (.b (nameB x)):=by
 have h:=numNames [x] (by simp) (by simpa using hx)
 have e:[x].all nameB=nameB x:=by simp
 rw [e] at h
 exact h
abbrev lpEC (s:ByteArray) (kinds:List ByteArray):List D:=
 [.s s,Strs kinds,.pel [.s s],.any,.ref 0 0,.ref 1 0,.ref 2 0,.ref 3 0,.ref 6 0,.ref 7 0,.any,.any,.any,.any,.any,.any,Strs kinds,.own 5,.s s,.fn LNC [.ref 8 0]]++List.replicate 56 .any
abbrev resC (p e:Int):List Ob:=[.var 115 [.v (.slice none 0 0)],.var 3 [.i p],.var 33 [.v (.int .i64 e)]]
abbrev lpOC (ca cb:Code) (s:ByteArray) (kinds:List ByteArray) (st:LoopState) (pe:Option Code):Ob:=.lp #[20] ca cb st pe (lpEC s kinds)
def lnO (kinds:List ByteArray) (out:List Ln) (sd kd:D) (o5:Ob) (R:List Ob):Prop:=
 (out=[]∧sd=.v (.slice none 0 0)∧kd=.own 5∧o5=strOb kinds∧R=[])∨(sd=.own 10∧kd=.own 11∧o5=.dead∧R=[lnOb out,strOb (metC kinds out)])
abbrev lnOm (ca cb:Code) (s:ByteArray) (kinds:List ByteArray) (a:Nat) (r:ByteArray) (sd kd:D) (o5:Ob) (R:List Ob):List Ob:=
 resC 0 0++[.var 115 [sd],.dead,o5,.var 22 [kd],.var 3 [.i a],.var 9 [.s r],lpOC ca cb s kinds .ready none]++R
def isInrC {α β:Type}:α ⊕ β→Bool
 | .inl _=>false
 | .inr _=>true
def lnQ (ca cb:Code) (s:ByteArray) (kinds:List ByteArray) (r:ByteArray) (q:(Nat × Nat) ⊕ (List Ln × Nat)) (om':List Ob):Prop:=
 match q with
 | .inl (p,e)=>∃ o3 o4 o5 o6 o7 o8 M,om'=resC p e++[o3,o4,o5,o6,o7,o8,lpOC ca cb s kinds .done (some .ret)]++M
 | .inr (l,a)=>om'=lnOm ca cb s kinds a r (.own 11) (.own 10) .dead [strOb (metC kinds l),lnOb l]∨om'=lnOm ca cb s kinds a r (.own 13) (.own 12) .dead [.dead,.dead,strOb (metC kinds l),lnOb l]
set_option maxHeartbeats 8000000 in
theorem roundC0 {ca cb:Code} (ha:lc ca=(f72_a17).st) (hb:lc cb=(f72_b17).st) (s:ByteArray) (kinds:List ByteArray) (hk:kinds.length≤1000) (a:Nat) (ha':a≤70000) (r ln:ByteArray) (hln:ln.size≤70000) :
  AY Tryz.prog 9 [.s ln] (lnOm ca cb s kinds a r (.v (.slice none 0 0)) (.own 5) (strOb kinds) [])
   (fun o om'=>o=.ret (.b (isInrC (lnStep s.size kinds [] a ln)))∧lnQ ca cb s kinds r (lnStep s.size kinds [] a ln) om'):=by
 have hC:=csuf2 ln 10 (by omega)
 have hsz:=csuf_szC 10 ln
 unfold lnStep
 generalize csuf 10 ln=c at hC hsz
 obtain ⟨b,ended⟩:=c
 simp only at hsz
 have hK:=cutW b eqS (by omega)
 have hks:=cutL_sz b eqS
 dsimp only
 generalize cutL b eqS=k at hK hks
 obtain ⟨nm,bd,okk⟩:=k
 dsimp only at hks
 refine AY.walk hT hm ha hb rfl rfl rfl ?_
 simp only [go_sem,iEq,iLE,iLT,iTN]
 refine hC.pd ⟨.v,.v,trivial⟩ (csufD_bl _) ?_
 simp only [go_sem,iEq,iLE,iLT,iTN]
 refine hK.pd ⟨.v,.v,trivial⟩ (cutLD_bl _) ?_
 cases ended with
 | false=>
  rw [show lnK s.size kinds [] a ln.size false (nm,bd,okk)=.inl (s.size,2) from rfl]
  simp only [go_sem,iEq,iLE,iLT,iTN,za]
  repeat' apply And.intro
  all_goals exact finSelf ⟨rfl,_,_,_,_,_,_,_,rfl⟩
 | true=>
 have z50:¬ (50:Int)≤((0:Nat):Int):=by omega
 cases okk with
 | false=>
  rw [show lnK s.size kinds [] a ln.size true (nm,bd,false)=.inl (a,2) from by rfl]
  simp only [go_sem,iEq,iLE,iLT,iTN,z50,zb,za]
  repeat' apply And.intro
  all_goals exact finSelf ⟨rfl,_,_,_,_,_,_,_,rfl⟩
 | true=>
 simp only [go_sem,iEq,iLE,iLT,iTN,z50,zb,za]
 refine (numName_1 nm (by omega)).pv ⟨.same (Strs_bl [nm]),trivial⟩ ?_
 cases hn:nameB nm
 ·rw [show lnK s.size kinds [] a ln.size true (nm,bd,true)=.inl (a,2) from by show (if nameB nm=false then _ else _)=_; rw [if_pos hn]]
  simp only [go_sem,iEq,iLE,iLT,iTN,za]
  repeat' apply And.intro
  all_goals exact finSelf ⟨rfl,_,_,_,_,_,_,_,rfl⟩
 simp only [go_sem,iEq,iLE,iLT,iTN,zb]
 refine (hasStr kinds nm (by omega)).pv ⟨.frzS rfl rfl (strR_bl _),.v,trivial⟩ ?_
 cases hh:kinds.any fun x=>decide (nm=x)
 case true=>
  rw [show lnK s.size kinds [] a ln.size true (nm,bd,true)=.inl (a,2) from by unfold lnK; rw [if_neg (by simp),if_neg (by simp),if_neg (by simp),if_neg (show ¬ nameB nm=false by rw [hn]; simp),if_pos (show ((metC kinds []).any fun x=>decide (nm=x))=true by unfold metC; rw [List.map_nil,List.append_nil]; exact hh)]]
  simp only [go_sem,iEq,iLE,iLT,iTN]
  repeat' apply And.intro
  all_goals exact finSelf ⟨rfl,_,_,_,_,_,_,_,rfl⟩
 rw [show lnK s.size kinds [] a ln.size true (nm,bd,true)=.inr ([]++[(a,nm,bd)],a+ln.size) from by unfold lnK; rw [if_neg (by simp),if_neg (by simp),if_neg (by simp),if_neg (show ¬ nameB nm=false by rw [hn]; simp),if_neg (show ¬ ((metC kinds []).any fun x=>decide (nm=x))=true by unfold metC; rw [List.map_nil,List.append_nil,hh]; simp)]]
 have hw:IntKind.i64.wrap ((a:Int)+(ln.size:Int))=((a+ln.size:Nat):Int):=by rw [wrap_int _ (by omega) (by omega)]; omega
 simp only [go_sem,iEq,iLE,iLT,iTN,z50,lMp,hw]
 refine ⟨by omega,finSelf ⟨rfl,.inl ?_⟩⟩
 simp [metC]
set_option maxHeartbeats 8000000 in
theorem roundC1 {ca cb:Code} (ha:lc ca=(f72_a17).st) (hb:lc cb=(f72_b17).st) (s:ByteArray) (kinds:List ByteArray) (hk:kinds.length≤1000) (out:List Ln) (hout:out.length≤50) (a:Nat) (ha':a≤70000) (r ln:ByteArray) (hln:ln.size≤70000) :
  AY Tryz.prog 9 [.s ln] (lnOm ca cb s kinds a r (.own 10) (.own 11) .dead [lnOb out,strOb (metC kinds out)])
   (fun o om'=>o=.ret (.b (isInrC (lnStep s.size kinds out a ln)))∧lnQ ca cb s kinds r (lnStep s.size kinds out a ln) om'):=by
 have hC:=csuf2 ln 10 (by omega)
 have hsz:=csuf_szC 10 ln
 unfold lnStep
 generalize csuf 10 ln=c at hC hsz
 obtain ⟨b,ended⟩:=c
 simp only at hsz
 have hK:=cutW b eqS (by omega)
 have hks:=cutL_sz b eqS
 dsimp only
 generalize cutL b eqS=k at hK hks
 obtain ⟨nm,bd,okk⟩:=k
 dsimp only at hks
 refine AY.walk hT hm ha hb rfl rfl rfl ?_
 simp only [go_sem,iEq,iLE,iLT,iTN]
 refine hC.pd ⟨.v,.v,trivial⟩ (csufD_bl _) ?_
 simp only [go_sem,iEq,iLE,iLT,iTN]
 refine hK.pd ⟨.v,.v,trivial⟩ (cutLD_bl _) ?_
 cases ended with
 | false=>
  rw [show lnK s.size kinds out a ln.size false (nm,bd,okk)=.inl (s.size,2) from rfl]
  simp only [go_sem,iEq,iLE,iLT,iTN,za]
  repeat' apply And.intro
  all_goals exact finSelf ⟨rfl,_,_,_,_,_,_,_,rfl⟩
 | true=>
 by_cases h50:50≤out.length
 ·have h50':(50:Int)≤out.length:=by omega
  rw [show lnK s.size kinds out a ln.size true (nm,bd,okk)=.inl (a,4) from by unfold lnK; rw [if_neg (by simp),if_pos h50]]
  simp only [go_sem,iEq,iLE,iLT,iTN,h50',lMp,zb]
  repeat' apply And.intro
  all_goals exact finSelf ⟨rfl,_,_,_,_,_,_,_,rfl⟩
 have h50':¬ (50:Int)≤out.length:=by omega
 cases okk with
 | false=>
  rw [show lnK s.size kinds out a ln.size true (nm,bd,false)=.inl (a,2) from by unfold lnK; rw [if_neg (by simp),if_neg h50]; rfl]
  simp only [go_sem,iEq,iLE,iLT,iTN,h50',lMp,zb,za]
  repeat' apply And.intro
  all_goals exact finSelf ⟨rfl,_,_,_,_,_,_,_,rfl⟩
 | true=>
 simp only [go_sem,iEq,iLE,iLT,iTN,h50',lMp,zb,za]
 refine (numName_1 nm (by omega)).pv ⟨.same (Strs_bl [nm]),trivial⟩ ?_
 cases hn:nameB nm
 ·rw [show lnK s.size kinds out a ln.size true (nm,bd,true)=.inl (a,2) from by unfold lnK; rw [if_neg (by simp),if_neg h50]; show (if nameB nm=false then _ else _)=_; rw [if_pos hn]]
  simp only [go_sem,iEq,iLE,iLT,iTN,za]
  repeat' apply And.intro
  all_goals exact finSelf ⟨rfl,_,_,_,_,_,_,_,rfl⟩
 simp only [go_sem,iEq,iLE,iLT,iTN,zb]
 refine (hasStr (metC kinds out) nm (by simp; omega)).pv ⟨.frzS rfl rfl (strR_bl _),.v,trivial⟩ ?_
 cases hh:(metC kinds out).any fun x=>decide (nm=x)
 case true=>
  rw [show lnK s.size kinds out a ln.size true (nm,bd,true)=.inl (a,2) from by unfold lnK; rw [if_neg (by simp),if_neg (by exact h50),if_neg (by simp),if_neg (show ¬ nameB nm=false by rw [hn]; simp),if_pos (show ((metC kinds out).any fun x=>decide (nm=x))=true by exact hh)]]
  simp only [go_sem,iEq,iLE,iLT,iTN]
  repeat' apply And.intro
  all_goals exact finSelf ⟨rfl,_,_,_,_,_,_,_,rfl⟩
 rw [show lnK s.size kinds out a ln.size true (nm,bd,true)=.inr (out++[(a,nm,bd)],a+ln.size) from by unfold lnK; rw [if_neg (by simp),if_neg (by exact h50),if_neg (by simp),if_neg (show ¬ nameB nm=false by rw [hn]; simp),if_neg (show ¬ ((metC kinds out).any fun x=>decide (nm=x))=true by rw [hh]; simp)]]
 have hw:IntKind.i64.wrap ((a:Int)+(ln.size:Int))=((a+ln.size:Nat):Int):=by rw [wrap_int _ (by omega) (by omega)]; omega
 simp only [go_sem,iEq,iLE,iLT,iTN,h50',lMp,lMp,hw]
 have hml:(metC kinds out).length≤2000:=by simp [metC]; omega
 have e1:strR (metC kinds (out++[(a,nm,bd)]))=strR (metC kinds out)++[[.s nm]]:=by simp [metC]
 have e2:lnR (out++[(a,nm,bd)])=lnR out++[[.i a,.s nm,.s bd]]:=by simp
 refine ⟨by omega,by omega,finSelf ⟨rfl,.inr ?_⟩⟩
 show _=resC 0 0++_++[.dead,.dead,.slc 9 1 (strR (metC kinds (out++[(a,nm,bd)]))),.slc 120 3 (lnR (out++[(a,nm,bd)]))]
 rw [e1,e2]
 rfl
def lineOfC (s:ByteArray):ByteArray × ByteArray:=
 if ixN 10 s.data.toList<s.size then (s.extract 0 (ixN 10 s.data.toList+1),s.extract (ixN 10 s.data.toList+1) s.size) else (s,⟨#[]⟩)
theorem lineOfC_size (s:ByteArray) (h:0<s.size):(lineOfC s).1.size+(lineOfC s).2.size=s.size∧0<(lineOfC s).1.size:=by
 unfold lineOfC
 split
 ·simp only [ByteArray.size_extract]; omega
 ·exact ⟨rfl,h⟩
def lnGo (tot:Nat) (kinds:List ByteArray):Nat→ByteArray→List Ln→Nat→(Nat × Nat) ⊕ (List Ln × Nat)
 | 0,_,l,a=>.inr (l,a)
 | n+1,s,l,a=>
  if s.size=0 then .inr (l,a)
  else match lnStep tot kinds l a (lineOfC s).1 with
   | .inl q=>.inl q
   | .inr (l',a')=>lnGo tot kinds n (lineOfC s).2 l' a'
theorem roundC {ca cb:Code} (ha:lc ca=(f72_a17).st) (hb:lc cb=(f72_b17).st) (s:ByteArray) (kinds:List ByteArray) (hk:kinds.length≤1000) (out:List Ln) (hout:out.length≤50) (sd kd:D) (o5:Ob) (R:List Ob) (hO:lnO kinds out sd kd o5 R) (a:Nat) (ha':a≤70000) (r ln:ByteArray) (hln:ln.size≤70000) :
  AY Tryz.prog 9 [.s ln] (lnOm ca cb s kinds a r sd kd o5 R)
   (fun o om'=>o=.ret (.b (isInrC (lnStep s.size kinds out a ln)))∧lnQ ca cb s kinds r (lnStep s.size kinds out a ln) om'):=by
 rcases hO with ⟨rfl,rfl,rfl,rfl,rfl⟩ | ⟨rfl,rfl,rfl,rfl⟩
 ·exact roundC0 ha hb s kinds hk a ha' r ln hln
 ·exact roundC1 ha hb s kinds hk out hout a ha' r ln hln
theorem cvLpE (s:ByteArray) (kinds:List ByteArray) {om:List Ob} {F:Nat→Bool} {ks:List (Option Nat)} (h:∀ i,i<10→ks[i]? = some (some i)):CvL om F ks (lpEC s kinds) (lpEC s kinds):=by
 have e1:Cv om F ks (Strs kinds) (Strs kinds):=.same (Strs_bl kinds)
 have h0:=h 0 (by omega)
 have h1:=h 1 (by omega)
 have h2:=h 2 (by omega)
 have h3:=h 3 (by omega)
 have h5:=h 5 (by omega)
 have h6:=h 6 (by omega)
 have h7:=h 7 (by omega)
 have h8:=h 8 (by omega)
 simp only [lpEC,List.replicate,List.cons_append,List.nil_append,CvL]
 simp [e1,h0,h1,h2,h3,h5,h6,h7,h8]
 exact .fnL (by simp [CvL,h8])
end Go.Proofs.YtbmedfjmccnclaaGreat.W
set_option maxRecDepth 100000
namespace Go.Proofs.YtbmedfjmccnclaaGreat.W
open Go Go.Proofs Go.Proofs.YtbmedfjmccnclaaGreat.AWP
open Int renaming reduceEq→iEq,reduceLE→iLE,reduceLT→iLT,reduceToNat→iTN
open List renaming length_map→lMp
attribute [local irreducible] xl hide aop aops aopQ qops guardP condP
def lnF (ca cb:Code) (s:ByteArray) (kinds:List ByteArray) (r:ByteArray) (q:(Nat × Nat) ⊕ (List Ln × Nat)) (om':List Ob):Prop:=
 match q with
 | .inl (p,e)=>∃ o3 o4 o5 o6 o7 o8 M,om'=resC p e++[o3,o4,o5,o6,o7,o8,lpOC ca cb s kinds .done (some .ret)]++M
 | .inr (l,a)=>∃ sd kd o5 R,lnO kinds l sd kd o5 R∧om'=lnOm ca cb s kinds a r sd kd o5 R
theorem lnMv0 (ca cb:Code) (s:ByteArray) (kinds:List ByteArray) (a:Nat) (r:ByteArray) (l:List Ln) {F:Nat→Bool} :
  MvL (lnOm ca cb s kinds a r (.own 11) (.own 10) .dead [strOb (metC kinds l),lnOb l]) F [some 0,some 1,some 2,some 3,some 4,some 5,some 6,some 7,some 8,some 9,some 11,some 10] [some 0,some 1,some 2,some 3,some 4,some 5,some 6,some 7,some 8,some 9,some 11,some 10]
   (lnOm ca cb s kinds a r (.own 10) (.own 11) .dead [lnOb l,strOb (metC kinds l)]):=by
 refine ⟨.varS rfl (by simp),.varS rfl (by simp),.varS rfl (by simp),.varL rfl (by simp [CvL]),.deadE (by simp),.deadE (by simp),.varL rfl (by simp [CvL]),.varS rfl (by simp),.varS rfl (by simp),.lpL rfl (cvLpE s kinds fun i hi=>?_),.slcS rfl (lnR_bl l),.slcS rfl (strR_bl _),trivial⟩
 match i,hi with
 | 0,_=>rfl
 | 1,_=>rfl
 | 2,_=>rfl
 | 3,_=>rfl
 | 4,_=>rfl
 | 5,_=>rfl
 | 6,_=>rfl
 | 7,_=>rfl
 | 8,_=>rfl
 | 9,_=>rfl
theorem lnMv1 (ca cb:Code) (s:ByteArray) (kinds:List ByteArray) (a:Nat) (r:ByteArray) (l:List Ln) {F:Nat→Bool} :
  MvL (lnOm ca cb s kinds a r (.own 13) (.own 12) .dead [.dead,.dead,strOb (metC kinds l),lnOb l]) F [some 0,some 1,some 2,some 3,some 4,some 5,some 6,some 7,some 8,some 9,some 13,some 12] [some 0,some 1,some 2,some 3,some 4,some 5,some 6,some 7,some 8,some 9,some 13,some 12]
   (lnOm ca cb s kinds a r (.own 10) (.own 11) .dead [lnOb l,strOb (metC kinds l)]):=by
 refine ⟨.varS rfl (by simp),.varS rfl (by simp),.varS rfl (by simp),.varL rfl (by simp [CvL]),.deadE (by simp),.deadE (by simp),.varL rfl (by simp [CvL]),.varS rfl (by simp),.varS rfl (by simp),.lpL rfl (cvLpE s kinds fun i hi=>?_),.slcS rfl (lnR_bl l),.slcS rfl (strR_bl _),trivial⟩
 match i,hi with
 | 0,_=>rfl
 | 1,_=>rfl
 | 2,_=>rfl
 | 3,_=>rfl
 | 4,_=>rfl
 | 5,_=>rfl
 | 6,_=>rfl
 | 7,_=>rfl
 | 8,_=>rfl
 | 9,_=>rfl
theorem lnStep_inr {tot:Nat} {kinds:List ByteArray} {l:List Ln} {a:Nat} {ln:ByteArray} {l':List Ln} {a':Nat} (h:lnStep tot kinds l a ln=.inr (l',a')):l.length<50∧l'.length=l.length+1∧a'=a+ln.size:=by
 obtain ⟨h1,h2,h3,_,_⟩:=lnK_inr h
 exact ⟨h1,by rw [h2]; simp,h3⟩
set_option maxHeartbeats 8000000 in
theorem lines1C {ca cb:Code} (ha:lc ca=(f72_a17).st) (hb:lc cb=(f72_b17).st) (s:ByteArray) (hs:s.size≤70000) (kinds:List ByteArray) (hk:kinds.length≤1000) :
  AC Tryz.prog LNC [.yld 9,.ref 8 0] (lnOm ca cb s kinds 0 s (.v (.slice none 0 0)) (.own 5) (strOb kinds) [])
   (fun o om'=>o=.ret (.tup [])∧∃ r,lnF ca cb s kinds r (lnGo s.size kinds s.size s [] 0) om'):=by
 refine AC.lbody hT hm Tryz.func118 f118_nm f118_lc f118_res f118_nt ?_
 simp only [go_sem,iEq,iLE,iLT,iTN]
 refine xl_loopM hT hm (fun i:ByteArray × List Ln × Nat × D × D × Ob × List Ob=>⟨f118_i7 (.yld 9) (.ref 8 0),lnOm ca cb s kinds i.2.2.1 i.1 i.2.2.2.1 i.2.2.2.2.1 i.2.2.2.2.2.1 i.2.2.2.2.2.2⟩)
  (fun i=>lnO kinds i.2.1 i.2.2.2.1 i.2.2.2.2.1 i.2.2.2.2.2.1 i.2.2.2.2.2.2∧i.2.1.length≤50∧i.2.2.1+i.1.size=s.size∧∃ n,i.1.size≤n∧lnGo s.size kinds s.size s [] 0=lnGo s.size kinds n i.1 i.2.1 i.2.2.1) (fun i=>i.1.size) (s,[],0,.v (.slice none 0 0),.own 5,strOb kinds,[])
  ⟨.inl ⟨rfl,rfl,rfl,rfl,rfl⟩,by simp,by simp,s.size,Nat.le_refl _,rfl⟩ (Mv.keep (by simp [f118_i7])) ?_
 rintro ⟨r,l,a,sd,kd,o5,R⟩ ⟨h1,h2,h3,n,h4,h5⟩
 simp only at h1 h2 h3 h4 h5
 simp only [go_sem,iEq,iLE,iLT,iTN]
 by_cases h0:0<r.size
 case neg=>
  have h0':¬ (0:Int)<r.size:=by omega
  simp only [go_sem,iEq,iLE,iLT,iTN,h0']
  refine finSelf ⟨rfl,r,?_⟩
  rw [h5]
  have:lnGo s.size kinds n r l a=.inr (l,a):=by
   cases n with
   | zero=>rfl
   | succ n=>rw [lnGo,if_pos (by omega)]
  rw [this]
  exact ⟨sd,kd,o5,R,h1,rfl⟩
 have h0':(0:Int)<r.size:=by omega
 obtain ⟨hL1,hL2⟩:=lineOfC_size r h0
 obtain ⟨m,rfl⟩:∃ m,n=m+1:=⟨n - 1,by omega⟩
 rw [lnGo,if_neg (by omega)] at h5
 have hix:=idx2 r 10
 simp only [go_sem,iEq,iLE,iLT,iTN,h0']
 refine hix.pv ⟨.v,.v,trivial⟩ ?_
 have fin:∀ om',lnQ ca cb s kinds (lineOfC r).2 (lnStep s.size kinds l a (lineOfC r).1) om' →
   (isInrC (lnStep s.size kinds l a (lineOfC r).1)=true→∃ l' a',(l'.length≤50∧a'+(lineOfC r).2.size=s.size∧∃ n,(lineOfC r).2.size≤n∧lnGo s.size kinds s.size s [] 0=lnGo s.size kinds n (lineOfC r).2 l' a') ∧
    (om'=lnOm ca cb s kinds a' (lineOfC r).2 (.own 11) (.own 10) .dead [strOb (metC kinds l'),lnOb l']∨om'=lnOm ca cb s kinds a' (lineOfC r).2 (.own 13) (.own 12) .dead [.dead,.dead,strOb (metC kinds l'),lnOb l'])) ∧
   (isInrC (lnStep s.size kinds l a (lineOfC r).1)=false→∃ r,lnF ca cb s kinds r (lnGo s.size kinds s.size s [] 0) om'):=by
  intro om' hq
  cases hst:lnStep s.size kinds l a (lineOfC r).1 with
  | inl q=>
   rw [hst] at hq h5
   refine ⟨fun h=>(by cases h),fun _=>⟨(lineOfC r).2,?_⟩⟩
   rw [h5]
   exact hq
  | inr q=>
   obtain ⟨l',a'⟩:=q
   rw [hst] at hq h5
   refine ⟨fun _=>?_,fun h=>(by cases h)⟩
   have hr:=lnStep_inr hst
   exact ⟨l',a',⟨by omega,by omega,m,by omega,h5⟩,hq⟩
 by_cases hx:ixN 10 r.data.toList<r.size
 ·have e1:ixS 10 r=(ixN 10 r.data.toList:Int):=by unfold ixS; rw [if_pos hx]
  have e2:lineOfC r=(r.extract 0 (ixN 10 r.data.toList+1),r.extract (ixN 10 r.data.toList+1) r.size):=by unfold lineOfC; rw [if_pos hx]
  rw [e1]
  have hR:=roundC ha hb s kinds hk l h2 sd kd o5 R h1 a (by omega) (lineOfC r).2 (lineOfC r).1 (by omega)
  generalize lnStep s.size kinds l a (lineOfC r).1=st at fin hR
  have hlt:(lineOfC r).2.size<r.size:=by omega
  generalize hlo:lineOfC r=lo at fin hR hlt
  rw [e2] at hlo
  generalize ixN 10 r.data.toList=k at hx hlo
  have hw:=wrap_succ k (by omega)
  have hg:(0:Int)≤k:=by omega
  have hk1:k+1≤r.size:=hx
  simp only [go_sem,iEq,iLE,iLT,iTN,hg,hw,hk1,Nat.zero_le,Nat.le_refl]
  subst hlo
  refine ⟨_,hR,?_⟩
  rintro o om' ⟨rfl,hq⟩
  have fin:=fin om' hq
  cases hi:isInrC st with
  | true=>
   obtain ⟨l',a',p1,rfl | rfl⟩:=fin.1 hi
   ·simp only [go_sem,iEq,iLE,iLT,iTN]
    exact ⟨(_,l',a',.own 10,.own 11,.dead,[lnOb l',strOb (metC kinds l')]),⟨.inr ⟨rfl,rfl,rfl,rfl⟩,p1⟩,hlt,Mv.of [some 0,some 1,some 2,some 3,some 4,some 5,some 6,some 7,some 8,some 9,some 11,some 10] rfl (lnMv0 ca cb s kinds a' _ l') (by simp [f118_i7])⟩
   ·simp only [go_sem,iEq,iLE,iLT,iTN]
    exact ⟨(_,l',a',.own 10,.own 11,.dead,[lnOb l',strOb (metC kinds l')]),⟨.inr ⟨rfl,rfl,rfl,rfl⟩,p1⟩,hlt,Mv.of [some 0,some 1,some 2,some 3,some 4,some 5,some 6,some 7,some 8,some 9,some 13,some 12] rfl (lnMv1 ca cb s kinds a' _ l') (by simp [f118_i7])⟩
  | false=>
   simp only [go_sem,iEq,iLE,iLT,iTN]
   exact finSelf ⟨rfl,fin.2 hi⟩
 ·have e1:ixS 10 r = -1:=by unfold ixS; rw [if_neg hx]
  have e2:lineOfC r=(r,⟨#[]⟩):=by unfold lineOfC; rw [if_neg hx]
  rw [e1]
  have hR:=roundC ha hb s kinds hk l h2 sd kd o5 R h1 a (by omega) (lineOfC r).2 (lineOfC r).1 (by omega)
  generalize lnStep s.size kinds l a (lineOfC r).1=st at fin hR
  have hlt:(lineOfC r).2.size<r.size:=by omega
  generalize hlo:lineOfC r=lo at fin hR hlt
  rw [e2] at hlo
  simp only [go_sem,iEq,iLE,iLT,iTN]
  subst hlo
  refine ⟨_,hR,?_⟩
  rintro o om' ⟨rfl,hq⟩
  have fin:=fin om' hq
  cases hi:isInrC st with
  | true=>
   obtain ⟨l',a',p1,rfl | rfl⟩:=fin.1 hi
   ·simp only [go_sem,iEq,iLE,iLT,iTN]
    exact ⟨(_,l',a',.own 10,.own 11,.dead,[lnOb l',strOb (metC kinds l')]),⟨.inr ⟨rfl,rfl,rfl,rfl⟩,p1⟩,hlt,Mv.of [some 0,some 1,some 2,some 3,some 4,some 5,some 6,some 7,some 8,some 9,some 11,some 10] rfl (lnMv0 ca cb s kinds a' _ l') (by simp [f118_i7])⟩
   ·simp only [go_sem,iEq,iLE,iLT,iTN]
    exact ⟨(_,l',a',.own 10,.own 11,.dead,[lnOb l',strOb (metC kinds l')]),⟨.inr ⟨rfl,rfl,rfl,rfl⟩,p1⟩,hlt,Mv.of [some 0,some 1,some 2,some 3,some 4,some 5,some 6,some 7,some 8,some 9,some 13,some 12] rfl (lnMv1 ca cb s kinds a' _ l') (by simp [f118_i7])⟩
  | false=>
   simp only [go_sem,iEq,iLE,iLT,iTN]
   exact finSelf ⟨rfl,fin.2 hi⟩
end Go.Proofs.YtbmedfjmccnclaaGreat.W
set_option maxRecDepth 100000
namespace Go.Proofs.YtbmedfjmccnclaaGreat.W
open Go Go.Proofs Go.Proofs.YtbmedfjmccnclaaGreat.AWP
open Int renaming reduceEq→iEq,reduceLE→iLE,reduceLT→iLT,reduceToNat→iTN
open List renaming length_map→lMp
attribute [local irreducible] xl hide aop aops aopQ qops guardP condP
def linesQ:(Nat × Nat) ⊕ (List Ln × Nat)→List Ln × Nat × Nat
 | .inl (p,e)=>([],p,e)
 | .inr (l,_)=>if l=[] then ([],0,2) else (l,0,0)
def linesR (s:ByteArray) (kinds:List ByteArray):List Ln × Nat × Nat:=linesQ (lnGo s.size kinds s.size s [] 0)
abbrev linesD (x:List Ln × Nat × Nat):D:=.tup [Lns x.1,.i x.2.1,.i x.2.2]
theorem linesD_bl (x:List Ln × Nat × Nat):Bl 0 (linesD x):=.tup (by
 intro d hd
 simp only [List.mem_cons,List.not_mem_nil,or_false] at hd
 rcases hd with rfl | rfl | rfl
 ·exact Lns_bl _
 ·exact .v _
 ·exact .v _)
set_option maxHeartbeats 8000000 in
theorem cLines (s:ByteArray) (hs:s.size≤70000) (kinds:List ByteArray) (hk:kinds.length≤1000) (hk0:kinds≠[]):AP Tryz.prog 72 [.s s,Strs kinds] (linesD (linesR s kinds)):=by
 unfold linesR
 refine AC.lbody hT hm Tryz.func72 f72_nm f72_lc f72_res f72_nt ?_
 simp only [go_sem,iEq,iLE,iLT,iTN]
 refine ⟨_,cloneS kinds (by omega) _,?_⟩
 rintro _ _ (⟨h0,rfl,rfl⟩ | ⟨rfl,rfl⟩)
 ·exact absurd h0 hk0
 simp only [go_sem,iEq,iLE,iLT,iTN]
 refine ⟨_,linesC s _,?_⟩
 rintro _ _ ⟨rfl,rfl⟩
 simp only [go_sem,iEq,iLE,iLT,iTN,W_rfun]
 intro ca cb ha hb
 refine ⟨_,lines1C ha hb s hs kinds hk,?_⟩
 rintro _ om' ⟨rfl,r,hq⟩
 clear ha hb
 generalize lnGo s.size kinds s.size s [] 0=q at hq ⊢
 cases q with
 | inl q=>
  obtain ⟨p,e⟩:=q
  rw [show linesQ (.inl (p,e))=([],p,e) from rfl]
  obtain ⟨o3,o4,o5,o6,o7,o8,M,rfl⟩:=hq
  simp only [go_sem,iEq,iLE,iLT,iTN]
  refine ⟨by simp,?_⟩
  exact Fin.ret (.tupL ⟨.nil,.v,.v,trivial⟩)
 | inr q=>
  obtain ⟨l,a⟩:=q
  obtain ⟨sd,kd,o5,R,hr,rfl⟩:=hq
  rw [show linesQ (.inr (l,a))=if l=[] then ([],0,2) else (l,0,0) from rfl]
  rcases hr with ⟨rfl,rfl,rfl,rfl,rfl⟩ | ⟨rfl,rfl,rfl,rfl⟩
  ·have z:(((0:Nat):Int) == 0)=true:=rfl
   rw [if_pos rfl]
   simp only [go_sem,iEq,iLE,iLT,iTN,z]
   refine ⟨by simp,?_⟩
   exact Fin.ret (.tupL ⟨.nil,.v,.v,trivial⟩)
  by_cases hl0:l=[]
  ·subst hl0
   have z:(((0:Nat):Int) == 0)=true:=rfl
   rw [if_pos rfl]
   simp only [go_sem,iEq,iLE,iLT,iTN,lMp,List.length_nil,z]
   refine ⟨by simp,?_⟩
   exact Fin.ret (.tupL ⟨.nil,.v,.v,trivial⟩)
  have z:(((l.length:Nat):Int) == 0)=false:=by
   rw [beq_eq_false_iff_ne]
   have:=List.length_pos_iff.2 hl0
   omega
  rw [if_neg hl0]
  simp only [go_sem,iEq,iLE,iLT,iTN,lMp,z]
  refine ⟨by simp,?_⟩
  exact Fin.ret (.tupL ⟨.frzS rfl rfl (lnR_bl l),.v,.v,trivial⟩)
end Go.Proofs.YtbmedfjmccnclaaGreat.W
set_option maxRecDepth 100000
namespace Go.Proofs.YtbmedfjmccnclaaGreat.W
open Go Go.Proofs Go.Proofs.YtbmedfjmccnclaaGreat.AWP
open Int renaming reduceEq→iEq,reduceLE→iLE,reduceLT→iLT,reduceToNat→iTN
open List renaming length_map→lMp
attribute [local irreducible] xl hide aop aops aopQ qops guardP condP
end Go.Proofs.YtbmedfjmccnclaaGreat.W
