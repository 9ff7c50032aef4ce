/- The law LookDefs. -/
import Derived.Test.YtbmedfjmccnclaaGreatWalkB
import Derived.Test.YtbmedfjmccnclaaGreatLogicE
import Derived.Test.YtbmedfjmccnclaaGreatLogicD
import Derived.Test.YtbmedfjmccnclaaGreatMathC
set_option linter.unusedVariables false
set_option linter.unusedSimpArgs false
set_option linter.unusedSectionVars false
set_option maxRecDepth 100000
namespace Go.Proofs.YtbmedfjmccnclaaGreat.W
open Go Go.Proofs Go.Proofs.YtbmedfjmccnclaaGreat.AWP
open Int renaming reduceEq → iEq,reduceLE → iLE,reduceLT → iLT,reduceToNat → iTN
open List renaming length_map → lMp
attribute [local irreducible] xl hide aop aops aopQ qops guardP condP
abbrev lkP (g : Gr) : List Bool := liveR false g.defs
abbrev lkN (g : Gr) : List Bool := liveR true g.defs
abbrev lkF (g : Gr) : List (List Bool) := fstR (lkP g) (lkN g) g.kinds.length g.defs
abbrev lkSh (g : Gr) : List (List Bool) := shnR (lkP g) (lkN g) g.kinds.length (lkF g) g.defs
abbrev lkC0 (g : Gr) : List D := [Strs g.kinds,Defs g.defs,.v (.int .u32 0),.v (.int .i32 0),.v (.int .u32 0),nilS,nilS,nilS,nilS]
abbrev lkC1 (g : Gr) : List D := [Strs g.kinds,Defs g.defs,.v (.int .u32 1),.v (.int .i32 0),.v (.int .u32 0),Bs (lkP g),Bs (lkN g),Rws (lkF g),Rws (lkSh g)]
abbrev lkA (g : Gr) : Ob := .alt 88 [lkC0 g,lkC1 g]
abbrev lk1 (g : Gr) : Ob := .var 88 (lkC1 g)
theorem lkC_bl (g : Gr) : ∀ c ∈ [lkC0 g,lkC1 g],∀ d ∈ c,Bl 0 d := by
 intro c hc d hd
 simp only [List.mem_cons,List.not_mem_nil,or_false] at hc
 rcases hc with rfl | rfl
 ·simp only [List.mem_cons,List.not_mem_nil,or_false] at hd
  rcases hd with rfl | rfl | rfl | rfl | rfl | rfl | rfl | rfl | rfl
  ·exact Strs_bl _
  ·exact Defs_bl _
  all_goals exact .v _
 ·simp only [List.mem_cons,List.not_mem_nil,or_false] at hd
  rcases hd with rfl | rfl | rfl | rfl | rfl | rfl | rfl | rfl | rfl
  ·exact Strs_bl _
  ·exact Defs_bl _
  ·exact .v _
  ·exact .v _
  ·exact .v _
  ·exact Bs_bl _
  ·exact Bs_bl _
  ·exact Rws_bl _
  ·exact Rws_bl _
set_option maxHeartbeats 4000000 in
theorem ofC (g : Gr) (hg : GFit g) : AC Tryz.prog 15 [.agg g.c] [] (fun o om => (mayG g = false ∧ o = .ret (.tup [.v (.pointer none),.i 1]) ∧ om = []) ∨ (mayG g = true ∧ o = .ret (.tup [.ref 0 0,.i 0]) ∧ om = [lkA g])) := by
 have h : AC Tryz.prog 15 [.agg g.c] [] (fun o om => (mayG g = false ∧ o = .ret (.tup [.v (.pointer none),.i 1]) ∧ om = []) ∨ (mayG g = true ∧ o = .ret (.tup [.ref 0 0,.i 0]) ∧ om = [.var 88 (lkC0 g)])) := by
  generalize hX : (fun (o : Out) (om : List Ob) => (mayG g = false ∧ o = .ret (.tup [.v (.pointer none),.i 1]) ∧ om = []) ∨ (mayG g = true ∧ o = .ret (.tup [.ref 0 0,.i 0]) ∧ om = [.var 88 (lkC0 g)])) = X
  refine AC.lbody hT hm Tryz.func15 f15_nm f15_lc f15_res f15_nt ?_
  simp only [go_sem,iEq,iLE,iLT,iTN,gr_take,gr_c_len,lMp]
  have hM := cMayS [g] (by simp) (fun x hx => by rw [List.mem_singleton.1 hx]; exact hg)
  refine hM.pv ⟨.same (Grs_bl [g]),trivial⟩ ?_
  have e : [g].all mayG = mayG g := by simp
  rw [e]
  cases hm : mayG g with
  | false =>
   simp only [go_sem,iEq,iLE,iLT,iTN,Bool.not_false]
   exact Fin.nil (d' := .tup [.v (.pointer none),.i 1]) (.tupL ⟨.v,.v,trivial⟩) (by rw [← hX]; exact .inl ⟨hm,rfl,rfl⟩)
  | true =>
  simp only [go_sem,iEq,iLE,iLT,iTN,Bool.not_true,gr_take,gr_c_len,lMp]
  refine (cloneC g hm).pd ⟨.same (Gr.d_bl g),trivial⟩ (Gr.d_bl g) ?_
  simp only [go_sem,iEq,iLE,iLT,iTN,gr_take,gr_c_len,lMp]
  exact fun E0 E e _ hx hR ho => ⟨E,_,_,by rw [← hX]; exact .inr ⟨hm,rfl,rfl⟩,rfl,hx,hR,ho⟩
 refine h.toAlt ?_
 rintro o om (⟨h1,rfl,rfl⟩ | ⟨h1,rfl,rfl⟩)
 ·exact .inl (.inl ⟨h1,rfl,rfl⟩)
 ·exact .inr ⟨_,lkC0 g,[lkC0 g,lkC1 g],[],rfl,by simp,lkC_bl g _ (by simp),.inr ⟨h1,rfl,rfl⟩⟩
def knB (g : Gr) (l : List Cf) : Bool := !l.isEmpty && l.all fun c => c.may g.kinds.length g.defs.length && decide (c.sz ≤ 2000)
set_option maxHeartbeats 4000000 in
theorem knownC (g : Gr) (hg : mayG g = true) (l : List Cf) (hl : l.length ≤ 1000000) (hc : ∀ c ∈ l,c.sz ≤ 1099511627776) {c0 : List D} (h0 : c0 ∈ [lkC0 g,lkC1 g]) : AC Tryz.prog 48 [.ref 0 0,Cfs l] [.var 88 c0] (fun o om => o = .ret (if knB g l = true then .ref 0 5 else .v (.pointer none)) ∧ om = [.var 88 (if knB g l = true then lkC1 g else c0)]) := by
 obtain ⟨m1,m2,m3,m4,m5,m6,m7,m8⟩ := mayG_facts hg
 have hF := cFitsL g l (GFit_may hg) hl hc
 rw [hg,Bool.true_and] at hF
 have hq : ∀ om (F : Nat → Bool) (kk : List (Option Nat)),Cv om F kk (Cfs l) (Cfs l) := fun om F kk => .same (.sl (Cf.cs_bl l))
 have hdo := doFirst (o3 := 0) (fun d hd => (m2 d hd).2) (by omega) (by omega)
 unfold knB
 refine AC.lbody hT hm Tryz.func48 f48_nm f48_lc f48_res f48_nt ?_
 simp only [List.mem_cons,List.not_mem_nil,or_false] at h0
 cases hl0 : l.isEmpty with
 | true =>
  have hle : l = [] := List.isEmpty_iff.1 hl0
  subst hle
  have hz : (((0 : Nat) : Int) == 0) = true := rfl
  rcases h0 with rfl | rfl
  all_goals
   simp only [go_sem,iEq,iLE,iLT,iTN,Cf.cs_eq,List.map_nil,hz]
   exact fun E0 E e _ hx hR ho => ⟨E,_,_,⟨rfl,rfl⟩,rfl,hx,hR,ho⟩
 | false =>
 have hz : (((l.length : Nat) : Int) == 0) = false := by
  simp only [beq_eq_false_iff_ne]
  intro h
  have : l = [] := List.eq_nil_of_length_eq_zero (by omega)
  rw [this] at hl0; cases hl0
 have hgc : List.take 2 (lkC0 g) = g.c := rfl
 have hgc1 : List.take 2 (lkC1 g) = g.c := rfl
 rcases h0 with rfl | rfl
 ·simp only [go_sem,iEq,iLE,iLT,iTN,Cf.cs_eq,lMp,hz,gr_c_len]
  refine hF.pv ⟨.same (Gr.d_bl g),.same (Cfs_bl' l),trivial⟩ ?_
  cases hall : l.all fun c => c.may g.kinds.length g.defs.length && decide (c.sz ≤ 2000) with
  | false =>
   simp only [go_sem,iEq,iLE,iLT,iTN,Bool.not_false]
   exact fun E0 E e _ hx hR ho => ⟨E,_,_,⟨rfl,rfl⟩,rfl,hx,hR,ho⟩
  | true =>
   simp only [go_sem,iEq,iLE,iLT,iTN,Bool.not_true]
   refine ⟨_,hdo,?_⟩
   rintro _ _ ⟨rfl,rfl⟩
   simp only [go_sem,iEq,iLE,iLT,iTN]
   exact fun E0 E e _ hx hR ho => ⟨E,_,_,⟨rfl,rfl⟩,rfl,hx,hR,ho⟩
 ·simp only [go_sem,iEq,iLE,iLT,iTN,Cf.cs_eq,lMp,hz,gr_c_len]
  refine hF.pv ⟨.same (Gr.d_bl g),.same (Cfs_bl' l),trivial⟩ ?_
  cases hall : l.all fun c => c.may g.kinds.length g.defs.length && decide (c.sz ≤ 2000) with
  | false =>
   simp only [go_sem,iEq,iLE,iLT,iTN,Bool.not_false]
   exact fun E0 E e _ hx hR ho => ⟨E,_,_,⟨rfl,rfl⟩,rfl,hx,hR,ho⟩
  | true =>
   simp only [go_sem,iEq,iLE,iLT,iTN,Bool.not_true]
   refine ⟨_,doAgain (o1 := 1) (by omega),?_⟩
   rintro _ _ ⟨rfl,rfl⟩
   simp only [go_sem,iEq,iLE,iLT,iTN]
   exact fun E0 E e _ hx hR ho => ⟨E,_,_,⟨rfl,rfl⟩,rfl,hx,hR,ho⟩
set_option maxHeartbeats 4000000 in
theorem knownN (l : List Cf) : AP Tryz.prog 48 [.v (.pointer none),Cfs l] (.v (.pointer none)) := by
 refine AC.lbody hT hm Tryz.func48 f48_nm f48_lc f48_res f48_nt ?_
 simp only [go_sem,iEq,iLE,iLT,iTN]
 exact Fin.v rfl
theorem knB_all {g : Gr} {l : List Cf} (h : knB g l = true) : ∀ c ∈ l,c.may g.kinds.length g.defs.length = true := by
 intro c hc
 unfold knB at h
 rw [Bool.and_eq_true] at h
 have := List.all_eq_true.1 h.2 c hc
 rw [Bool.and_eq_true] at this
 exact this.1
theorem knB_one {g : Gr} {c : Cf} (h : knB g [c] = true) : c.may g.kinds.length g.defs.length = true := knB_all h c (by simp)
theorem lkShift {f : FuncId} {ds : List D} {d : D} {g : Gr} (h : AC Tryz.prog f (.ref 0 0 :: ds) [lkA g] (fun o om => o = .ret d ∧ om = [lkA g])) (hds : ∀ d ∈ ds,Bl 0 d) (hd : Bl 0 d) (fr bk : List Ob) : AC Tryz.prog f (.ref fr.length 0 :: ds) (fr ++ [lkA g] ++ bk) (retP d (fr ++ [lkA g] ++ bk)) := by
 refine (h.shiftM (fr := fr) (bk := bk) (ds' := .ref fr.length 0 :: ds) rfl ?_ ?_ ?_ ?_).mono ?_
 ·intro j d d' h1 h2
  match j with
  | 0 => cases h1; cases h2; exact .inr ⟨0,0,rfl,rfl⟩
  | j + 1 =>
   have e : d' = d := Option.some.inj ((show ds[j]? = some d' from h2).symm.trans h1)
   exact .inl ⟨hds d (List.mem_of_getElem? (show ds[j]? = some d from h1)),e⟩
 ·intro j k off h
  match j with
  | 0 => cases h; exact Nat.zero_lt_one
  | j + 1 =>
   have := hds _ (List.mem_of_getElem? (show ds[j]? = some (.ref k off) from h))
   cases this; omega
 ·intro o ho
  rw [List.mem_singleton.1 ho]
  exact lkC_bl g
 ·rintro o om' ⟨rfl,rfl⟩
  refine ⟨rfl,hd,fun x hx => ?_⟩
  rw [List.mem_singleton.1 hx]
  exact lkC_bl g
 ·rintro o om ⟨_,⟨rfl,rfl⟩,rfl⟩
  exact ⟨rfl,rfl⟩
def firstL (g : Gr) (c : Cf) : List Nat := if knB g [c] = true then lstI 0 (c.fst (lkP g) (lkN g) g.kinds.length (lkF g)) else []
def shunL (g : Gr) (c : Cf) : List Nat := if knB g [c] = true then lstI 0 (c.shn (lkP g) (lkN g) g.kinds.length (lkF g) (lkSh g)) else []
def prodL (g : Gr) (l : List Cf) : Bool := knB g l && l.all fun c => c.live false (lkP g)
def nullL (g : Gr) (l : List Cf) : Bool := knB g l && l.all fun c => c.live true (lkN g)
set_option maxHeartbeats 4000000 in
theorem firstC0 (g : Gr) (hg : mayG g = true) (c : Cf) (hc : c.sz ≤ 1099511627776) {c0 : List D} (h0 : c0 ∈ [lkC0 g,lkC1 g]) : AC Tryz.prog 18 [.ref 0 0,.agg c.c] [.var 88 c0] (fun o om => o = .ret (Ins (firstL g c)) ∧ ∃ c' ∈ [lkC0 g,lkC1 g],om = [.var 88 c']) := by
 obtain ⟨m1,m2,m3,m4,m5,m6,m7,m8⟩ := mayG_facts hg
 have hK := knownC g hg [c] (by simp) (fun x hx => by rw [List.mem_singleton.1 hx]; exact hc) h0
 have e1 : Cfs [c] = .sl 3 [c.c] := by show D.sl 3 (Cf.cs [c]) = _; rw [Cf.cs_eq]; rfl
 rw [e1] at hK
 unfold firstL
 refine AC.lbody hT hm Tryz.func18 f18_nm f18_lc f18_res f18_nt ?_
 simp only [go_sem,iEq,iLE,iLT,iTN,Cf.c_take]
 refine ⟨_,hK,?_⟩
 rintro _ _ ⟨rfl,rfl⟩
 cases hk : knB g [c] with
 | false =>
  simp only [go_sem,iEq,iLE,iLT,iTN]
  exact Fin.mv (om' := [.var 88 c0]) [some 0] rfl ⟨.varS rfl (lkC_bl g c0 h0),trivial⟩ cv_ins0 ⟨rfl,c0,h0,rfl⟩
 | true =>
  have hmay := knB_one hk
  have hPl := liveR_len false g.defs
  have hNl := liveR_len true g.defs
  have hFl := fstR_len (lkP g) (lkN g) g.kinds.length g.defs
  have hSl := shnR_len (lkP g) (lkN g) g.kinds.length (lkF g) g.defs
  have hFo := fstR_ok (lkP g) (lkN g) g.kinds.length g.defs
  have hSo := shnR_ok (lkP g) (lkN g) g.kinds.length (lkF g) g.defs
  simp only [go_sem,iEq,iLE,iLT,iTN]
  refine ⟨_,(cFirstO (Rws_bl _) (by omega) (by rw [hPl,hFl]) (by rw [hNl,hFl]) hFo c (by rw [hFl]; exact hmay)).lendD ⟨.frvS (c := lkC1 g) rfl rfl (by simp) (lkC_bl g _ (by simp)),.same (Cf.d_bl c),.v,trivial⟩ (boR_plain _),?_⟩
  rintro _ _ ⟨rfl,rfl⟩
  simp only [go_sem,iEq,iLE,iLT,iTN]
  refine (cList _ (by rw [fst_len]; omega)).pd ⟨.same (Bs_bl _),trivial⟩ (Ins_bl _) ?_
  simp only [go_sem,iEq,iLE,iLT,iTN]
  exact fun E0 E e _ hx hR ho => ⟨E,_,_,⟨rfl,lkC1 g,by simp,rfl⟩,rfl,hx,hR,ho⟩
theorem firstC (g : Gr) (hg : mayG g = true) (c : Cf) (hc : c.sz ≤ 1099511627776) (fr bk : List Ob) : AC Tryz.prog 18 [.ref fr.length 0,.agg c.c] (fr ++ [lkA g] ++ bk) (retP (Ins (firstL g c)) (fr ++ [lkA g] ++ bk)) :=
 lkShift (AC.alt (by rfl) (lkC_bl g) fun c0 h0 => firstC0 g hg c hc h0) (fun d hd => by rw [List.mem_singleton.1 hd]; exact Cf.d_bl c) (Ins_bl _) fr bk
theorem firstN (c : Cf) : AP Tryz.prog 18 [.v (.pointer none),.agg c.c] (Ins []) := by
 have hK := knownN [c]
 have e1 : Cfs [c] = .sl 3 [c.c] := by show D.sl 3 (Cf.cs [c]) = _; rw [Cf.cs_eq]; rfl
 rw [e1] at hK
 refine AC.lbody hT hm Tryz.func18 f18_nm f18_lc f18_res f18_nt ?_
 simp only [go_sem,iEq,iLE,iLT,iTN,Cf.c_take]
 refine hK.pv ⟨.v,.same (one_blC _),trivial⟩ ?_
 simp only [go_sem,iEq,iLE,iLT,iTN]
 exact Fin.ret cv_ins0
set_option maxHeartbeats 4000000 in
theorem shunC0 (g : Gr) (hg : mayG g = true) (c : Cf) (hc : c.sz ≤ 1099511627776) {c0 : List D} (h0 : c0 ∈ [lkC0 g,lkC1 g]) : AC Tryz.prog 19 [.ref 0 0,.agg c.c] [.var 88 c0] (fun o om => o = .ret (Ins (shunL g c)) ∧ ∃ c' ∈ [lkC0 g,lkC1 g],om = [.var 88 c']) := by
 obtain ⟨m1,m2,m3,m4,m5,m6,m7,m8⟩ := mayG_facts hg
 have hK := knownC g hg [c] (by simp) (fun x hx => by rw [List.mem_singleton.1 hx]; exact hc) h0
 have e1 : Cfs [c] = .sl 3 [c.c] := by show D.sl 3 (Cf.cs [c]) = _; rw [Cf.cs_eq]; rfl
 rw [e1] at hK
 unfold shunL
 refine AC.lbody hT hm Tryz.func19 f19_nm f19_lc f19_res f19_nt ?_
 simp only [go_sem,iEq,iLE,iLT,iTN,Cf.c_take]
 refine ⟨_,hK,?_⟩
 rintro _ _ ⟨rfl,rfl⟩
 cases hk : knB g [c] with
 | false =>
  simp only [go_sem,iEq,iLE,iLT,iTN]
  exact Fin.mv (om' := [.var 88 c0]) [some 0] rfl ⟨.varS rfl (lkC_bl g c0 h0),trivial⟩ cv_ins0 ⟨rfl,c0,h0,rfl⟩
 | true =>
  have hmay := knB_one hk
  have hPl := liveR_len false g.defs
  have hNl := liveR_len true g.defs
  have hFl := fstR_len (lkP g) (lkN g) g.kinds.length g.defs
  have hSl := shnR_len (lkP g) (lkN g) g.kinds.length (lkF g) g.defs
  have hFo := fstR_ok (lkP g) (lkN g) g.kinds.length g.defs
  have hSo := shnR_ok (lkP g) (lkN g) g.kinds.length (lkF g) g.defs
  simp only [go_sem,iEq,iLE,iLT,iTN]
  refine ⟨_,(cShunO (by omega) (by rw [hPl,hFl]) (by rw [hNl,hFl]) (by rw [hSl,hFl]) hFo hSo c (by rw [hFl]; exact hmay)).lendD ⟨.frvS (c := lkC1 g) rfl rfl (by simp) (lkC_bl g _ (by simp)),.same (Cf.d_bl c),.v,trivial⟩ (boR_plain _),?_⟩
  rintro _ _ ⟨rfl,rfl⟩
  simp only [go_sem,iEq,iLE,iLT,iTN]
  refine (cList _ (by rw [shn_len]; omega)).pd ⟨.same (Bs_bl _),trivial⟩ (Ins_bl _) ?_
  simp only [go_sem,iEq,iLE,iLT,iTN]
  exact fun E0 E e _ hx hR ho => ⟨E,_,_,⟨rfl,lkC1 g,by simp,rfl⟩,rfl,hx,hR,ho⟩
theorem shunC (g : Gr) (hg : mayG g = true) (c : Cf) (hc : c.sz ≤ 1099511627776) (fr bk : List Ob) : AC Tryz.prog 19 [.ref fr.length 0,.agg c.c] (fr ++ [lkA g] ++ bk) (retP (Ins (shunL g c)) (fr ++ [lkA g] ++ bk)) :=
 lkShift (AC.alt (by rfl) (lkC_bl g) fun c0 h0 => shunC0 g hg c hc h0) (fun d hd => by rw [List.mem_singleton.1 hd]; exact Cf.d_bl c) (Ins_bl _) fr bk
theorem shunN (c : Cf) : AP Tryz.prog 19 [.v (.pointer none),.agg c.c] (Ins []) := by
 have hK := knownN [c]
 have e1 : Cfs [c] = .sl 3 [c.c] := by show D.sl 3 (Cf.cs [c]) = _; rw [Cf.cs_eq]; rfl
 rw [e1] at hK
 refine AC.lbody hT hm Tryz.func19 f19_nm f19_lc f19_res f19_nt ?_
 simp only [go_sem,iEq,iLE,iLT,iTN,Cf.c_take]
 refine hK.pv ⟨.v,.same (one_blC _),trivial⟩ ?_
 simp only [go_sem,iEq,iLE,iLT,iTN]
 exact Fin.ret cv_ins0
set_option maxHeartbeats 4000000 in
theorem prod1 (g : Gr) (c : Cf) (hmy : c.may g.kinds.length g.defs.length = true) : AP Tryz.prog 55 [.agg c.c,.pel [.pel (fcD (lkP g) (lkN g) (Rws (lkF g)) (Rws (lkSh g)))]] (.b (!(c.live false (lkP g)))) := by
 refine AC.lbody hT hm Tryz.func55 f55_nm f55_lc f55_res f55_nt ?_
 simp only [go_sem,iEq,iLE,iLT,iTN,Cf.c_take]
 refine (cProd (K := g.kinds.length) (P := lkP g) (lkN g) (Rws_bl _) (Rws_bl _) c (by rw [liveR_len]; exact hmy)).pv ⟨.same (fcP_bl _ _ (Rws_bl _) (Rws_bl _)),.same (Cf.d_bl c),trivial⟩ ?_
 simp only [go_sem,iEq,iLE,iLT,iTN]
 exact Fin.v rfl
set_option maxHeartbeats 4000000 in
theorem prodC0 (g : Gr) (hg : mayG g = true) (l : List Cf) (hl : l.length ≤ 1000000) (hc : ∀ c ∈ l,c.sz ≤ 1099511627776) {c0 : List D} (h0 : c0 ∈ [lkC0 g,lkC1 g]) : AC Tryz.prog 22 [.ref 0 0,Cfs l] [.var 88 c0] (fun o om => o = .ret (.b (prodL g l)) ∧ ∃ c' ∈ [lkC0 g,lkC1 g],om = [.var 88 c']) := by
 obtain ⟨m1,m2,m3,m4,m5,m6,m7,m8⟩ := mayG_facts hg
 have hK := knownC g hg l hl hc h0
 have hq : ∀ om (F : Nat → Bool) (kk : List (Option Nat)),Cv om F kk (Cfs l) (Cfs l) := fun om F kk => .same (.sl (Cf.cs_bl l))
 unfold prodL
 refine AC.lbody hT hm Tryz.func22 f22_nm f22_lc f22_res f22_nt ?_
 simp only [go_sem,iEq,iLE,iLT,iTN]
 refine ⟨_,hK,?_⟩
 rintro _ _ ⟨rfl,rfl⟩
 cases hk : knB g l with
 | false =>
  simp only [go_sem,iEq,iLE,iLT,iTN]
  exact Fin.mv (om' := [.var 88 c0]) [some 0] rfl ⟨.varS rfl (lkC_bl g c0 h0),trivial⟩ .v ⟨rfl,c0,h0,rfl⟩
 | true =>
  have hmay := knB_all hk
  have hPl := liveR_len false g.defs
  have hNl := liveR_len true g.defs
  simp only [go_sem,iEq,iLE,iLT,iTN]
  have hA := anyCf 55 [.pel [.pel (fcD (lkP g) (lkN g) (Rws (lkF g)) (Rws (lkSh g)))]] (fun d hd => by rw [List.mem_singleton.1 hd]; exact .pel fun d hd => by rw [List.mem_singleton.1 hd]; exact fcP_bl _ _ (Rws_bl _) (Rws_bl _)) (fun c => !(c.live false (lkP g))) l (by omega) fun x hx => prod1 g x (hmay x hx)
  refine hA.pv ⟨hq _ _ _,.fnL ⟨.frv (c := [.ref 0 5]) (off := 0) rfl rfl (by simp) ?_,trivial⟩,trivial⟩ ?_
  ·intro j d d' h1 h2
   match j with
   | 0 => cases h1; cases h2; exact .frvS (c := lkC1 g) rfl rfl (by simp) (lkC_bl g _ (by simp))
   | j + 1 => cases h2
  simp only [go_sem,iEq,iLE,iLT,iTN]
  have e2 : (!l.any fun c => !(c.live false (lkP g))) = l.all fun c => c.live false (lkP g) := by
   clear hA hmay hk hK hq hc hl
   induction l with
   | nil => rfl
   | cons x l ih => rw [List.any_cons,List.all_cons,Bool.not_or,Bool.not_not,ih]
  exact Fin.mv (om' := [lk1 g]) [some 0] rfl ⟨.varS rfl (lkC_bl g _ (by simp)),trivial⟩ .v ⟨by rw [e2],lkC1 g,by simp,rfl⟩
theorem prodC (g : Gr) (hg : mayG g = true) (l : List Cf) (hl : l.length ≤ 1000000) (hc : ∀ c ∈ l,c.sz ≤ 1099511627776) (fr bk : List Ob) : AC Tryz.prog 22 [.ref fr.length 0,Cfs l] (fr ++ [lkA g] ++ bk) (retP (.b (prodL g l)) (fr ++ [lkA g] ++ bk)) :=
 lkShift (AC.alt (by rfl) (lkC_bl g) fun c0 h0 => prodC0 g hg l hl hc h0) (fun d hd => by rw [List.mem_singleton.1 hd]; exact .sl (Cf.cs_bl l)) (.v _) fr bk
theorem prodN (l : List Cf) : AP Tryz.prog 22 [.v (.pointer none),Cfs l] (.b false) := by
 have hK := knownN l
 refine AC.lbody hT hm Tryz.func22 f22_nm f22_lc f22_res f22_nt ?_
 simp only [go_sem,iEq,iLE,iLT,iTN]
 refine hK.pv ⟨.v,.same (.sl (Cf.cs_bl l)),trivial⟩ ?_
 simp only [go_sem,iEq,iLE,iLT,iTN]
 exact Fin.v rfl
set_option maxHeartbeats 4000000 in
theorem null1 (g : Gr) (c : Cf) (hmy : c.may g.kinds.length g.defs.length = true) : AP Tryz.prog 57 [.agg c.c,.pel [.pel (fcD (lkP g) (lkN g) (Rws (lkF g)) (Rws (lkSh g)))]] (.b (!(c.live true (lkN g)))) := by
 refine AC.lbody hT hm Tryz.func57 f57_nm f57_lc f57_res f57_nt ?_
 simp only [go_sem,iEq,iLE,iLT,iTN,Cf.c_take]
 refine (cNull (K := g.kinds.length) (N := lkN g) (lkP g) (Rws_bl _) (Rws_bl _) c (by rw [liveR_len]; exact hmy)).pv ⟨.same (fcP_bl _ _ (Rws_bl _) (Rws_bl _)),.same (Cf.d_bl c),trivial⟩ ?_
 simp only [go_sem,iEq,iLE,iLT,iTN]
 exact Fin.v rfl
set_option maxHeartbeats 4000000 in
theorem nullC0 (g : Gr) (hg : mayG g = true) (l : List Cf) (hl : l.length ≤ 1000000) (hc : ∀ c ∈ l,c.sz ≤ 1099511627776) {c0 : List D} (h0 : c0 ∈ [lkC0 g,lkC1 g]) : AC Tryz.prog 23 [.ref 0 0,Cfs l] [.var 88 c0] (fun o om => o = .ret (.b (nullL g l)) ∧ ∃ c' ∈ [lkC0 g,lkC1 g],om = [.var 88 c']) := by
 obtain ⟨m1,m2,m3,m4,m5,m6,m7,m8⟩ := mayG_facts hg
 have hK := knownC g hg l hl hc h0
 have hq : ∀ om (F : Nat → Bool) (kk : List (Option Nat)),Cv om F kk (Cfs l) (Cfs l) := fun om F kk => .same (.sl (Cf.cs_bl l))
 unfold nullL
 refine AC.lbody hT hm Tryz.func23 f23_nm f23_lc f23_res f23_nt ?_
 simp only [go_sem,iEq,iLE,iLT,iTN]
 refine ⟨_,hK,?_⟩
 rintro _ _ ⟨rfl,rfl⟩
 cases hk : knB g l with
 | false =>
  simp only [go_sem,iEq,iLE,iLT,iTN]
  exact Fin.mv (om' := [.var 88 c0]) [some 0] rfl ⟨.varS rfl (lkC_bl g c0 h0),trivial⟩ .v ⟨rfl,c0,h0,rfl⟩
 | true =>
  have hmay := knB_all hk
  have hPl := liveR_len false g.defs
  have hNl := liveR_len true g.defs
  simp only [go_sem,iEq,iLE,iLT,iTN]
  have hA := anyCf 57 [.pel [.pel (fcD (lkP g) (lkN g) (Rws (lkF g)) (Rws (lkSh g)))]] (fun d hd => by rw [List.mem_singleton.1 hd]; exact .pel fun d hd => by rw [List.mem_singleton.1 hd]; exact fcP_bl _ _ (Rws_bl _) (Rws_bl _)) (fun c => !(c.live true (lkN g))) l (by omega) fun x hx => null1 g x (hmay x hx)
  refine hA.pv ⟨hq _ _ _,.fnL ⟨.frv (c := [.ref 0 5]) (off := 0) rfl rfl (by simp) ?_,trivial⟩,trivial⟩ ?_
  ·intro j d d' h1 h2
   match j with
   | 0 => cases h1; cases h2; exact .frvS (c := lkC1 g) rfl rfl (by simp) (lkC_bl g _ (by simp))
   | j + 1 => cases h2
  simp only [go_sem,iEq,iLE,iLT,iTN]
  have e2 : (!l.any fun c => !(c.live true (lkN g))) = l.all fun c => c.live true (lkN g) := by
   clear hA hmay hk hK hq hc hl
   induction l with
   | nil => rfl
   | cons x l ih => rw [List.any_cons,List.all_cons,Bool.not_or,Bool.not_not,ih]
  exact Fin.mv (om' := [lk1 g]) [some 0] rfl ⟨.varS rfl (lkC_bl g _ (by simp)),trivial⟩ .v ⟨by rw [e2],lkC1 g,by simp,rfl⟩
theorem nullC (g : Gr) (hg : mayG g = true) (l : List Cf) (hl : l.length ≤ 1000000) (hc : ∀ c ∈ l,c.sz ≤ 1099511627776) (fr bk : List Ob) : AC Tryz.prog 23 [.ref fr.length 0,Cfs l] (fr ++ [lkA g] ++ bk) (retP (.b (nullL g l)) (fr ++ [lkA g] ++ bk)) :=
 lkShift (AC.alt (by rfl) (lkC_bl g) fun c0 h0 => nullC0 g hg l hl hc h0) (fun d hd => by rw [List.mem_singleton.1 hd]; exact .sl (Cf.cs_bl l)) (.v _) fr bk
theorem nullN (l : List Cf) : AP Tryz.prog 23 [.v (.pointer none),Cfs l] (.b false) := by
 have hK := knownN l
 refine AC.lbody hT hm Tryz.func23 f23_nm f23_lc f23_res f23_nt ?_
 simp only [go_sem,iEq,iLE,iLT,iTN]
 refine hK.pv ⟨.v,.same (.sl (Cf.cs_bl l)),trivial⟩ ?_
 simp only [go_sem,iEq,iLE,iLT,iTN]
 exact Fin.v rfl
abbrev gr0 : Gr := ⟨[],[]⟩
theorem grN : AP Tryz.prog 26 [.v (.pointer none)] (.agg gr0.c) := by
 refine AC.lbody hT hm Tryz.func26 f26_nm f26_lc f26_res f26_nt ?_
 simp only [go_sem,iEq,iLE,iLT,iTN]
 exact Fin.ret (.aggL ⟨.nil,.nil,trivial⟩)
end Go.Proofs.YtbmedfjmccnclaaGreat.W
set_option maxRecDepth 100000
namespace Go.Proofs.YtbmedfjmccnclaaGreat.W
open Go Go.Proofs Go.Proofs.YtbmedfjmccnclaaGreat.AWP
open Int renaming reduceEq → iEq,reduceLE → iLE,reduceLT → iLT,reduceToNat → iTN
open List renaming length_map → lMp
section
variable {P N : List Bool} {F : List (List Bool)} {n D : Nat}
theorem row_mem (hF : FsOk n F) {i : Nat} {f : List Bool} (hf : F[i]? = some f) : true ∈ orR (zR n) (F.getD i []) ↔ true ∈ f := by
 rw [List.getD_eq_getElem?_getD,hf,Option.getD_some,orR_mem (by rw [hF f (List.mem_of_getElem? hf)]; simp)]
 constructor
 ·rintro (h | h)
  ·exact absurd h (zR_mem n)
  ·exact h
 ·exact .inr
theorem fst_prod (hF : FsOk n F) (hl : F.length = D) (hP : P.length = D) (hNP : leR N P) (hi : ∀ (i : Nat) (f : List Bool),F[i]? = some f → true ∈ f → P[i]? = some true) : ∀ r : Cf,r.may n D = true → true ∈ r.fst P N n F → r.live false P = true := by
 refine may_cases ?_ ?_ ?_ ?_ ?_ ?_
 ·rw [fst_1]; exact fun h => absurd h (zR_mem n)
 ·rw [fst_2]; exact fun h => absurd h (zR_mem n)
 ·intro k hk _; rw [live_3]; rfl
 ·intro k hk
  obtain ⟨f,hf⟩ := get_ex (l := F) (show k < F.length by omega)
  rw [fst_6,row_mem hF hf,live_6]
  exact fun h => getD_of (hi k f hf h)
 ·intro x y _ _ hx hy h
  rw [fst_4] at h
  rw [live_4]
  have hlx := fst_len P N n F x
  have hly := fst_len P N n F y
  have one : true ∈ (if y.live false P = true then orR (zR n) (x.fst P N n F) else zR n) → x.live false P = true ∧ y.live false P = true := by
   intro h
   split at h
   ·rename_i hyl
    rcases (orR_mem (by rw [hlx]; simp)).1 h with h | h
    ·exact absurd h (zR_mem n)
    ·exact ⟨hx h,hyl⟩
   ·exact absurd h (zR_mem n)
  have hlo : (if y.live false P = true then orR (zR n) (x.fst P N n F) else zR n).length = n := by split <;> simp [orR_len]
  split at h
  ·rename_i hxn
   rcases (orR_mem (by rw [hly,hlo])).1 h with h | h
   ·rw [(one h).1,(one h).2]; rfl
   ·rw [live_le hNP x hxn,hy h]; rfl
  ·rw [(one h).1,(one h).2]; rfl
 ·intro x y _ _ hx hy h
  rw [fst_5] at h
  rw [live_5]
  have hlx := fst_len P N n F x
  have hly := fst_len P N n F y
  rcases (orR_mem (by rw [hly,orR_len]; simp)).1 h with h | h
  ·rcases (orR_mem (by rw [hlx]; simp)).1 h with h | h
   ·exact absurd h (zR_mem n)
   ·rw [hx h]; rfl
  ·rw [hy h]; simp
theorem prod_fst {Q : List Bool} (hF : FsOk n F) (hl : F.length = D) (hN : N.length = D) (hQP : leR Q P) (hi : ∀ i : Nat,Q[i]? = some true → N[i]? = some true ∨ ∃ f : List Bool,F[i]? = some f ∧ true ∈ f) : ∀ r : Cf,r.may n D = true → r.live false Q = true → r.live true N = true ∨ true ∈ r.fst P N n F := by
 refine may_cases ?_ ?_ ?_ ?_ ?_ ?_
 ·rw [live_1]; exact fun h => by cases h
 ·intro _; rw [live_2]; exact .inl rfl
 ·intro k hk _
  refine .inr ?_
  rw [fst_3]
  exact List.mem_of_getElem? (i := k) (List.getElem?_set_self (by simpa using hk))
 ·intro k hk h
  rw [live_6] at h
  have hq : Q[k]? = some true := by
   rw [List.getD_eq_getElem?_getD] at h
   cases e : Q[k]? with
   | none => rw [e] at h; cases h
   | some b => rw [e] at h; simpa using h
  rcases hi k hq with h1 | ⟨f,hf,h1⟩
  ·rw [live_6]; exact .inl (getD_of h1)
  ·rw [fst_6,row_mem hF hf]; exact .inr h1
 ·intro x y _ _ hx hy h
  rw [live_4,Bool.and_eq_true] at h
  rw [live_4,fst_4]
  have hlx := fst_len P N n F x
  have hly := fst_len P N n F y
  have hyp := live_mono false hQP y h.2
  rw [if_pos hyp]
  have hlo : (orR (zR n) (x.fst P N n F)).length = n := by simp [orR_len]
  by_cases hxn : x.live true N = true
  ·rw [if_pos hxn,hxn]
   rcases hy h.2 with h1 | h1
   ·rw [h1]; exact .inl rfl
   ·exact .inr ((orR_mem (by rw [hlo,hly])).2 (.inr h1))
  ·rw [if_neg hxn]
   rcases hx h.1 with h1 | h1
   ·exact absurd h1 hxn
   ·exact .inr ((orR_mem (by rw [hlx]; simp)).2 (.inr h1))
 ·intro x y _ _ hx hy h
  rw [live_5,Bool.or_eq_true] at h
  rw [live_5,fst_5]
  have hlx := fst_len P N n F x
  have hly := fst_len P N n F y
  have hlo : (orR (zR n) (x.fst P N n F)).length = n := by simp [orR_len]
  rcases h with h | h
  ·rcases hx h with h1 | h1
   ·rw [h1]; exact .inl rfl
   ·exact .inr ((orR_mem (by rw [hlo,hly])).2 (.inl ((orR_mem (by rw [hlx]; simp)).2 (.inr h1))))
  ·rcases hy h with h1 | h1
   ·rw [h1]; exact .inl (by simp)
   ·exact .inr ((orR_mem (by rw [hlo,hly])).2 (.inr h1))
end
section
variable {g : Gr} (hd : ∀ d ∈ g.defs,d.2.may g.kinds.length g.defs.length = true)
include hd
theorem lk_fst_prod (r : Cf) (hr : r.may g.kinds.length g.defs.length = true) (h : true ∈ r.fst (lkP g) (lkN g) g.kinds.length (lkF g)) : r.live false (lkP g) = true := by
 have hNP := null_prod g.defs
 have hPl := liveR_len0 false g.defs
 have hi : ∀ (i : Nat) (f : List Bool),(lkF g)[i]? = some f → true ∈ f → (lkP g)[i]? = some true := by
  have sw : ∀ (m : Nat) (F : List (List Bool)),m ≤ g.defs.length → F.length = g.defs.length → FsOk g.kinds.length F → (∀ (i : Nat) (f : List Bool),F[i]? = some f → true ∈ f → (lkP g)[i]? = some true) →
    (swp (tellF (lkP g) (lkN g) g.kinds.length g.defs) m 0 F).length = g.defs.length ∧ FsOk g.kinds.length (swp (tellF (lkP g) (lkN g) g.kinds.length g.defs) m 0 F) ∧ ∀ (i : Nat) (f : List Bool),(swp (tellF (lkP g) (lkN g) g.kinds.length g.defs) m 0 F)[i]? = some f → true ∈ f → (lkP g)[i]? = some true := by
   intro m
   induction m with
   | zero => intro F _ h1 h2 h3; exact ⟨h1,h2,h3⟩
   | succ m ih =>
    intro F hm h1 h2 h3
    obtain ⟨h4,h5,h6⟩ := ih F (by omega) h1 h2 h3
    rw [swp_snoc,Nat.zero_add]
    generalize swp (tellF (lkP g) (lkN g) g.kinds.length g.defs) m 0 F = G at h4 h5 h6 ⊢
    obtain ⟨d,hdm⟩ := get_ex (l := g.defs) (show m < g.defs.length by omega)
    have ht : tellF (lkP g) (lkN g) g.kinds.length g.defs m G = d.2.fst (lkP g) (lkN g) g.kinds.length G := by unfold tellF; rw [hdm]
    rw [ht]
    refine ⟨by rw [List.length_set,h4],fun y hy => ?_,fun i f hf hmem => ?_⟩
    ·rcases List.mem_or_eq_of_mem_set hy with h | h
     ·exact h5 y h
     ·rw [h]; exact fst_len ..
    ·by_cases him : m = i
     ·subst him
      rw [List.getElem?_set_self (by omega)] at hf
      cases hf
      have := fst_prod h5 h4 hPl hNP h6 d.2 (hd d (List.mem_of_getElem? hdm)) hmem
      rw [liveR_fix false hdm,this]
     ·rw [List.getElem?_set_ne him] at hf
      exact h6 i f hf hmem
  have it : ∀ k,(iter (swp (tellF (lkP g) (lkN g) g.kinds.length g.defs) g.defs.length 0) k (List.replicate g.defs.length (zR g.kinds.length))).length = g.defs.length ∧ FsOk g.kinds.length (iter (swp (tellF (lkP g) (lkN g) g.kinds.length g.defs) g.defs.length 0) k (List.replicate g.defs.length (zR g.kinds.length))) ∧ ∀ (i : Nat) (f : List Bool),(iter (swp (tellF (lkP g) (lkN g) g.kinds.length g.defs) g.defs.length 0) k (List.replicate g.defs.length (zR g.kinds.length)))[i]? = some f → true ∈ f → (lkP g)[i]? = some true := by
   intro k
   induction k with
   | zero => exact ⟨by simp [iter],rep_ok _ _,fun i f hf hm => by rw [rep_get hf] at hm; exact absurd hm (zR_mem _)⟩
   | succ k ih => rw [iter_succ]; exact sw _ _ (Nat.le_refl _) ih.1 ih.2.1 ih.2.2
  exact (it _).2.2
 exact fst_prod (fstR_ok _ _ _ _) (fstR_len _ _ _ _) hPl hNP hi r hr h
theorem lk_prod_fst (r : Cf) (hr : r.may g.kinds.length g.defs.length = true) (h : r.live false (lkP g) = true) : r.live true (lkN g) = true ∨ true ∈ r.fst (lkP g) (lkN g) g.kinds.length (lkF g) := by
 have hFl := fstR_len (lkP g) (lkN g) g.kinds.length g.defs
 have hFo := fstR_ok (lkP g) (lkN g) g.kinds.length g.defs
 have hNl := liveR_len0 true g.defs
 have inv := fun k => iter_inv leB_refl leB_trans (tellB_mono false g.defs) (n := g.defs.length) (live_inv0 false g.defs) k
 have le : ∀ k,k ≤ g.defs.length + 1 → leR (iter (swp (tellB false g.defs) g.defs.length 0) k (zR g.defs.length)) (lkP g) := by
  intro k hk
  have step : ∀ d j,leR (iter (swp (tellB false g.defs) g.defs.length 0) j (zR g.defs.length)) (iter (swp (tellB false g.defs) g.defs.length 0) (d + j) (zR g.defs.length)) := by
   intro d
   induction d with
   | zero => intro j; rw [Nat.zero_add]; exact leR_refl _
   | succ d ih =>
    intro j
    refine leR_trans (ih j) ?_
    rw [Nat.succ_add,iter_succ]
    exact leL_leR (inv_swp leB_refl leB_trans (tellB_mono false g.defs) g.defs.length 0 (inv (d + j))).2
  have := step (g.defs.length + 1 - k) k
  rw [show g.defs.length + 1 - k + k = g.defs.length + 1 by omega] at this
  exact this
 have hi : ∀ k,k ≤ g.defs.length + 1 → ∀ i : Nat,(iter (swp (tellB false g.defs) g.defs.length 0) k (zR g.defs.length))[i]? = some true → (lkN g)[i]? = some true ∨ ∃ f : List Bool,(lkF g)[i]? = some f ∧ true ∈ f := by
  have sw : ∀ (m : Nat) (Q : List Bool),m ≤ g.defs.length → leR (swp (tellB false g.defs) g.defs.length 0 Q) (lkP g) → InvL leB (tellB false g.defs) Q → Q.length = g.defs.length → (∀ i : Nat,Q[i]? = some true → (lkN g)[i]? = some true ∨ ∃ f : List Bool,(lkF g)[i]? = some f ∧ true ∈ f) →
    ∀ i : Nat,(swp (tellB false g.defs) m 0 Q)[i]? = some true → (lkN g)[i]? = some true ∨ ∃ f : List Bool,(lkF g)[i]? = some f ∧ true ∈ f := by
   intro m
   induction m with
   | zero => intro Q _ _ _ _ h3; exact h3
   | succ m ih =>
    intro Q hm hle hinv hlen h3 i hq
    have h6 := ih Q (by omega) hle hinv hlen h3
    have h1 := (inv_swp leB_refl leB_trans (tellB_mono false g.defs) m 0 hinv).1
    have hm1 : leR (swp (tellB false g.defs) m 0 Q) (lkP g) := by
     refine leR_trans ?_ hle
     have : ∀ d,leR (swp (tellB false g.defs) m 0 Q) (swp (tellB false g.defs) (m + d) 0 Q) := by
      intro d
      induction d with
      | zero => exact leR_refl _
      | succ d ihd =>
       refine leR_trans ihd ?_
       rw [show m + (d + 1) = m + d + 1 by omega,swp_snoc,Nat.zero_add]
       exact leL_leR (inv_step leB_refl leB_trans (tellB_mono false g.defs) (inv_swp leB_refl leB_trans (tellB_mono false g.defs) (m + d) 0 hinv).1 (m + d)).2
     have := this (g.defs.length - m)
     rw [show m + (g.defs.length - m) = g.defs.length by omega] at this
     exact this
    rw [swp_snoc,Nat.zero_add] at hq
    have hsl : (swp (tellB false g.defs) m 0 Q).length = g.defs.length := by rw [swp_len,hlen]
    generalize swp (tellB false g.defs) m 0 Q = G at h6 hq hm1 hsl
    obtain ⟨d,hdm⟩ := get_ex (l := g.defs) (show m < g.defs.length by omega)
    have ht : tellB false g.defs m G = d.2.live false G := by unfold tellB; rw [hdm]
    rw [ht] at hq
    by_cases him : m = i
    ·subst him
     rw [List.getElem?_set_self (by omega)] at hq
     rcases prod_fst hFo hFl hNl hm1 h6 d.2 (hd d (List.mem_of_getElem? hdm)) (Option.some.inj hq) with h | h
     ·exact .inl (by rw [liveR_fix true hdm,h])
     ·exact .inr ⟨_,fstR_fix hdm,h⟩
    ·rw [List.getElem?_set_ne him] at hq
     exact h6 i hq
  intro k
  induction k with
  | zero => intro _ i hq; have := rep_get hq; cases this
  | succ k ih =>
   intro hk
   rw [iter_succ]
   have hle := le (k + 1) hk
   rw [iter_succ] at hle
   have hlen : (iter (swp (tellB false g.defs) g.defs.length 0) k (zR g.defs.length)).length = g.defs.length := by
    have : ∀ k,(iter (swp (tellB false g.defs) g.defs.length 0) k (zR g.defs.length)).length = g.defs.length := by
     intro k
     induction k with
     | zero => simp [iter]
     | succ k ih => rw [iter_succ,swp_len,ih]
    exact this k
   exact sw _ _ (Nat.le_refl _) hle (inv k) hlen (ih (by omega))
 exact prod_fst hFo hFl hNl (leR_refl _) (hi (g.defs.length + 1) (Nat.le_refl _)) r hr h
end
end Go.Proofs.YtbmedfjmccnclaaGreat.W
set_option maxRecDepth 100000
namespace Go.Proofs.YtbmedfjmccnclaaGreat.W
open Go Go.Proofs Go.Proofs.YtbmedfjmccnclaaGreat.AWP
open Int renaming reduceEq → iEq,reduceLE → iLE,reduceLT → iLT,reduceToNat → iTN
open List renaming length_map → lMp
attribute [local irreducible] xl hide aop aops aopQ qops guardP condP
theorem in_get {l : List Nat} {i x : Nat} (h : l[i]? = some x) : (inR l)[i]? = some [.i x] := by rw [List.getElem?_map,h]; rfl
set_option maxHeartbeats 4000000 in
theorem rInts (a b : List Nat) (ha : a.length ≤ 1000000) (hb : b.length ≤ 1000000) : AP Tryz.prog 17 [Ins a,Ins b] (.b (decide (a = b))) := by
 have hq : ∀ om (F : Nat → Bool) (kk : List (Option Nat)),Cv om F kk (Ins a) (Ins a) := fun om F kk => .same (Ins_bl a)
 have hq2 : ∀ om (F : Nat → Bool) (kk : List (Option Nat)),Cv om F kk (Ins b) (Ins b) := fun om F kk => .same (Ins_bl b)
 refine AC.lbody hT hm Tryz.func17 f17_nm f17_lc f17_res f17_nt ?_
 by_cases hl : a.length = b.length
 case neg =>
  have hz : ((a.length : Int) != (b.length : Int)) = true := by simp; omega
  simp only [go_sem,iEq,iLE,iLT,iTN,lMp,hz]
  exact Fin.v (by rw [decide_eq_false]; exact fun h => hl (by rw [h]))
 have hz : ((a.length : Int) != (b.length : Int)) = false := by simp; omega
 simp only [go_sem,iEq,iLE,iLT,iTN,lMp,hz]
 refine xl_loopM hT hm (fun i : Nat => ⟨f17_i9 (Ins a) (Ins b) (.i a.length) (.i i),[]⟩)
  (fun i => i ≤ a.length ∧ a.take i = b.take i) (fun i => a.length - i) 0 ⟨Nat.zero_le _,by simp⟩ (Mv.none (by simp [f17_i9,hq,hq2])) ?_
 rintro i ⟨hi,ht⟩
 simp only [go_sem,iEq,iLE,iLT,iTN,lMp]
 by_cases hiq : i < a.length
 case neg =>
  simp only [go_sem,iEq,iLE,iLT,iTN,hiq]
  rw [List.take_of_length_le (by omega),List.take_of_length_le (by omega)] at ht
  exact Fin.v (by rw [decide_eq_true ht])
 obtain ⟨x,hx⟩ := get_ex hiq
 obtain ⟨y,hy⟩ := get_ex (l := b) (show i < b.length by omega)
 have hib : i < b.length := by omega
 have hgx := in_get hx
 have hgy := in_get hy
 have hw := wrap_succ i (by omega)
 by_cases hxy : x = y
 ·have hn : ((x : Int) != (y : Int)) = false := by simp; omega
  simp only [go_sem,iEq,iLE,iLT,iTN,lMp,hiq,hib,hgx,hgy,hn,hw,Nat.div_one,Nat.mod_one]
  exact ⟨i + 1,⟨by omega,by rw [List.take_add_one,List.take_add_one,ht,hx,hy,hxy]⟩,by omega,Mv.none (by simp [hq,hq2])⟩
 ·have hn : ((x : Int) != (y : Int)) = true := by simp; omega
  simp only [go_sem,iEq,iLE,iLT,iTN,lMp,hiq,hib,hgx,hgy,hn,hw,Nat.div_one,Nat.mod_one]
  refine Fin.v ?_
  rw [decide_eq_false]
  intro h
  rw [h,hy] at hx
  exact hxy (Option.some.inj hx).symm
def idxN (t : Int) : List Nat → Nat → Int
 | [],_ => -1
 | x :: l,i => if (x : Int) = t then (i : Int) else idxN t l (i + 1)
theorem idxN_drop {t : Int} {l : List Nat} {i x : Nat} (h : l[i]? = some x) : idxN t (l.drop i) i = if (x : Int) = t then (i : Int) else idxN t (l.drop (i + 1)) (i + 1) := by
 obtain ⟨hi,rfl⟩ := List.getElem?_eq_some_iff.1 h
 rw [List.drop_eq_getElem_cons hi,idxN]
set_option maxHeartbeats 4000000 in
theorem rIdx (l : List Nat) (t : Int) (hl : l.length ≤ 1000000) : AP Tryz.prog 82 [Ins l,.i t] (.i (idxN t l 0)) := by
 have hq : ∀ om (F : Nat → Bool) (kk : List (Option Nat)),Cv om F kk (Ins l) (Ins l) := fun om F kk => .same (Ins_bl l)
 refine AC.lbody hT hm Tryz.func82 f82_nm f82_lc f82_res f82_nt ?_
 simp only [go_sem,iEq,iLE,iLT,iTN,lMp]
 refine xl_loopM hT hm (fun i : Nat => ⟨f82_i7 (Ins l) (.i t) (.i l.length) (.i i),[]⟩)
  (fun i => i ≤ l.length ∧ idxN t l 0 = idxN t (l.drop i) i) (fun i => l.length - i) 0 ⟨Nat.zero_le _,by simp⟩ (Mv.none (by simp [f82_i7,hq])) ?_
 rintro i ⟨hi,ht⟩
 simp only [go_sem,iEq,iLE,iLT,iTN,lMp]
 by_cases hiq : i < l.length
 case neg =>
  simp only [go_sem,iEq,iLE,iLT,iTN,hiq]
  rw [List.drop_eq_nil_of_le (by omega)] at ht
  exact Fin.v (by rw [ht]; rfl)
 obtain ⟨x,hx⟩ := get_ex hiq
 have hgx := in_get hx
 have hw := wrap_succ i (by omega)
 have hd := idxN_drop (t := t) hx
 by_cases hxy : (x : Int) = t
 ·have hn : (t == (x : Int)) = true := by simp; omega
  simp only [go_sem,iEq,iLE,iLT,iTN,lMp,hiq,hgx,hn,hw,Nat.div_one,Nat.mod_one]
  exact Fin.v (by rw [ht,hd,if_pos hxy])
 ·have hn : (t == (x : Int)) = false := by simp; omega
  simp only [go_sem,iEq,iLE,iLT,iTN,lMp,hiq,hgx,hn,hw,Nat.div_one,Nat.mod_one]
  exact ⟨i + 1,⟨by omega,by rw [ht,hd,if_neg hxy]⟩,by omega,Mv.none (by simp [hq])⟩
def hasI (t : Int) (l : List Nat) : Bool := decide (0 ≤ idxN t l 0)
theorem rHas (l : List Nat) (t : Int) (hl : l.length ≤ 1000000) : AP Tryz.prog 53 [Ins l,.i t] (.b (hasI t l)) := by
 refine AC.lbody hT hm Tryz.func53 f53_nm f53_lc f53_res f53_nt ?_
 simp only [go_sem,iEq,iLE,iLT,iTN]
 refine (rIdx l t hl).pv ⟨.same (Ins_bl l),.v,trivial⟩ ?_
 simp only [go_sem,iEq,iLE,iLT,iTN]
 exact Fin.v rfl
theorem firstL_len (g : Gr) (c : Cf) (hn : g.kinds.length ≤ 1000000) : (firstL g c).length ≤ 1000000 := by
 unfold firstL
 split
 ·have := lstI_len 0 (c.fst (lkP g) (lkN g) g.kinds.length (lkF g))
  rw [fst_len] at this
  omega
 ·simp
theorem shunL_len (g : Gr) (c : Cf) (hn : g.kinds.length ≤ 1000000) : (shunL g c).length ≤ 1000000 := by
 unfold shunL
 split
 ·have := lstI_len 0 (c.shn (lkP g) (lkN g) g.kinds.length (lkF g) (lkSh g))
  rw [shn_len] at this
  omega
 ·simp
theorem beginsN (c : Cf) (t : Int) : AP Tryz.prog 21 [.v (.pointer none),.agg c.c,.i t] (.b false) := by
 refine AC.lbody hT hm Tryz.func21 f21_nm f21_lc f21_res f21_nt ?_
 simp only [go_sem,iEq,iLE,iLT,iTN,Cf.c_take]
 refine (firstN c).pd ⟨.v,.same (Cf.d_bl c),trivial⟩ (Ins_bl _) ?_
 simp only [go_sem,iEq,iLE,iLT,iTN]
 refine (rHas [] t (by simp)).pv ⟨.same (Ins_bl _),.v,trivial⟩ ?_
 simp only [go_sem,iEq,iLE,iLT,iTN]
 exact Fin.v rfl
def s22 : ByteArray := ⟨#[115,32,61,32,97,32,115,32,98,32,124,32,40,41,10]⟩
def k22 : List ByteArray := [⟨#[97]⟩,⟨#[98]⟩]
abbrev rf (n : Nat) : Cf := .mk 6 n []
abbrev rfZ (n : Nat) : List D := [.v (.int .u8 6),.v (.int .i64 n),nilS]
theorem cvRf {om : List Ob} {F : Nat → Bool} {kk : List (Option Nat)} (n : Nat) : CvL om F kk (rfZ n) (rf n).c := by
 rw [Cf.c_mk,Cf.cs_eq]
 exact ⟨.v,.v,.nil,trivial⟩
theorem cvRfs {om : List Ob} {F : Nat → Bool} {kk : List (Option Nat)} (n : Nat) : Cv om F kk (.sl 3 [rfZ n]) (Cfs [rf n]) := by
 have e1 : Cfs [rf n] = .sl 3 [(rf n).c] := by show D.sl 3 (Cf.cs [rf n]) = _; rw [Cf.cs_eq]; rfl
 rw [e1]
 refine .sl rfl (fun i r r' h1 h2 => ?_) (fun i r r' j d d' h1 h2 h3 h4 => ?_)
 ·match i with
  | 0 => cases h1; cases h2; rw [Cf.c_mk]; rfl
  | i + 1 => cases h1
 ·match i with
  | 0 => cases h1; cases h2; exact (cvRf n).get j d d' h3 h4
  | i + 1 => cases h1
theorem ofT (g : Gr) (hm : mayG g = true) : AC Tryz.prog 15 [.agg g.c] [] (fun o om => o = .ret (.tup [.ref 0 0,.v (.int .i64 0)]) ∧ om = [lkA g]) := by
 refine (ofC g (GFit_may hm)).mono ?_
 rintro o om (⟨h,_⟩ | ⟨_,rfl,rfl⟩)
 ·rw [hm] at h; cases h
 ·exact ⟨rfl,rfl⟩
set_option maxHeartbeats 4000000 in
theorem awake22 : AP Tryz.prog 14 [] (.b true) := by
 have e1 : (readC s22 k22).2 = (0,0) := by decide +kernel
 have e3 : mayG (readC s22 k22).1 = true := by decide +kernel
 have e4 : nullL (readC s22 k22).1 [rf 0] = true := by decide +kernel
 have e5 : firstL (readC s22 k22).1 (rf 0) = [0] := by decide +kernel
 have e6 : shunL (readC s22 k22).1 (rf 0) = [0] := by decide +kernel
 have hR := cReadA s22 k22 (by decide) (by decide)
 generalize readC s22 k22 = p at *
 obtain ⟨g,a,b⟩ := p
 cases e1
 dsimp only at e3 e4 e5 e6
 have hz : (rf 0).sz ≤ 1099511627776 := by rw [Cf.sz_mk,Cf.szs_nil]; omega
 have hF := GFit_may e3
 have hk : Strs k22 = .sl 1 [[.s ⟨#[97]⟩],[.s ⟨#[98]⟩]] := rfl
 have c1 : (((0 : Nat) : Int) == 0) = true := rfl
 refine AC.lbody hT hm Tryz.func14 f14_nm f14_lc f14_res f14_nt ?_
 simp only [go_sem,iEq,iLE,iLT,iTN]
 refine hR.pd ⟨.v,.same (Strs_bl k22),trivial⟩ (readCD_bl _) ?_
 simp only [go_sem,iEq,iLE,iLT,iTN,gr_take,gr_c_len]
 refine ⟨_,(ofT g e3).frameT (om := [.var 25 g.c]) ⟨.same (Gr.d_bl g),trivial⟩ (lkC_bl g),?_⟩
 rintro _ _ ⟨rfl,rfl⟩
 simp only [go_sem,iEq,iLE,iLT,iTN,c1]
 refine ⟨_,(nullC g e3 [rf 0] (by simp) (fun c hc => by rw [List.mem_singleton.1 hc]; exact hz) [.var 25 g.c] [.var 28 (rfZ 0)]).args ⟨.ref rfl,cvRfs 0,trivial⟩,?_⟩
 rintro _ _ ⟨rfl,rfl⟩
 simp only [go_sem,iEq,iLE,iLT,iTN,e4]
 refine ⟨_,(firstC g e3 (rf 0) hz [.var 25 g.c] [.var 28 (rfZ 0)]).args ⟨.ref rfl,.aggL (cvRf 0),trivial⟩,?_⟩
 rintro _ _ ⟨rfl,rfl⟩
 simp only [go_sem,iEq,iLE,iLT,iTN,e5]
 refine (rInts [0] [0] (by simp) (by simp)).pv ⟨.same (Ins_bl [0]),.same (Ins_bl [0]),trivial⟩ ?_
 simp only [go_sem,iEq,iLE,iLT,iTN,decide_true]
 refine ⟨_,(shunC g e3 (rf 0) hz [.var 25 g.c] [.var 28 (rfZ 0)]).args ⟨.ref rfl,.aggL (cvRf 0),trivial⟩,?_⟩
 rintro _ _ ⟨rfl,rfl⟩
 simp only [go_sem,iEq,iLE,iLT,iTN,e6]
 refine (rInts [0] [0] (by simp) (by simp)).pv ⟨.same (Ins_bl [0]),.same (Ins_bl [0]),trivial⟩ ?_
 simp only [go_sem,iEq,iLE,iLT,iTN,decide_true]
 exact Fin.v rfl
end Go.Proofs.YtbmedfjmccnclaaGreat.W
set_option maxRecDepth 100000
namespace Go.Proofs.YtbmedfjmccnclaaGreat.W
open Go Go.Proofs Go.Proofs.YtbmedfjmccnclaaGreat.AWP
open Int renaming reduceEq → iEq,reduceLE → iLE,reduceLT → iLT,reduceToNat → iTN
open List renaming length_map → lMp
attribute [local irreducible] xl hide aop aops aopQ qops guardP condP
theorem cfs1 (c : Cf) : Cfs [c] = .sl 3 [c.c] := by show D.sl 3 (Cf.cs [c]) = _; rw [Cf.cs_eq]; rfl
theorem cfs0 : Cfs [] = .sl 3 [] := by show D.sl 3 (Cf.cs []) = _; rw [Cf.cs_eq]; rfl
set_option maxHeartbeats 8000000 in
theorem lookNilL (c : Cf) (t : Int) : AP Tryz.prog 6 [.agg c.c,.i t] (.b true) := by
 have hP := prodN [c]
 have hN := nullN [c]
 have hP0 := prodN []
 rw [cfs1] at hP hN
 rw [cfs0] at hP0
 have hF := firstN c
 have hS := shunN c
 have hB := beginsN c t
 have c0 : (IntKind.i64.wrap ((0 : Nat) + (0 : Nat)) == 0) = true := rfl
 refine AC.lbody hT hm Tryz.func6 f6_nm f6_lc f6_res f6_nt ?_
 simp only [go_sem,iEq,iLE,iLT,iTN,Cf.c_take]
 refine (rWide c).pv ⟨.same (Cf.d_bl c),trivial⟩ ?_
 cases wide21B c with
 | true =>
  simp only [go_sem,iEq,iLE,iLT,iTN]
  refine awake22.pv trivial ?_
  simp only [go_sem,iEq,iLE,iLT,iTN]
  exact Fin.v rfl
 | false =>
 simp only [go_sem,iEq,iLE,iLT,iTN,Cf.c_take]
 refine hP.qv ⟨.v,.same (one_blC _),trivial⟩ ?_
 simp only [go_sem,iEq,iLE,iLT,iTN,Cf.c_take,Bool.not_false]
 refine hN.qv ⟨.v,.same (one_blC _),trivial⟩ ?_
 simp only [go_sem,iEq,iLE,iLT,iTN,Cf.c_take,Bool.not_false]
 refine hP0.qv ⟨.v,.nil,trivial⟩ ?_
 simp only [go_sem,iEq,iLE,iLT,iTN,Cf.c_take,Bool.not_false]
 refine hF.qd ⟨.v,.same (Cf.d_bl c),trivial⟩ (Ins_bl []) ?_
 simp only [go_sem,iEq,iLE,iLT,iTN,Cf.c_take,Bool.not_false]
 refine hS.qd ⟨.v,.same (Cf.d_bl c),trivial⟩ (Ins_bl []) ?_
 simp only [go_sem,iEq,iLE,iLT,iTN,Cf.c_take,Bool.not_false,c0]
 refine hB.qv ⟨.v,.same (Cf.d_bl c),.v,trivial⟩ ?_
 simp only [go_sem,iEq,iLE,iLT,iTN,Bool.not_false]
 refine grN.qd ⟨.v,trivial⟩ (Gr.d_bl gr0) ?_
 simp only [go_sem,iEq,iLE,iLT,iTN]
 refine (rSameAll gr0 (by simp) (by simp)).qv ⟨.same (Gr.d_bl gr0),.aggL ⟨.nil,.nil,trivial⟩,trivial⟩ ?_
 simp only [go_sem,iEq,iLE,iLT,iTN]
 refine awake22.qv trivial ?_
 simp only [go_sem,iEq,iLE,iLT,iTN]
 exact Fin.v rfl
end Go.Proofs.YtbmedfjmccnclaaGreat.W
set_option maxRecDepth 100000
namespace Go.Proofs.YtbmedfjmccnclaaGreat.W
open Go Go.Proofs Go.Proofs.YtbmedfjmccnclaaGreat.AWP
open Int renaming reduceEq → iEq,reduceLE → iLE,reduceLT → iLT,reduceToNat → iTN
open List renaming length_map → lMp
attribute [local irreducible] xl hide aop aops aopQ qops guardP condP
theorem knB_ref {g : Gr} {i : Nat} (hi : i < g.defs.length) : knB g [rf i] = true := by
 unfold knB
 have h1 : (rf i).may g.kinds.length g.defs.length = true := by
  rw [Cf.may_mk,nodeOk_mk]
  simp [hi,Cf.mays_all]
 have h2 : (rf i).sz ≤ 2000 := by rw [Cf.sz_mk,Cf.szs_nil]; omega
 simp [h1,h2]
theorem knB_def {g : Gr} (hg : mayG g = true) {d : Df} (hd : d ∈ g.defs) : knB g [d.2] = true := by
 obtain ⟨m1,m2,m3,m4,m5,m6,m7,m8⟩ := mayG_facts hg
 have h1 := (m2 d hd).2
 have h2 := grSz_mem hd
 unfold knB
 have h3 : d.2.sz ≤ 2000 := by omega
 simp [h1,h3]
section
variable {g : Gr} (hg : mayG g = true) {i : Nat} {d : Df} (hdi : g.defs[i]? = some d)
include hg hdi
theorem def_prod : prodL g [rf i] = d.2.live false (lkP g) ∧ prodL g [d.2] = d.2.live false (lkP g) := by
 have hi := (List.getElem?_eq_some_iff.1 hdi).1
 unfold prodL
 rw [knB_ref hi,knB_def hg (List.mem_of_getElem? hdi)]
 simp only [List.all_cons,List.all_nil,Bool.and_true,Bool.true_and,and_true]
 rw [live_6,getD_of (liveR_fix false hdi)]
theorem def_null : nullL g [rf i] = d.2.live true (lkN g) ∧ nullL g [d.2] = d.2.live true (lkN g) := by
 have hi := (List.getElem?_eq_some_iff.1 hdi).1
 unfold nullL
 rw [knB_ref hi,knB_def hg (List.mem_of_getElem? hdi)]
 simp only [List.all_cons,List.all_nil,Bool.and_true,Bool.true_and,and_true]
 rw [live_6,getD_of (liveR_fix true hdi)]
theorem orR_zero {n : Nat} {l : List Bool} (h : l.length = n) : orR (zR n) l = l := by
 subst h
 induction l with
 | nil => rfl
 | cons b l ih => rw [List.length_cons,zR,List.replicate_succ,orR,ih]; rfl
theorem def_first : firstL g (rf i) = lstI 0 (d.2.fst (lkP g) (lkN g) g.kinds.length (lkF g)) ∧ firstL g d.2 = lstI 0 (d.2.fst (lkP g) (lkN g) g.kinds.length (lkF g)) := by
 have hi := (List.getElem?_eq_some_iff.1 hdi).1
 have hf := fstR_fix (P := lkP g) (N := lkN g) (n := g.kinds.length) hdi
 unfold firstL
 rw [knB_ref hi,knB_def hg (List.mem_of_getElem? hdi),if_pos rfl,if_pos rfl]
 refine ⟨?_,rfl⟩
 rw [fst_6,List.getD_eq_getElem?_getD,hf,Option.getD_some,orR_zero hg hdi (fst_len ..)]
theorem def_shun : shunL g (rf i) = lstI 0 (d.2.shn (lkP g) (lkN g) g.kinds.length (lkF g) (lkSh g)) ∧ shunL g d.2 = lstI 0 (d.2.shn (lkP g) (lkN g) g.kinds.length (lkF g) (lkSh g)) := by
 have hi := (List.getElem?_eq_some_iff.1 hdi).1
 have hf := shnR_fix (P := lkP g) (N := lkN g) (n := g.kinds.length) (F := lkF g) hdi
 unfold shunL
 rw [knB_ref hi,knB_def hg (List.mem_of_getElem? hdi),if_pos rfl,if_pos rfl]
 refine ⟨?_,rfl⟩
 rw [shn_6,List.getD_eq_getElem?_getD,hf,Option.getD_some,orR_zero hg hdi (shn_len ..)]
end
theorem def_so {g : Gr} (hg : mayG g = true) {d : Df} (hd : d ∈ g.defs) : (d.2.live false (lkP g) = false → d.2.live true (lkN g) = false ∧ lstI 0 (d.2.fst (lkP g) (lkN g) g.kinds.length (lkF g)) = []) ∧
  (d.2.live false (lkP g) = true → d.2.live true (lkN g) = false → lstI 0 (d.2.fst (lkP g) (lkN g) g.kinds.length (lkF g)) ≠ []) := by
 obtain ⟨m1,m2,m3,m4,m5,m6,m7,m8⟩ := mayG_facts hg
 have hd2 : ∀ d ∈ g.defs,d.2.may g.kinds.length g.defs.length = true := fun d hd => (m2 d hd).2
 have hm := hd2 d hd
 refine ⟨fun h => ⟨?_,?_⟩,fun h1 h2 => ?_⟩
 ·cases hn : d.2.live true (lkN g) with
  | false => rfl
  | true => rw [live_le (null_prod g.defs) d.2 hn] at h; cases h
 ·refine Classical.byContradiction fun hne => ?_
  have := lk_fst_prod hd2 d.2 hm ((lstI_ne 0 _).1 hne)
  rw [h] at this; cases this
 ·rcases lk_prod_fst hd2 d.2 hm h1 with h | h
  ·rw [h2] at h; cases h
  ·exact (lstI_ne 0 _).2 h
set_option maxHeartbeats 8000000 in
theorem lookDefsL (g : Gr) (hz : ∀ x ∈ g.defs,x.2.sz ≤ 1099511627776) : AP Tryz.prog 4 [.agg g.c] (.b true) := by
 have aw : ∀ {om : List Ob} {K : Out → List Ob → Prop},K (.ret (.b true)) om → ACall Tryz.prog 14 [] om K := fun hk => awake22.pv trivial hk
 have hm0 := hm
 refine AC.lbody hT hm Tryz.func4 f4_nm f4_lc f4_res f4_nt ?_
 simp only [go_sem,iEq,iLE,iLT,iTN,gr_take,gr_c_len,lMp]
 refine (rGreat g).pv ⟨.same (Gr.d_bl g),trivial⟩ ?_
 cases hgr : greatB g with
 | true =>
  simp only [go_sem,iEq,iLE,iLT,iTN]
  refine aw ?_
  simp only [go_sem,iEq,iLE,iLT,iTN]
  exact Fin.v rfl
 | false =>
 obtain ⟨hF,k1,k2,k3,k4,k5⟩ := great_fit hgr hz
 simp only [go_sem,iEq,iLE,iLT,iTN,gr_take,gr_c_len,lMp]
 refine (rMayG g hF.nodes hF.kinds hF.defs).pv ⟨.same (Gr.d_bl g),trivial⟩ ?_
 cases hm : mayG g with
 | false =>
  simp only [go_sem,iEq,iLE,iLT,iTN,Bool.not_false]
  refine aw ?_
  simp only [go_sem,iEq,iLE,iLT,iTN]
  exact Fin.v rfl
 | true =>
 simp only [go_sem,iEq,iLE,iLT,iTN,Bool.not_true,gr_take,gr_c_len,lMp]
 refine ⟨_,ofT g hm,?_⟩
 rintro _ _ ⟨rfl,rfl⟩
 have c1 : ((0 : Int) != 0) = false := rfl
 simp only [go_sem,iEq,iLE,iLT,iTN,c1]
 have hq : ∀ om (F : Nat → Bool) (kk : List (Option Nat)),Cv om F kk (.pel g.c) (.pel g.c) := fun om F kk => .same (Gr.pel_bl g)
 refine xl_loopM hT hm0 (fun i : Nat => ⟨f4_i14 (.pel g.c) (.ref 0 0) (.i i),[lkA g]⟩)
  (fun i => i ≤ g.defs.length) (fun i => g.defs.length - i) 0 (Nat.zero_le _) (Mv.keep (by simp [f4_i14,hq])) ?_
 intro i hi
 simp only [go_sem,iEq,iLE,iLT,iTN,gr_take,gr_c_len,lMp]
 by_cases hiq : i < g.defs.length
 case neg =>
  simp only [go_sem,iEq,iLE,iLT,iTN,hiq]
  refine aw ?_
  simp only [go_sem,iEq,iLE,iLT,iTN]
  exact Fin.v rfl
 obtain ⟨d,hdi⟩ := get_ex hiq
 have hgd := df_get hdi
 have hdz : d.2.sz ≤ 1099511627776 := hz d (List.mem_of_getElem? hdi)
 have hrz : (rf i).sz ≤ 1099511627776 := by rw [Cf.sz_mk,Cf.szs_nil]; omega
 obtain ⟨p1,p2⟩ := def_prod hm hdi
 obtain ⟨n1,n2⟩ := def_null hm hdi
 obtain ⟨f1,f2⟩ := def_first hm hdi
 obtain ⟨s1,s2⟩ := def_shun hm hdi
 have hw := wrap_succ i (by omega)
 have hso := def_so hm (List.mem_of_getElem? hdi)
 have hfl := firstL_len g d.2 (by omega)
 have hsl := shunL_len g d.2 (by omega)
 have P1 := (prodC g hm [rf i] (by simp) (fun c hc => by rw [List.mem_singleton.1 hc]; exact hrz) [] [.var 28 (rfZ i),.var 28 d.2.c]).args (xs := [.ref 0 0,.sl 3 [rfZ i]]) ⟨.ref rfl,cvRfs i,trivial⟩
 have P2 := (prodC g hm [d.2] (by simp) (fun c hc => by rw [List.mem_singleton.1 hc]; exact hdz) [] [.var 28 (rfZ i),.var 28 d.2.c])
 have N1 := (nullC g hm [rf i] (by simp) (fun c hc => by rw [List.mem_singleton.1 hc]; exact hrz) [] [.var 28 (rfZ i),.var 28 d.2.c]).args (xs := [.ref 0 0,.sl 3 [rfZ i]]) ⟨.ref rfl,cvRfs i,trivial⟩
 have N2 := (nullC g hm [d.2] (by simp) (fun c hc => by rw [List.mem_singleton.1 hc]; exact hdz) [] [.var 28 (rfZ i),.var 28 d.2.c])
 have F1 := (firstC g hm (rf i) hrz [] [.var 28 (rfZ i),.var 28 d.2.c]).args (xs := [.ref 0 0,.agg (rfZ i)]) ⟨.ref rfl,.aggL (cvRf i),trivial⟩
 have F2 := firstC g hm d.2 hdz [] [.var 28 (rfZ i),.var 28 d.2.c]
 have S1 := (shunC g hm (rf i) hrz [] [.var 28 (rfZ i),.var 28 d.2.c]).args (xs := [.ref 0 0,.agg (rfZ i)]) ⟨.ref rfl,.aggL (cvRf i),trivial⟩
 have S2 := shunC g hm d.2 hdz [] [.var 28 (rfZ i),.var 28 d.2.c]
 rw [p1] at P1
 rw [p2,cfs1] at P2
 rw [n1] at N1
 rw [n2,cfs1] at N2
 rw [f2] at hfl F2
 rw [f1] at F1
 rw [s2] at hsl S2
 rw [s1] at S1
 generalize lstI 0 (d.2.fst (lkP g) (lkN g) g.kinds.length (lkF g)) = fl at *
 generalize lstI 0 (d.2.shn (lkP g) (lkN g) g.kinds.length (lkF g) (lkSh g)) = sl at *
 generalize d.2.live false (lkP g) = pv at *
 generalize d.2.live true (lkN g) = nv at *
 have I1 := rInts fl fl hfl hfl
 have I2 := rInts sl sl hsl hsl
 simp only [decide_true] at I1 I2
 simp only [go_sem,iEq,iLE,iLT,iTN,hiq,hgd,gr_take,gr_c_len,lMp,ne_eq,reduceCtorEq,not_false_eq_true,implies_true]
 refine ⟨⟨_,_,rfl,rfl,rfl⟩,?_⟩
 cases pv with
 | false =>
  obtain ⟨rfl,rfl⟩ := hso.1 rfl
  have z0 : (0 < ((0 : Nat) : Int)) = False := by simp
  refine ⟨_,P1,?_⟩
  simp only [go_sem,iEq,iLE,iLT,iTN,bq00,bq01,bq10,bq11,Bool.not_true,Bool.not_false,hw,lMp,gt_iff_lt,List.length_nil,z0]
  refine ⟨_,P2,?_⟩
  simp only [go_sem,iEq,iLE,iLT,iTN,bq00,bq01,bq10,bq11,Bool.not_true,Bool.not_false,hw,lMp,gt_iff_lt,List.length_nil,z0]
  refine ⟨_,N1,?_⟩
  simp only [go_sem,iEq,iLE,iLT,iTN,bq00,bq01,bq10,bq11,Bool.not_true,Bool.not_false,hw,lMp,gt_iff_lt,List.length_nil,z0]
  refine ⟨_,N2,?_⟩
  simp only [go_sem,iEq,iLE,iLT,iTN,bq00,bq01,bq10,bq11,Bool.not_true,Bool.not_false,hw,lMp,gt_iff_lt,List.length_nil,z0]
  refine ⟨_,F1,?_⟩
  simp only [go_sem,iEq,iLE,iLT,iTN,bq00,bq01,bq10,bq11,Bool.not_true,Bool.not_false,hw,lMp,gt_iff_lt,List.length_nil,z0]
  refine ⟨_,F2,?_⟩
  simp only [go_sem,iEq,iLE,iLT,iTN,bq00,bq01,bq10,bq11,Bool.not_true,Bool.not_false,hw,lMp,gt_iff_lt,List.length_nil,z0]
  refine I1.qv ⟨.same (Ins_bl _),.same (Ins_bl _),trivial⟩ ?_
  simp only [go_sem,iEq,iLE,iLT,iTN,bq00,bq01,bq10,bq11,Bool.not_true,Bool.not_false,hw,lMp,gt_iff_lt,List.length_nil,z0]
  refine ⟨_,S1,?_⟩
  simp only [go_sem,iEq,iLE,iLT,iTN,bq00,bq01,bq10,bq11,Bool.not_true,Bool.not_false,hw,lMp,gt_iff_lt,List.length_nil,z0]
  refine ⟨_,S2,?_⟩
  simp only [go_sem,iEq,iLE,iLT,iTN,bq00,bq01,bq10,bq11,Bool.not_true,Bool.not_false,hw,lMp,gt_iff_lt,List.length_nil,z0]
  refine I2.qv ⟨.same (Ins_bl _),.same (Ins_bl _),trivial⟩ ?_
  simp only [go_sem,iEq,iLE,iLT,iTN,bq00,bq01,bq10,bq11,Bool.not_true,Bool.not_false,hw,lMp,gt_iff_lt,List.length_nil,z0]
  refine ⟨_,P1,?_⟩
  rintro _ _ ⟨rfl,rfl⟩
  simp only [go_sem,iEq,iLE,iLT,iTN,bq00,bq01,bq10,bq11,Bool.not_true,Bool.not_false,hw,lMp,gt_iff_lt,List.length_nil,z0]
  refine ⟨_,N1,?_⟩
  rintro _ _ ⟨rfl,rfl⟩
  simp only [go_sem,iEq,iLE,iLT,iTN,bq00,bq01,bq10,bq11,Bool.not_true,Bool.not_false,hw,lMp,gt_iff_lt,List.length_nil,z0]
  refine ⟨_,F1,?_⟩
  rintro _ _ ⟨rfl,rfl⟩
  simp only [go_sem,iEq,iLE,iLT,iTN,bq00,bq01,bq10,bq11,Bool.not_true,Bool.not_false,hw,lMp,gt_iff_lt,List.length_nil,z0]
  refine ⟨_,P1,?_⟩
  rintro _ _ ⟨rfl,rfl⟩
  simp only [go_sem,iEq,iLE,iLT,iTN,bq00,bq01,bq10,bq11,Bool.not_true,Bool.not_false,hw,lMp,gt_iff_lt,List.length_nil,z0]
  refine ⟨i + 1,by omega,by omega,?_⟩
  exact Mv.of [some 0] rfl ⟨.alt rfl,trivial⟩ (by simp [hq])
 | true =>
 cases nv with
 | true =>
  refine ⟨_,P1,?_⟩
  simp only [go_sem,iEq,iLE,iLT,iTN,bq00,bq01,bq10,bq11,Bool.not_true,Bool.not_false,hw,lMp,gt_iff_lt]
  refine ⟨_,P2,?_⟩
  simp only [go_sem,iEq,iLE,iLT,iTN,bq00,bq01,bq10,bq11,Bool.not_true,Bool.not_false,hw,lMp,gt_iff_lt]
  refine ⟨_,N1,?_⟩
  simp only [go_sem,iEq,iLE,iLT,iTN,bq00,bq01,bq10,bq11,Bool.not_true,Bool.not_false,hw,lMp,gt_iff_lt]
  refine ⟨_,N2,?_⟩
  simp only [go_sem,iEq,iLE,iLT,iTN,bq00,bq01,bq10,bq11,Bool.not_true,Bool.not_false,hw,lMp,gt_iff_lt]
  refine ⟨_,F1,?_⟩
  simp only [go_sem,iEq,iLE,iLT,iTN,bq00,bq01,bq10,bq11,Bool.not_true,Bool.not_false,hw,lMp,gt_iff_lt]
  refine ⟨_,F2,?_⟩
  simp only [go_sem,iEq,iLE,iLT,iTN,bq00,bq01,bq10,bq11,Bool.not_true,Bool.not_false,hw,lMp,gt_iff_lt]
  refine I1.qv ⟨.same (Ins_bl _),.same (Ins_bl _),trivial⟩ ?_
  simp only [go_sem,iEq,iLE,iLT,iTN,bq00,bq01,bq10,bq11,Bool.not_true,Bool.not_false,hw,lMp,gt_iff_lt]
  refine ⟨_,S1,?_⟩
  simp only [go_sem,iEq,iLE,iLT,iTN,bq00,bq01,bq10,bq11,Bool.not_true,Bool.not_false,hw,lMp,gt_iff_lt]
  refine ⟨_,S2,?_⟩
  simp only [go_sem,iEq,iLE,iLT,iTN,bq00,bq01,bq10,bq11,Bool.not_true,Bool.not_false,hw,lMp,gt_iff_lt]
  refine I2.qv ⟨.same (Ins_bl _),.same (Ins_bl _),trivial⟩ ?_
  simp only [go_sem,iEq,iLE,iLT,iTN,bq00,bq01,bq10,bq11,Bool.not_true,Bool.not_false,hw,lMp,gt_iff_lt]
  refine ⟨_,P1,?_⟩
  rintro _ _ ⟨rfl,rfl⟩
  simp only [go_sem,iEq,iLE,iLT,iTN,bq00,bq01,bq10,bq11,Bool.not_true,Bool.not_false,hw,lMp,gt_iff_lt]
  refine ⟨_,P1,?_⟩
  rintro _ _ ⟨rfl,rfl⟩
  simp only [go_sem,iEq,iLE,iLT,iTN,bq00,bq01,bq10,bq11,Bool.not_true,Bool.not_false,hw,lMp,gt_iff_lt]
  refine ⟨_,N1,?_⟩
  rintro _ _ ⟨rfl,rfl⟩
  simp only [go_sem,iEq,iLE,iLT,iTN,bq00,bq01,bq10,bq11,Bool.not_true,Bool.not_false,hw,lMp,gt_iff_lt]
  refine ⟨i + 1,by omega,by omega,?_⟩
  exact Mv.of [some 0] rfl ⟨.alt rfl,trivial⟩ (by simp [hq])
 | false =>
  have hne := hso.2 rfl rfl
  have z1 : (((fl.length : Nat) : Int) == 0) = false := by
   simp only [beq_eq_false_iff_ne]
   intro h
   exact hne (List.eq_nil_of_length_eq_zero (by omega))
  refine ⟨_,P1,?_⟩
  simp only [go_sem,iEq,iLE,iLT,iTN,bq00,bq01,bq10,bq11,Bool.not_true,Bool.not_false,hw,lMp,gt_iff_lt,z1]
  refine ⟨_,P2,?_⟩
  simp only [go_sem,iEq,iLE,iLT,iTN,bq00,bq01,bq10,bq11,Bool.not_true,Bool.not_false,hw,lMp,gt_iff_lt,z1]
  refine ⟨_,N1,?_⟩
  simp only [go_sem,iEq,iLE,iLT,iTN,bq00,bq01,bq10,bq11,Bool.not_true,Bool.not_false,hw,lMp,gt_iff_lt,z1]
  refine ⟨_,N2,?_⟩
  simp only [go_sem,iEq,iLE,iLT,iTN,bq00,bq01,bq10,bq11,Bool.not_true,Bool.not_false,hw,lMp,gt_iff_lt,z1]
  refine ⟨_,F1,?_⟩
  simp only [go_sem,iEq,iLE,iLT,iTN,bq00,bq01,bq10,bq11,Bool.not_true,Bool.not_false,hw,lMp,gt_iff_lt,z1]
  refine ⟨_,F2,?_⟩
  simp only [go_sem,iEq,iLE,iLT,iTN,bq00,bq01,bq10,bq11,Bool.not_true,Bool.not_false,hw,lMp,gt_iff_lt,z1]
  refine I1.qv ⟨.same (Ins_bl _),.same (Ins_bl _),trivial⟩ ?_
  simp only [go_sem,iEq,iLE,iLT,iTN,bq00,bq01,bq10,bq11,Bool.not_true,Bool.not_false,hw,lMp,gt_iff_lt,z1]
  refine ⟨_,S1,?_⟩
  simp only [go_sem,iEq,iLE,iLT,iTN,bq00,bq01,bq10,bq11,Bool.not_true,Bool.not_false,hw,lMp,gt_iff_lt,z1]
  refine ⟨_,S2,?_⟩
  simp only [go_sem,iEq,iLE,iLT,iTN,bq00,bq01,bq10,bq11,Bool.not_true,Bool.not_false,hw,lMp,gt_iff_lt,z1]
  refine I2.qv ⟨.same (Ins_bl _),.same (Ins_bl _),trivial⟩ ?_
  simp only [go_sem,iEq,iLE,iLT,iTN,bq00,bq01,bq10,bq11,Bool.not_true,Bool.not_false,hw,lMp,gt_iff_lt,z1]
  refine ⟨_,P1,?_⟩
  rintro _ _ ⟨rfl,rfl⟩
  simp only [go_sem,iEq,iLE,iLT,iTN,bq00,bq01,bq10,bq11,Bool.not_true,Bool.not_false,hw,lMp,gt_iff_lt,z1]
  refine ⟨_,P1,?_⟩
  rintro _ _ ⟨rfl,rfl⟩
  simp only [go_sem,iEq,iLE,iLT,iTN,bq00,bq01,bq10,bq11,Bool.not_true,Bool.not_false,hw,lMp,gt_iff_lt,z1]
  refine ⟨_,N1,?_⟩
  rintro _ _ ⟨rfl,rfl⟩
  simp only [go_sem,iEq,iLE,iLT,iTN,bq00,bq01,bq10,bq11,Bool.not_true,Bool.not_false,hw,lMp,gt_iff_lt,z1]
  refine ⟨_,F1,?_⟩
  rintro _ _ ⟨rfl,rfl⟩
  simp only [go_sem,iEq,iLE,iLT,iTN,bq00,bq01,bq10,bq11,Bool.not_true,Bool.not_false,hw,lMp,gt_iff_lt,z1]
  refine ⟨i + 1,by omega,by omega,?_⟩
  exact Mv.of [some 0] rfl ⟨.alt rfl,trivial⟩ (by simp [hq])
end Go.Proofs.YtbmedfjmccnclaaGreat.W
