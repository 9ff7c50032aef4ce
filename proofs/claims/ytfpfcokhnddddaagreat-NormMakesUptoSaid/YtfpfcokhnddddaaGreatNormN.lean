/- What is made with care is the document's. -/
import Derived.Test.YtfpfcokhnddddaaGreatNormF
import Derived.Test.YtfpfcokhnddddaaGreatMath
set_option linter.unusedVariables false
set_option linter.unusedSimpArgs false
set_option linter.unusedSectionVars false
set_option maxRecDepth 100000
/- Some made with care: all of them, one behind the other. -/
namespace Go.Proofs.YtfpfcokhnddddaaGreat.W
open Go Go.Proofs Go.Proofs.YtfpfcokhnddddaaGreat.AWP
attribute [local irreducible] xl hide aop aops aopQ qops guardP condP

theorem map_take {l : List Re} {i : Nat} {x : Re} (h : l[i]? = some x) : (l.take (i + 1)).map Re.nrm = (l.take i).map Re.nrm ++ [x.nrm] := by
  rw [List.take_add_one, h]; simp
theorem nAllT (l : List Re) (hl : l.length ≤ 1000) (hz : ∀ x ∈ l, x.sz ≤ 1048576) (h : l.all mayB = true) : AP Tryz.prog 25 [Res l] (.tup [Res (l.map Re.nrm), .b true]) := by
  refine AC.lbody hT hm Tryz.func25 f25_nm f25_lc f25_res f25_nt ?_
  simp only [go_sem, Int.reduceEq, Int.reduceLE, Int.reduceLT, Int.reduceToNat]
  refine xl_loopM hT hm (fun i : Nat => ⟨f25_i9 (.own 0) (Res l) (.i l.length) (.i i), [reOb ((l.take i).map Re.nrm)]⟩)
    (fun i => i ≤ l.length) (fun i => l.length - i) 0 (Nat.zero_le _) (Mv.of [none] rfl ⟨.nil (by simp), trivial⟩ (by simp [f25_i9])) ?_
  intro i hi
  simp only [go_sem, Int.reduceEq, Int.reduceLE, Int.reduceLT, Int.reduceToNat]
  by_cases hil : i < l.length
  case neg =>
    simp only [go_sem, Int.reduceEq, Int.reduceLE, Int.reduceLT, Int.reduceToNat, hil]
    rw [List.take_of_length_le (by omega)]
    exact Fin.ret (.tupL ⟨frzR rfl, .v, trivial⟩)
  obtain ⟨x, hx⟩ := get_ex hil
  have hmem := List.mem_of_getElem? hx
  have hmx : mayB x = true := List.all_eq_true.1 h x hmem
  obtain ⟨xok, xsz⟩ := mayZ hmx
  have e := map_take hx
  have hk : ((l.take i).map Re.nrm).length ≤ 1000 := by simp; omega
  have c1 := may x (by have := hz x hmem; omega)
  rw [hmx] at c1
  generalize (l.take i).map Re.nrm = L at e hk
  simp only [go_sem, Int.reduceEq, Int.reduceLE, Int.reduceLT, Int.reduceToNat, hil, hx]
  refine c1.pv ⟨.same (Res_bl' [x]), trivial⟩ ?_
  simp only [go_sem, Int.reduceEq, Int.reduceLE, Int.reduceLT, Int.reduceToNat, Bool.not_true]
  refine (nNorm x xok (by omega)).pd ⟨.same (Re.d_bl _), trivial⟩ (Re.d_bl _) ?_
  simp only [go_sem, Int.reduceEq, Int.reduceLE, Int.reduceLT, Int.reduceToNat]
  refine ⟨by omega, ?_⟩
  refine ⟨i + 1, hil, by omega, ?_⟩
  rw [wrap_succ i (by omega), e]
  exact Mv.of [some 2] rfl (mv1 (by simp)) (by simp)
theorem nAllF (l : List Re) (hl : l.length ≤ 1000) (hz : ∀ x ∈ l, x.sz ≤ 1048576) (h : l.all mayB = false) : AP Tryz.prog 25 [Res l] (.tup [.v (.slice none 0 0), .b false]) := by
  refine AC.lbody hT hm Tryz.func25 f25_nm f25_lc f25_res f25_nt ?_
  simp only [go_sem, Int.reduceEq, Int.reduceLE, Int.reduceLT, Int.reduceToNat]
  refine xl_loopM hT hm (fun i : Nat => ⟨f25_i9 (.own 0) (Res l) (.i l.length) (.i i), [reOb ((l.take i).map Re.nrm)]⟩)
    (fun i => i ≤ l.length ∧ (l.take i).all mayB = true) (fun i => l.length - i) 0 ⟨Nat.zero_le _, rfl⟩ (Mv.of [none] rfl ⟨.nil (by simp), trivial⟩ (by simp [f25_i9])) ?_
  rintro i ⟨hi, ha⟩
  simp only [go_sem, Int.reduceEq, Int.reduceLE, Int.reduceLT, Int.reduceToNat]
  by_cases hil : i < l.length
  case neg =>
    rw [List.take_of_length_le (by omega), h] at ha
    cases ha
  obtain ⟨x, hx⟩ := get_ex hil
  have hmem := List.mem_of_getElem? hx
  have e := map_take hx
  have ea : (l.take (i + 1)).all mayB = ((l.take i).all mayB && mayB x) := by rw [List.take_add_one, hx]; simp
  have hk : ((l.take i).map Re.nrm).length ≤ 1000 := by simp; omega
  have c1 := may x (by have := hz x hmem; omega)
  generalize (l.take i).map Re.nrm = L at e hk
  simp only [go_sem, Int.reduceEq, Int.reduceLE, Int.reduceLT, Int.reduceToNat, hil, hx]
  refine c1.pv ⟨.same (Res_bl' [x]), trivial⟩ ?_
  rcases mayCase x with hmx | hmx
  · simp only [go_sem, Int.reduceEq, Int.reduceLE, Int.reduceLT, Int.reduceToNat, hmx, Bool.not_false]
    exact Fin.ret (.tupL ⟨.v, .v, trivial⟩)
  · obtain ⟨xok, xsz⟩ := mayZ hmx
    simp only [go_sem, Int.reduceEq, Int.reduceLE, Int.reduceLT, Int.reduceToNat, hmx, Bool.not_true]
    refine (nNorm x xok (by omega)).pd ⟨.same (Re.d_bl _), trivial⟩ (Re.d_bl _) ?_
    simp only [go_sem, Int.reduceEq, Int.reduceLE, Int.reduceLT, Int.reduceToNat]
    refine ⟨by omega, ?_⟩
    refine ⟨i + 1, ⟨hil, by rw [ea, ha, hmx]; rfl⟩, by omega, ?_⟩
    rw [wrap_succ i (by omega), e]
    exact Mv.of [some 2] rfl (mv1 (by simp)) (by simp)

def sqAll (l : List Re) : Re := l.foldr Re.sq epsR
abbrev sqF (e : Re) (l : List Re) : Re := l.foldr Re.sq e
/-- The slots of Seq where its loop begins. -/
abbrev sqE (e : Re) (l m : List Re) : List D := [Res m, .any, .ref 0 0, .b true, .ref 1 0, .any, .any, .tup [Res m, .b true], Res l, .tup [Res m, .b true], Res m, .b true, .b true, .b false, .any, .agg e.c, Res m, .fn BWD [.pel [Res m]], .any, .any, .any, .any, .any, .any]
theorem sqRound {ca cb : Code} (ha : lc ca = (f11_a8).st) (hb : lc cb = (f11_b8).st) (e : Re) (l m : List Re) (j : Int) (y acc : Re) (hy : y.nodesOk = true) :
    AY Tryz.prog 2 [.i j, .agg y.c] [zOb, reVar acc, .lp #[18, 19] ca cb .ready none (sqE e l m)]
      (fun o om' => o = .ret (.b true) ∧ om' = [zOb, reVar (y.sq acc), .lp #[18, 19] ca cb .ready none (sqE e l m)]) := by
  have c := nSeq y hy acc
  refine AY.walk hT hm ha hb rfl rfl rfl ?_
  simp only [go_sem, Int.reduceEq, Int.reduceLE, Int.reduceLT, Int.reduceToNat]
  refine c.pd ⟨.same (Re.d_bl _), .same (Re.d_bl _), trivial⟩ (Re.d_bl _) ?_
  simp only [go_sem, Int.reduceEq, Int.reduceLE, Int.reduceLT, Int.reduceToNat, Re.put]
  exact Fin.mv (om' := [zOb, reVar (y.sq acc), .lp #[18, 19] ca cb .ready none (sqE e l m)]) [some 0, some 1, some 2] rfl
    ⟨.varS rfl (by simp [zRe]), .varS rfl (Re.c_bl _), .lpL rfl (by simp), trivial⟩ .v ⟨rfl, rfl⟩
theorem sqBack {ca cb : Code} (ha : lc ca = (f11_a8).st) (hb : lc cb = (f11_b8).st) (e : Re) (l m : List Re) (hm' : m.length ≤ 1000) (hok : ∀ x ∈ m, x.nodesOk = true) :
    AC Tryz.prog BWD [.yld 2, .pel [Res m]] [zOb, reVar e, .lp #[18, 19] ca cb .ready none (sqE e l m)]
      (fun o om' => o = .ret (.tup []) ∧ om' = [zOb, reVar (sqF e m), .lp #[18, 19] ca cb .ready none (sqE e l m)]) := by
  have mv3 : ∀ {om : List Ob} {F : Nat → Bool} (a : Re), om[0]? = some zOb → om[1]? = some (reVar a) → om[2]? = some (.lp #[18, 19] ca cb .ready none (sqE e l m)) →
      MvL om F [some 0, some 1, some 2] [some 0, some 1, some 2] [zOb, reVar a, .lp #[18, 19] ca cb .ready none (sqE e l m)] :=
    fun a h0 h1 h2 => ⟨.varS h0 (by simp [zRe]), .varS h1 (Re.c_bl _), .lpL h2 (by simp), trivial⟩
  refine AC.lbody hT hm Tryz.func47 f47_nm f47_lc f47_res f47_nt ?_
  simp only [go_sem, Int.reduceEq, Int.reduceLE, Int.reduceLT, Int.reduceToNat]
  refine xl_loopM hT hm (fun i : Nat => ⟨f47_i4 (.yld 2) (.pel [Res m]) (.i ((i : Int) - 1)), [zOb, reVar (sqF e (m.drop i)), .lp #[18, 19] ca cb .ready none (sqE e l m)]⟩)
    (fun i => i ≤ m.length) (fun i => i) m.length (Nat.le_refl _) ?_ ?_
  · rw [wrap_int _ (by omega) (by omega), List.drop_length]
    exact Mv.of [some 0, some 1, some 2] rfl (mv3 _ rfl rfl rfl) (by simp [f47_i4])
  intro i hi
  cases i with
  | zero =>
    have hf : decide ((0 : Int) ≤ ((0 : Nat) : Int) - 1) = false := rfl
    simp only [go_sem, Int.reduceEq, Int.reduceLE, Int.reduceLT, Int.reduceToNat]
    simp only [go_sem, Int.reduceEq, Int.reduceLE, Int.reduceLT, Int.reduceToNat, hf]
    exact Fin.mv (om' := [zOb, reVar (sqF e m), .lp #[18, 19] ca cb .ready none (sqE e l m)]) [some 0, some 1, some 2] rfl (mv3 _ rfl rfl rfl) (by simp) ⟨rfl, rfl⟩
  | succ i =>
    have e1 : (((i + 1 : Nat) : Int) - 1) = (i : Int) := by omega
    obtain ⟨y, hy⟩ := get_ex (l := m) (show i < m.length by omega)
    rw [e1]
    simp only [go_sem, Int.reduceEq, Int.reduceLE, Int.reduceLT, Int.reduceToNat, hy]
    refine ⟨_, sqRound ha hb e l m i y (sqF e (m.drop (i + 1))) (hok y (List.mem_of_getElem? hy)), ?_⟩
    rintro _ _ ⟨rfl, rfl⟩
    simp only [go_sem, Int.reduceEq, Int.reduceLE, Int.reduceLT, Int.reduceToNat]
    refine ⟨i, by omega, by omega, ?_⟩
    rw [wrap_int _ (by omega) (by omega)]
    have e2 : sqF e (m.drop i) = y.sq (sqF e (m.drop (i + 1))) := by rw [drop_get hy]; rfl
    rw [e2]
    exact Mv.of [some 0, some 1, some 2] rfl (mv3 _ rfl rfl rfl) (by simp)

def mkS (l : List Re) : Re := if l.all mayB = true then sqAll (l.map Re.nrm) else .mk 0 0 0 0 0 []
def mkA (l : List Re) : Re := if l.all mayB = true then altR (l.map Re.nrm) else .mk 0 0 0 0 0 []
def mkT (r : Re) : Re := if mayB r = true then starR r.nrm else .mk 0 0 0 0 0 []
theorem allCase (l : List Re) : l.all mayB = false ∨ l.all mayB = true := by cases l.all mayB <;> simp
theorem map_ok {l : List Re} (h : l.all mayB = true) : ∀ x ∈ l.map Re.nrm, x.nodesOk = true := by
  intro x hx
  obtain ⟨y, hy, rfl⟩ := List.mem_map.1 hx
  exact nrm_ok y (mayZ (List.all_eq_true.1 h y hy)).1
theorem map_szs {l : List Re} (h : l.all mayB = true) : Re.szs (l.map Re.nrm) ≤ Re.szs l := by
  induction l with
  | nil => exact Nat.le_refl _
  | cons x l ih =>
    simp only [List.all_cons, Bool.and_eq_true] at h
    have h1 := nrm_sz x (mayZ h.1).1
    have h2 := ih h.2
    rw [List.map_cons, Re.szs, Re.szs]
    omega
theorem foldL_nilE : foldL 4 2 [] = epsR := rfl
theorem nSeqs (l : List Re) (hl : l.length ≤ 1000) (hz : ∀ x ∈ l, x.sz ≤ 1048576) : AP Tryz.prog 11 [Res l] (.agg (mkS l).c) := by
  unfold mkS
  rcases allCase l with h | h
  · have c := nAllF l hl hz h
    refine AC.lbody hT hm Tryz.func11 f11_nm f11_lc f11_res f11_nt ?_
    simp only [go_sem, Int.reduceEq, Int.reduceLE, Int.reduceLT, Int.reduceToNat]
    refine c.pd ⟨.same (Res_bl' l), trivial⟩ (by simp) ?_
    simp only [go_sem, Int.reduceEq, Int.reduceLE, Int.reduceLT, Int.reduceToNat, Bool.not_false, h, Bool.false_eq_true, if_false, Re.put0]
    exact Fin.ret (.aggL (by simp [CvL, Re.c_mk, Re.cs_eq]))
  · have c := nAllT l hl hz h
    have hok := map_ok h
    have hlen : (l.map Re.nrm).length ≤ 1000 := by simpa using hl
    rw [if_pos h]
    generalize l.map Re.nrm = m at *
    have c2 := rexThen [] (by simp)
    rw [foldL_nilE] at c2
    unfold sqAll
    obtain ⟨e, he⟩ : ∃ e, e = epsR := ⟨_, rfl⟩
    rw [← he] at c2 ⊢
    refine AC.lbody hT hm Tryz.func11 f11_nm f11_lc f11_res f11_nt ?_
    simp only [go_sem, Int.reduceEq, Int.reduceLE, Int.reduceLT, Int.reduceToNat]
    refine c.pd ⟨.same (Res_bl' l), trivial⟩ (by simp) ?_
    simp only [go_sem, Int.reduceEq, Int.reduceLE, Int.reduceLT, Int.reduceToNat, Bool.not_true]
    refine c2.pd ⟨.nil, trivial⟩ (Re.d_bl _) ?_
    simp only [go_sem, Int.reduceEq, Int.reduceLE, Int.reduceLT, Int.reduceToNat]
    refine (backward m).pd ⟨.same (Res_bl' m), trivial⟩ (by simp) ?_
    simp only [go_sem, Int.reduceEq, Int.reduceLE, Int.reduceLT, Int.reduceToNat, W_rfun]
    intro ca cb ha hb
    refine ⟨_, sqBack ha hb e l m hlen hok, ?_⟩
    rintro _ _ ⟨rfl, rfl⟩
    simp only [go_sem, Int.reduceEq, Int.reduceLE, Int.reduceLT, Int.reduceToNat]
    refine ⟨by simp, ?_⟩
    exact finR rfl
end Go.Proofs.YtfpfcokhnddddaaGreat.W

set_option maxRecDepth 100000
/- Some made with care: one of them, as often as one likes; the document's. -/
namespace Go.Proofs.YtfpfcokhnddddaaGreat.W
open Go Go.Proofs Go.Proofs.YtfpfcokhnddddaaGreat.AWP
attribute [local irreducible] xl hide aop aops aopQ qops guardP condP

theorem nAlts (l : List Re) (hl : l.length ≤ 1000) (hz : ∀ x ∈ l, x.sz ≤ 1048576) (hs : Re.szs l ≤ 10000) : AP Tryz.prog 13 [Res l] (.agg (mkA l).c) := by
  unfold mkA
  rcases allCase l with h | h
  · have c := nAllF l hl hz h
    refine AC.lbody hT hm Tryz.func13 f13_nm f13_lc f13_res f13_nt ?_
    simp only [go_sem, Int.reduceEq, Int.reduceLE, Int.reduceLT, Int.reduceToNat]
    refine c.pd ⟨.same (Res_bl' l), trivial⟩ (by simp) ?_
    simp only [go_sem, Int.reduceEq, Int.reduceLE, Int.reduceLT, Int.reduceToNat, Bool.not_false, h, Bool.false_eq_true, if_false, Re.put0]
    exact Fin.ret (.aggL (by simp [CvL, Re.c_mk, Re.cs_eq]))
  · have c := nAllT l hl hz h
    have hok := map_ok h
    have hsz := map_szs h
    rw [if_pos h]
    generalize l.map Re.nrm = m at *
    have c2 := nAlt m (by omega) hok
    refine AC.lbody hT hm Tryz.func13 f13_nm f13_lc f13_res f13_nt ?_
    simp only [go_sem, Int.reduceEq, Int.reduceLE, Int.reduceLT, Int.reduceToNat]
    refine c.pd ⟨.same (Res_bl' l), trivial⟩ (by simp) ?_
    simp only [go_sem, Int.reduceEq, Int.reduceLE, Int.reduceLT, Int.reduceToNat, Bool.not_true]
    refine c2.pd ⟨.same (Res_bl' m), trivial⟩ (Re.d_bl _) ?_
    simp only [go_sem, Int.reduceEq, Int.reduceLE, Int.reduceLT, Int.reduceToNat, Re.put0]
    exact finR rfl
theorem nStars (r : Re) (hz : r.sz ≤ 1048576) : AP Tryz.prog 14 [.agg r.c] (.agg (mkT r).c) := by
  unfold mkT
  rcases mayCase r with h | h
  · have c := nAllF [r] (by simp) (by simpa using hz) (by simp [h])
    refine AC.lbody hT hm Tryz.func14 f14_nm f14_lc f14_res f14_nt ?_
    simp only [go_sem, Int.reduceEq, Int.reduceLE, Int.reduceLT, Int.reduceToNat]
    refine c.pd ⟨.same (Res_bl' [r]), trivial⟩ (by simp) ?_
    simp only [go_sem, Int.reduceEq, Int.reduceLE, Int.reduceLT, Int.reduceToNat, Bool.not_false, h, Bool.false_eq_true, if_false, Re.put0]
    exact Fin.ret (.aggL (by simp [CvL, Re.c_mk, Re.cs_eq]))
  · have c := nAllT [r] (by simp) (by simpa using hz) (by simp [h])
    rw [if_pos h]
    rw [show [r].map Re.nrm = [r.nrm] from rfl] at c
    generalize r.nrm = x at *
    refine AC.lbody hT hm Tryz.func14 f14_nm f14_lc f14_res f14_nt ?_
    simp only [go_sem, Int.reduceEq, Int.reduceLE, Int.reduceLT, Int.reduceToNat]
    refine c.pd ⟨.same (Res_bl' [r]), trivial⟩ (by simp) ?_
    simp only [go_sem, Int.reduceEq, Int.reduceLE, Int.reduceLT, Int.reduceToNat, Bool.not_true]
    refine (nStar x).pd ⟨.same (Re.d_bl _), trivial⟩ (Re.d_bl _) ?_
    simp only [go_sem, Int.reduceEq, Int.reduceLE, Int.reduceLT, Int.reduceToNat, Re.put0]
    exact finR rfl

theorem mvM {L : List Re} {k : Nat} {om : List Ob} {G : Nat → Bool} (h0 : om[0]? = some zOb) (h2 : om[k]? = some (reOb L)) : MvL om G [some 0, some k] [some 0, some k] [zOb, reOb L] :=
  ⟨.varS h0 (by simp [zRe]), .slcS h2 (Re.map_bl _), trivial⟩
theorem rManyF (kind : Int) (l : List Re) (hl : l.length ≤ 1000) (hz : ∀ x ∈ l, x.sz ≤ 1048576) (hw : ∀ x ∈ l, x.wd) (h : l.all mayB = false) : AP Tryz.prog 12 [.v (.int .u8 kind), Res l] (.agg (Re.mk 0 0 0 0 0 []).c) := by
  refine AC.lbody hT hm Tryz.func12 f12_nm f12_lc f12_res f12_nt ?_
  simp only [go_sem, Int.reduceEq, Int.reduceLE, Int.reduceLT, Int.reduceToNat]
  refine xl_loopM hT hm (fun i : Nat => ⟨f12_i9 (.v (.int .u8 kind)) (Res l) (.ref 0 0) (.own 1) (.i l.length) (.i i), [zOb, reOb ((l.take i).map Re.nrm)]⟩)
    (fun i => i ≤ l.length ∧ (l.take i).all mayB = true) (fun i => l.length - i) 0 ⟨Nat.zero_le _, rfl⟩ (Mv.of [some 0, some 1] rfl ⟨.varS rfl (by simp [zRe]), .slcS rfl (Re.map_bl []), trivial⟩ (by simp [f12_i9])) ?_
  rintro i ⟨hi, ha⟩
  simp only [go_sem, Int.reduceEq, Int.reduceLE, Int.reduceLT, Int.reduceToNat]
  by_cases hil : i < l.length
  case neg =>
    rw [List.take_of_length_le (by omega), h] at ha
    cases ha
  obtain ⟨x, hx⟩ := get_ex hil
  have hmem := List.mem_of_getElem? hx
  have e := map_take hx
  have ea : (l.take (i + 1)).all mayB = ((l.take i).all mayB && mayB x) := by rw [List.take_add_one, hx]; simp
  have hk : ((l.take i).map Re.nrm).length ≤ 1000 := by simp; omega
  have c1 := rMay x (by have := hz x hmem; omega)
  have hmz : mayB x = true → AP Tryz.prog 9 [.agg x.c] (.agg x.nrm.c) := fun h => rNorm x (mayZ h).1 (by have := (mayZ h).2; omega) (hw x hmem)
  generalize (l.take i).map Re.nrm = L at e hk
  simp only [go_sem, Int.reduceEq, Int.reduceLE, Int.reduceLT, Int.reduceToNat, hil, hx]
  refine c1.pv ⟨.same (Re.d_bl _), trivial⟩ ?_
  rcases mayCase x with hmx | hmx
  · simp only [go_sem, Int.reduceEq, Int.reduceLE, Int.reduceLT, Int.reduceToNat, hmx, Bool.not_false, Re.put0]
    exact Fin.ret (.aggL (by simp [CvL, Re.c_mk, Re.cs_eq]))
  · have hno := hmz hmx
    simp only [go_sem, Int.reduceEq, Int.reduceLE, Int.reduceLT, Int.reduceToNat, hmx, Bool.not_true, hx]
    refine hno.pd ⟨.same (Re.d_bl _), trivial⟩ (Re.d_bl _) ?_
    simp only [go_sem, Int.reduceEq, Int.reduceLE, Int.reduceLT, Int.reduceToNat]
    refine ⟨by omega, ?_⟩
    refine ⟨i + 1, ⟨hil, by rw [ea, ha, hmx]; rfl⟩, by omega, ?_⟩
    rw [wrap_succ i (by omega), e]
    exact Mv.of [some 0, some 2] rfl (mvM rfl (by simp)) (by simp)
/-- By kind: what all make. -/
def manyR (kind : Int) (l : List Re) : Re := if kind = 5 then altR l else sqAll l
theorem rManyT (kind : Int) (l : List Re) (hl : l.length ≤ 1000) (hz : ∀ x ∈ l, x.sz ≤ 1048576) (hs : Re.szs l ≤ 10000) (hw : ∀ x ∈ l, x.wd) (h : l.all mayB = true) : AP Tryz.prog 12 [.v (.int .u8 kind), Res l] (.agg (manyR kind (l.map Re.nrm)).c) := by
  have hok := map_ok h
  have hsz := map_szs h
  have hwm : ∀ x ∈ l.map Re.nrm, x.wd := by
    intro x hx
    obtain ⟨y, hy, rfl⟩ := List.mem_map.1 hx
    exact nrm_wd y (mayZ (List.all_eq_true.1 h y hy)).1 (hw y hy)
  have hlm : (l.map Re.nrm).length = l.length := by simp
  refine AC.lbody hT hm Tryz.func12 f12_nm f12_lc f12_res f12_nt ?_
  simp only [go_sem, Int.reduceEq, Int.reduceLE, Int.reduceLT, Int.reduceToNat]
  refine xl_loopM hT hm (fun i : Nat => ⟨f12_i9 (.v (.int .u8 kind)) (Res l) (.ref 0 0) (.own 1) (.i l.length) (.i i), [zOb, reOb ((l.take i).map Re.nrm)]⟩)
    (fun i => i ≤ l.length) (fun i => l.length - i) 0 (Nat.zero_le _) (Mv.of [some 0, some 1] rfl ⟨.varS rfl (by simp [zRe]), .slcS rfl (Re.map_bl []), trivial⟩ (by simp [f12_i9])) ?_
  intro i hi
  simp only [go_sem, Int.reduceEq, Int.reduceLE, Int.reduceLT, Int.reduceToNat]
  by_cases hil : i < l.length
  case pos =>
    obtain ⟨x, hx⟩ := get_ex hil
    have hmem := List.mem_of_getElem? hx
    have hmx : mayB x = true := List.all_eq_true.1 h x hmem
    obtain ⟨xok, xsz⟩ := mayZ hmx
    have e := map_take hx
    have hk : ((l.take i).map Re.nrm).length ≤ 1000 := by simp; omega
    have c1 := rMay x (by have := hz x hmem; omega)
    rw [hmx] at c1
    generalize (l.take i).map Re.nrm = L at e hk
    simp only [go_sem, Int.reduceEq, Int.reduceLE, Int.reduceLT, Int.reduceToNat, hil, hx]
    refine c1.pv ⟨.same (Re.d_bl _), trivial⟩ ?_
    simp only [go_sem, Int.reduceEq, Int.reduceLE, Int.reduceLT, Int.reduceToNat, Bool.not_true, hx]
    refine (rNorm x xok (by omega) (hw x hmem)).pd ⟨.same (Re.d_bl _), trivial⟩ (Re.d_bl _) ?_
    simp only [go_sem, Int.reduceEq, Int.reduceLE, Int.reduceLT, Int.reduceToNat]
    refine ⟨by omega, ?_⟩
    refine ⟨i + 1, hil, by omega, ?_⟩
    rw [wrap_succ i (by omega), e]
    exact Mv.of [some 0, some 2] rfl (mvM rfl (by simp)) (by simp)
  rw [List.take_of_length_le (by omega)]
  generalize l.map Re.nrm = m at *
  unfold manyR
  by_cases h5 : kind = 5
  · subst h5
    have c2 := rAlt m (by omega) hok hwm
    simp only [go_sem, Int.reduceEq, Int.reduceLE, Int.reduceLT, Int.reduceToNat, hil, Int.reduceBEq]
    refine c2.callF (fun k => k == 1) ⟨frzN rfl rfl, trivial⟩ (Re.d_bl _) ?_
    have ef : frzL (fun k => k == 1) [zOb, reOb m] = [zOb, .frz 6 (m.map Re.c)] := rfl
    simp only [go_sem, Int.reduceEq, Int.reduceLE, Int.reduceLT, Int.reduceToNat, ef, Re.put0]
    exact finR rfl
  · simp only [go_sem, Int.reduceEq, Int.reduceLE, Int.reduceLT, Int.reduceToNat, hil, beq_false h5, if_neg h5]
    refine (bare 2).pd ⟨.v, trivial⟩ (Re.d_bl _) ?_
    simp only [go_sem, Int.reduceEq, Int.reduceLE, Int.reduceLT, Int.reduceToNat]
    have mvN : ∀ {om : List Ob} {F : Nat → Bool} (a : Re), om[0]? = some zOb → om[1]? = some (reOb m) → om[2]? = some (reVar a) → MvL om F [some 0, some 1, some 2] [some 0, some 1, some 2] [zOb, reOb m, reVar a] :=
      fun a h0 h1 h2 => ⟨.varS h0 (by simp [zRe]), .slcS h1 (Re.map_bl m), .varS h2 (Re.c_bl _), trivial⟩
    refine xl_loopM hT hm (fun i : Nat => ⟨f12_i17 (.ref 0 0) (.own 1) (.ref 2 0) (.i ((i : Int) - 1)), [zOb, reOb m, reVar (sqAll (m.drop i))]⟩)
      (fun i => i ≤ m.length) (fun i => i) m.length (Nat.le_refl _) ?_ ?_
    · rw [wrap_int _ (by omega) (by omega), List.drop_length]
      exact Mv.of [some 0, some 1, some 2] rfl (mvN epsR rfl rfl rfl) (by simp [f12_i17])
    intro i hi
    cases i with
    | zero =>
      have hf : decide ((0 : Int) ≤ ((0 : Nat) : Int) - 1) = false := rfl
      simp only [go_sem, Int.reduceEq, Int.reduceLE, Int.reduceLT, Int.reduceToNat]
      simp only [go_sem, Int.reduceEq, Int.reduceLE, Int.reduceLT, Int.reduceToNat, hf, Re.put0]
      exact finR rfl
    | succ i =>
      have e1 : (((i + 1 : Nat) : Int) - 1) = (i : Int) := by omega
      obtain ⟨y, hy⟩ := get_ex (l := m) (show i < m.length by omega)
      rw [e1]
      simp only [go_sem, Int.reduceEq, Int.reduceLE, Int.reduceLT, Int.reduceToNat, hy]
      refine (rSeq y (hok y (List.mem_of_getElem? hy)) (sqAll (m.drop (i + 1)))).pd ⟨.same (Re.d_bl _), .same (Re.d_bl _), trivial⟩ (Re.d_bl _) ?_
      simp only [go_sem, Int.reduceEq, Int.reduceLE, Int.reduceLT, Int.reduceToNat, Re.put]
      refine ⟨i, by omega, by omega, ?_⟩
      rw [wrap_int _ (by omega) (by omega)]
      have e2 : sqAll (m.drop i) = y.sq (sqAll (m.drop (i + 1))) := by rw [drop_get hy]; rfl
      rw [e2]
      exact Mv.of [some 0, some 1, some 2] rfl (mvN _ rfl rfl rfl) (by simp)
end Go.Proofs.YtfpfcokhnddddaaGreat.W

set_option maxRecDepth 100000
/- What is made with care is the document's. -/
namespace Go.Proofs.YtfpfcokhnddddaaGreat.W
open Go Go.Proofs Go.Proofs.YtfpfcokhnddddaaGreat.AWP
attribute [local irreducible] xl hide aop aops aopQ qops guardP condP

theorem gAll_szs {l : List Re} (hz : ∀ x ∈ l, x.sz ≤ 1048576) (h : gAll 60 l = false) : l.length ≤ 20 ∧ Re.szs l ≤ 1200 := by
  simp only [gAll, Bool.or_eq_false_iff, decide_eq_false_iff_not, List.any_eq_false, decide_eq_true_eq] at h
  obtain ⟨h1, h2⟩ := h
  have h1' : l.length ≤ 20 := by omega
  refine ⟨h1', ?_⟩
  have key : ∀ m : List Re, (∀ x ∈ m, x.sz ≤ 60) → Re.szs m ≤ 60 * m.length := by
    intro m hm
    induction m with
    | nil => simp [Re.szs]
    | cons x m ih =>
      have a := hm x (by simp)
      have b := ih fun y hy => hm y (by simp [hy])
      rw [Re.szs, List.length_cons]; omega
  have := key l fun x hx => by
    have a := h2 x hx
    have b := cnt_sz 60 (by omega) x (by have := hz x hx; omega) (by omega)
    omega
  omega
theorem rMany (kind : Int) (l : List Re) (hl : l.length ≤ 1000) (hz : ∀ x ∈ l, x.sz ≤ 1048576) (hs : Re.szs l ≤ 10000) (hw : ∀ x ∈ l, x.wd) :
    AP Tryz.prog 12 [.v (.int .u8 kind), Res l] (.agg (if l.all mayB = true then manyR kind (l.map Re.nrm) else .mk 0 0 0 0 0 []).c) := by
  rcases allCase l with h | h
  · rw [if_neg (by simp [h])]; exact rManyF kind l hl hz hw h
  · rw [if_pos h]; exact rManyT kind l hl hz hs hw h
theorem normMakes (l : List Re) (r : Re) (hz : ∀ x ∈ l, x.sz ≤ 1048576) (hzr : r.sz ≤ 1048576) (hw : ∀ x ∈ l, x.wd) (hwr : r.wd) : AP Tryz.prog 3 [Res l, .agg r.c] (.b true) := by
  have g1 := greatAll 60 l
  cases hg : gAll 60 l with
  | true =>
    rw [hg] at g1
    refine AC.lbody hT hm Tryz.func3 f3_nm f3_lc f3_res f3_nt ?_
    simp only [go_sem, Int.reduceEq, Int.reduceLE, Int.reduceLT, Int.reduceToNat]
    refine g1.pv (by simp) ?_
    simp only [go_sem, Int.reduceEq, Int.reduceLE, Int.reduceLT, Int.reduceToNat]
    refine awake8.pv trivial ?_
    simp only [go_sem, Int.reduceEq, Int.reduceLE, Int.reduceLT, Int.reduceToNat]
    exact Fin.v rfl
  | false =>
    rw [hg] at g1
    obtain ⟨hl, hs⟩ := gAll_szs hz hg
    by_cases hgr : 60 < r.cnt 60
    · refine AC.lbody hT hm Tryz.func3 f3_nm f3_lc f3_res f3_nt ?_
      simp only [go_sem, Int.reduceEq, Int.reduceLE, Int.reduceLT, Int.reduceToNat]
      refine g1.pv (by simp) ?_
      simp only [go_sem, Int.reduceEq, Int.reduceLE, Int.reduceLT, Int.reduceToNat]
      refine (great 60 r).pv ⟨.same (Re.d_bl _), .v, trivial⟩ ?_
      simp only [go_sem, Int.reduceEq, Int.reduceLE, Int.reduceLT, Int.reduceToNat, hgr]
      refine awake8.pv trivial ?_
      simp only [go_sem, Int.reduceEq, Int.reduceLE, Int.reduceLT, Int.reduceToNat]
      exact Fin.v rfl
    have c1 := nSeqs l (by omega) hz
    have c2 := rMany 4 l (by omega) hz (by omega) hw
    rw [show (if l.all mayB = true then manyR 4 (l.map Re.nrm) else .mk 0 0 0 0 0 []) = mkS l from rfl] at c2
    have c3 := same (mkS l) (mkS l)
    rw [Re.same_self] at c3
    have c4 := nAlts l (by omega) hz (by omega)
    have c5 := rMany 5 l (by omega) hz (by omega) hw
    rw [show (if l.all mayB = true then manyR 5 (l.map Re.nrm) else .mk 0 0 0 0 0 []) = mkA l from rfl] at c5
    have c6 := same (mkA l) (mkA l)
    rw [Re.same_self] at c6
    have c7 := nStars r hzr
    have c8 := same (mkT r) (mkT r)
    rw [Re.same_self] at c8
    have hmy := rMay r (by omega)
    generalize mkS l = S at *
    generalize mkA l = A at *
    rcases mayCase r with h | h
    · have et : mkT r = .mk 0 0 0 0 0 [] := by unfold mkT; rw [h]; rfl
      rw [h] at hmy
      refine AC.lbody hT hm Tryz.func3 f3_nm f3_lc f3_res f3_nt ?_
      simp only [go_sem, Int.reduceEq, Int.reduceLE, Int.reduceLT, Int.reduceToNat]
      refine g1.pv (by simp) ?_
      simp only [go_sem, Int.reduceEq, Int.reduceLE, Int.reduceLT, Int.reduceToNat]
      refine (great 60 r).pv ⟨.same (Re.d_bl _), .v, trivial⟩ ?_
      simp only [go_sem, Int.reduceEq, Int.reduceLE, Int.reduceLT, Int.reduceToNat, hgr]
      refine hmy.pv (by simp) ?_
      simp only [go_sem, Int.reduceEq, Int.reduceLE, Int.reduceLT, Int.reduceToNat]
      refine c1.qd ⟨.same (Res_bl' l), trivial⟩ (Re.d_bl _) ?_
      simp only [go_sem, Int.reduceEq, Int.reduceLE, Int.reduceLT, Int.reduceToNat]
      refine c2.qd ⟨.v, .same (Res_bl' l), trivial⟩ (Re.d_bl _) ?_
      simp only [go_sem, Int.reduceEq, Int.reduceLE, Int.reduceLT, Int.reduceToNat]
      refine c3.qv (by simp) ?_
      simp only [go_sem, Int.reduceEq, Int.reduceLE, Int.reduceLT, Int.reduceToNat]
      refine c4.qd ⟨.same (Res_bl' l), trivial⟩ (Re.d_bl _) ?_
      simp only [go_sem, Int.reduceEq, Int.reduceLE, Int.reduceLT, Int.reduceToNat]
      refine c5.qd ⟨.v, .same (Res_bl' l), trivial⟩ (Re.d_bl _) ?_
      simp only [go_sem, Int.reduceEq, Int.reduceLE, Int.reduceLT, Int.reduceToNat]
      refine c6.qv (by simp) ?_
      simp only [go_sem, Int.reduceEq, Int.reduceLE, Int.reduceLT, Int.reduceToNat]
      refine c7.qd ⟨.same (Re.d_bl _), trivial⟩ (Re.d_bl _) ?_
      simp only [go_sem, Int.reduceEq, Int.reduceLE, Int.reduceLT, Int.reduceToNat]
      refine c8.qv ⟨.same (Re.d_bl _), .aggL (by rw [et]; simp [CvL, Re.c_mk, Re.cs_eq]), trivial⟩ ?_
      simp only [go_sem, Int.reduceEq, Int.reduceLE, Int.reduceLT, Int.reduceToNat]
      refine awake8.qv trivial ?_
      simp only [go_sem, Int.reduceEq, Int.reduceLE, Int.reduceLT, Int.reduceToNat]
      exact Fin.v rfl
    · have et : mkT r = starR r.nrm := by unfold mkT; rw [if_pos h]
      obtain ⟨rok, rsz⟩ := mayZ h
      have d1 := rNorm r rok (by omega) hwr
      have d2 := rStar r.nrm
      rw [← et] at d2
      rw [h] at hmy
      generalize mkT r = Z at *
      refine AC.lbody hT hm Tryz.func3 f3_nm f3_lc f3_res f3_nt ?_
      simp only [go_sem, Int.reduceEq, Int.reduceLE, Int.reduceLT, Int.reduceToNat]
      refine g1.pv (by simp) ?_
      simp only [go_sem, Int.reduceEq, Int.reduceLE, Int.reduceLT, Int.reduceToNat]
      refine (great 60 r).pv ⟨.same (Re.d_bl _), .v, trivial⟩ ?_
      simp only [go_sem, Int.reduceEq, Int.reduceLE, Int.reduceLT, Int.reduceToNat, hgr]
      refine hmy.pv (by simp) ?_
      simp only [go_sem, Int.reduceEq, Int.reduceLE, Int.reduceLT, Int.reduceToNat]
      refine d1.pd ⟨.same (Re.d_bl _), trivial⟩ (Re.d_bl _) ?_
      simp only [go_sem, Int.reduceEq, Int.reduceLE, Int.reduceLT, Int.reduceToNat]
      refine d2.pd ⟨.same (Re.d_bl _), trivial⟩ (Re.d_bl _) ?_
      simp only [go_sem, Int.reduceEq, Int.reduceLE, Int.reduceLT, Int.reduceToNat, Re.put0]
      refine c1.qd ⟨.same (Res_bl' l), trivial⟩ (Re.d_bl _) ?_
      simp only [go_sem, Int.reduceEq, Int.reduceLE, Int.reduceLT, Int.reduceToNat]
      refine c2.qd ⟨.v, .same (Res_bl' l), trivial⟩ (Re.d_bl _) ?_
      simp only [go_sem, Int.reduceEq, Int.reduceLE, Int.reduceLT, Int.reduceToNat]
      refine c3.qv (by simp) ?_
      simp only [go_sem, Int.reduceEq, Int.reduceLE, Int.reduceLT, Int.reduceToNat]
      refine c4.qd ⟨.same (Res_bl' l), trivial⟩ (Re.d_bl _) ?_
      simp only [go_sem, Int.reduceEq, Int.reduceLE, Int.reduceLT, Int.reduceToNat]
      refine c5.qd ⟨.v, .same (Res_bl' l), trivial⟩ (Re.d_bl _) ?_
      simp only [go_sem, Int.reduceEq, Int.reduceLE, Int.reduceLT, Int.reduceToNat]
      refine c6.qv (by simp) ?_
      simp only [go_sem, Int.reduceEq, Int.reduceLE, Int.reduceLT, Int.reduceToNat]
      refine c7.qd ⟨.same (Re.d_bl _), trivial⟩ (Re.d_bl _) ?_
      simp only [go_sem, Int.reduceEq, Int.reduceLE, Int.reduceLT, Int.reduceToNat]
      refine c8.qv (by simp) ?_
      simp only [go_sem, Int.reduceEq, Int.reduceLE, Int.reduceLT, Int.reduceToNat]
      refine awake8.qv trivial ?_
      simp only [go_sem, Int.reduceEq, Int.reduceLE, Int.reduceLT, Int.reduceToNat]
      exact Fin.v rfl
end Go.Proofs.YtfpfcokhnddddaaGreat.W
