/- A normal form keeps what counts. -/
import Derived.Test.YtfpfcokhnddddaaNull
import Derived.Test.YtfpfcokhnddddaaKeep
set_option linter.unusedVariables false
set_option linter.unusedSimpArgs false
set_option linter.unusedSectionVars false
set_option maxRecDepth 100000
/- The document's first bytes. -/
namespace Go.Proofs.Ytfpfcokhnddddaa.W
open Go Go.Proofs Go.Proofs.Ytfpfcokhnddddaa.AWP
attribute [local irreducible] xl hide aop aops aopQ qops guardP condP

theorem fst_unfit {r : Re} (h : r.nodesOk = true) (hw : r.wd) (hf : r.fit = false) : r.fst = noneS := by
  refine (fst_w r h hw).ext W64.none fun n hn => ?_
  rw [hasB_none n hn, Bool.eq_false_iff]
  intro hh
  rw [hf_fit hn r h hw hh] at hf
  cases hf
theorem Ws4 {a b c d : Int} {om : List Ob} {R : Out → List Ob → Prop} {s : List Int} (e : [a, b, c, d] = s) (hR : R = fun o om' => o = .ret (Ws s) ∧ om' = []) : AWP.Fin [] om (.ret (.agg [wD a, wD b, wD c, wD d])) R := by
  subst hR; subst e
  exact Fin.ret (Cv.same (.agg (W_bl [a, b, c, d])))
theorem rBegins (r : Re) : r.nodesOk = true → r.wd → AP Try.prog 41 [.agg r.c] (Ws r.fst) := by
  refine Re.indOk (p := fun r => r.wd → AP Try.prog 41 [.agg r.c] (Ws r.fst)) ?_ ?_ ?_ ?_ r
  · intro k hk hw
    have hf := rFit (.mk k 0 0 0 0 []) (nodesOk_bare hk)
    rw [fit_leaf] at hf
    rw [fst_leaf k hk]
    refine AC.lbody hT hm Try.func41 f41_nm f41_lc f41_res f41_nt ?_
    rcases hk with rfl | rfl
    · simp only [go_sem, Int.reduceEq, Int.reduceLE, Int.reduceLT, Int.reduceToNat, Re.c_mk, Int.reduceBEq]
      refine hf.pv (by simp [Re.c_mk, Re.cs_eq]) ?_
      have e1 : decide (¬ (1 : Int) = 1) = false := by decide
      simp only [go_sem, Int.reduceEq, Int.reduceLE, Int.reduceLT, Int.reduceToNat, ne_eq, e1, Bool.not_false]
      exact Ws4 (s := noneS) rfl rfl
    · simp only [go_sem, Int.reduceEq, Int.reduceLE, Int.reduceLT, Int.reduceToNat, Re.c_mk, Int.reduceBEq]
      refine hf.pv (by simp [Re.c_mk, Re.cs_eq]) ?_
      have e1 : decide (¬ (2 : Int) = 1) = true := by decide
      have e2 : (((0 : Nat) : Int) == 0) = true := rfl
      simp only [go_sem, Int.reduceEq, Int.reduceLE, Int.reduceLT, Int.reduceToNat, ne_eq, e1, Bool.not_true, List.map_nil, List.length_nil, e2]
      exact Ws4 (s := noneS) rfl rfl
  · intro a b c d hn hw
    rw [fst_cls]
    refine AC.lbody hT hm Try.func41 f41_nm f41_lc f41_res f41_nt ?_
    simp only [go_sem, Int.reduceEq, Int.reduceLE, Int.reduceLT, Int.reduceToNat, Re.c_mk, Int.reduceBEq]
    exact Ws4 (s := [a, b, c, d]) rfl rfl
  · intro k x y hk hx hy ihx ihy hw
    obtain ⟨w1, w2⟩ := wd2 hw
    have hf := rFit (.mk k 0 0 0 0 [x, y]) (nodesOk_two hk hx hy)
    have h1 := ihx w1
    have h2 := ihy w2
    have f1 := fst_w x hx w1
    have f2 := fst_w y hy w2
    have hj := rJoin x.fst y.fst f1 f2
    have l1 := f1.len
    have l2 := f2.len
    have l3 := (f1.joinAll2 f2).len
    have hnu := rNul x hx
    by_cases hfit : (Re.mk k 0 0 0 0 [x, y]).fit = true
    case neg =>
      have hfit' : (Re.mk k 0 0 0 0 [x, y]).fit = false := by simpa using hfit
      have e : (Re.mk k 0 0 0 0 [x, y]).fst = noneS := fst_unfit (nodesOk_two hk hx hy) hw hfit'
      rw [e]
      rw [hfit'] at hf
      refine AC.lbody hT hm Try.func41 f41_nm f41_lc f41_res f41_nt ?_
      rcases hk with rfl | rfl
      all_goals
        simp only [go_sem, Int.reduceEq, Int.reduceLE, Int.reduceLT, Int.reduceToNat, Re.c_mk, Int.reduceBEq]
        refine hf.pv (by simp [Re.c_mk, Re.cs_eq]) ?_
        simp only [go_sem, Int.reduceEq, Int.reduceLE, Int.reduceLT, Int.reduceToNat, Bool.not_false]
        exact Ws4 (s := noneS) rfl rfl
    rw [hfit] at hf
    have hkk : (((2 : Nat) : Int) == 0) = false := rfl
    rcases hk with rfl | rfl
    · have e : (Re.mk 4 0 0 0 0 [x, y]).fst = if x.nul then joinAll [x.fst, y.fst] else x.fst := by
        rw [fst_seq]
        rw [fit_two _ _ _ (.inl rfl), if_pos rfl] at hfit
        rw [if_pos hfit]
      rw [e]
      generalize joinAll [x.fst, y.fst] = J at *
      generalize x.fst = X at *
      generalize y.fst = Y at *
      obtain ⟨j1, j2, j3, j4, rfl⟩ := four l3
      obtain ⟨x1, x2, x3, x4, rfl⟩ := four l1
      obtain ⟨y1, y2, y3, y4, rfl⟩ := four l2
      refine AC.lbody hT hm Try.func41 f41_nm f41_lc f41_res f41_nt ?_
      simp only [go_sem, Int.reduceEq, Int.reduceLE, Int.reduceLT, Int.reduceToNat, Re.c_mk, Int.reduceBEq]
      refine hf.pv (by simp [Re.c_mk, Re.cs_eq]) ?_
      simp only [go_sem, Int.reduceEq, Int.reduceLE, Int.reduceLT, Int.reduceToNat, Bool.not_true, List.map_cons, List.map_nil, List.length_cons, List.length_nil, Nat.reduceAdd, hkk]
      refine h1.pd ⟨.same (Re.d_bl _), trivial⟩ (.agg (W_bl [x1, x2, x3, x4])) ?_
      simp only [go_sem, Int.reduceEq, Int.reduceLE, Int.reduceLT, Int.reduceToNat, Int.reduceBEq]
      refine hnu.pv ⟨.same (Re.d_bl _), trivial⟩ ?_
      cases hn : x.nul with
      | false =>
        simp only [go_sem, Int.reduceEq, Int.reduceLE, Int.reduceLT, Int.reduceToNat]
        exact Ws4 (s := _) (by simp) rfl
      | true =>
        simp only [go_sem, Int.reduceEq, Int.reduceLE, Int.reduceLT, Int.reduceToNat]
        refine h2.qd ⟨.same (Re.d_bl _), trivial⟩ (.agg (W_bl [y1, y2, y3, y4])) ?_
        simp only [go_sem, Int.reduceEq, Int.reduceLE, Int.reduceLT, Int.reduceToNat]
        refine hj.pd ⟨.same (.agg (W_bl [x1, x2, x3, x4])), .same (.agg (W_bl [y1, y2, y3, y4])), trivial⟩ (.agg (W_bl [j1, j2, j3, j4])) ?_
        simp only [go_sem, Int.reduceEq, Int.reduceLE, Int.reduceLT, Int.reduceToNat]
        exact Ws4 (s := _) (by simp) rfl
    · have e : (Re.mk 5 0 0 0 0 [x, y]).fst = joinAll [x.fst, y.fst] := fst_alt x y
      rw [e]
      generalize joinAll [x.fst, y.fst] = J at *
      generalize x.fst = X at *
      generalize y.fst = Y at *
      obtain ⟨j1, j2, j3, j4, rfl⟩ := four l3
      obtain ⟨x1, x2, x3, x4, rfl⟩ := four l1
      obtain ⟨y1, y2, y3, y4, rfl⟩ := four l2
      refine AC.lbody hT hm Try.func41 f41_nm f41_lc f41_res f41_nt ?_
      simp only [go_sem, Int.reduceEq, Int.reduceLE, Int.reduceLT, Int.reduceToNat, Re.c_mk, Int.reduceBEq]
      refine hf.pv (by simp [Re.c_mk, Re.cs_eq]) ?_
      simp only [go_sem, Int.reduceEq, Int.reduceLE, Int.reduceLT, Int.reduceToNat, Bool.not_true, List.map_cons, List.map_nil, List.length_cons, List.length_nil, Nat.reduceAdd, hkk]
      refine h1.pd ⟨.same (Re.d_bl _), trivial⟩ (.agg (W_bl [x1, x2, x3, x4])) ?_
      simp only [go_sem, Int.reduceEq, Int.reduceLE, Int.reduceLT, Int.reduceToNat, Int.reduceBEq]
      refine h2.qd ⟨.same (Re.d_bl _), trivial⟩ (.agg (W_bl [y1, y2, y3, y4])) ?_
      simp only [go_sem, Int.reduceEq, Int.reduceLE, Int.reduceLT, Int.reduceToNat]
      refine hj.pd ⟨.same (.agg (W_bl [x1, x2, x3, x4])), .same (.agg (W_bl [y1, y2, y3, y4])), trivial⟩ (.agg (W_bl [j1, j2, j3, j4])) ?_
      simp only [go_sem, Int.reduceEq, Int.reduceLE, Int.reduceLT, Int.reduceToNat]
      exact Ws4 (s := _) (by simp) rfl
  · intro x hx ih hw
    have w1 := wd1 hw
    have hf := rFit (.mk 6 0 0 0 0 [x]) (nodesOk_star hx)
    rw [fit_star] at hf
    have h1 := ih w1
    have l1 := (fst_w x hx w1).len
    rw [fst_star]
    generalize x.fst = X at *
    obtain ⟨x1, x2, x3, x4, rfl⟩ := four l1
    have hkk : (((1 : Nat) : Int) == 0) = false := rfl
    refine AC.lbody hT hm Try.func41 f41_nm f41_lc f41_res f41_nt ?_
    simp only [go_sem, Int.reduceEq, Int.reduceLE, Int.reduceLT, Int.reduceToNat, Re.c_mk, Int.reduceBEq]
    refine hf.pv (by simp [Re.c_mk, Re.cs_eq]) ?_
    simp only [go_sem, Int.reduceEq, Int.reduceLE, Int.reduceLT, Int.reduceToNat, Bool.not_true, List.map_cons, List.map_nil, List.length_cons, List.length_nil, Nat.reduceAdd, hkk]
    refine h1.pd ⟨.same (Re.d_bl _), trivial⟩ (.agg (W_bl [x1, x2, x3, x4])) ?_
    simp only [go_sem, Int.reduceEq, Int.reduceLE, Int.reduceLT, Int.reduceToNat, Int.reduceBEq]
    exact Ws4 (s := _) (by simp) rfl
theorem rFirst (r : Re) (hz : r.sz ≤ 1099511627776) (hw : r.wd) : AP Try.prog 21 [.agg r.c] (Ws (firB r)) := by
  have hmy := rMay r hz
  have hl : r.fst.length = 4 := fst_len r
  unfold firB
  rcases mayCase r with h | h
  · rw [h]
    rw [h] at hmy
    refine AC.lbody hT hm Try.func21 f21_nm f21_lc f21_res f21_nt ?_
    simp only [go_sem, Int.reduceEq, Int.reduceLE, Int.reduceLT, Int.reduceToNat]
    refine hmy.pv (by simp) ?_
    simp only [go_sem, Int.reduceEq, Int.reduceLE, Int.reduceLT, Int.reduceToNat, Bool.not_false]
    exact Ws4 (s := _) (by simp [noneS]) rfl
  · have hb := rBegins r (mayZ h).1 hw
    rw [h, if_pos rfl]
    rw [h] at hmy
    generalize r.fst = X at *
    obtain ⟨x1, x2, x3, x4, rfl⟩ := four hl
    refine AC.lbody hT hm Try.func21 f21_nm f21_lc f21_res f21_nt ?_
    simp only [go_sem, Int.reduceEq, Int.reduceLE, Int.reduceLT, Int.reduceToNat]
    refine hmy.pv (by simp) ?_
    simp only [go_sem, Int.reduceEq, Int.reduceLE, Int.reduceLT, Int.reduceToNat, Bool.not_true]
    refine hb.pd ⟨.same (Re.d_bl _), trivial⟩ (.agg (W_bl [x1, x2, x3, x4])) ?_
    simp only [go_sem, Int.reduceEq, Int.reduceLE, Int.reduceLT, Int.reduceToNat]
    exact Ws4 (s := _) (by simp) rfl
end Go.Proofs.Ytfpfcokhnddddaa.W

set_option maxRecDepth 100000
/- A normal form keeps what counts. -/
namespace Go.Proofs.Ytfpfcokhnddddaa.W
open Go Go.Proofs Go.Proofs.Ytfpfcokhnddddaa.AWP
attribute [local irreducible] xl hide aop aops aopQ qops guardP condP

theorem normKeeps (r : Re) (hz : r.sz ≤ 1048576) (hw : r.wd) : AP Try.prog 5 [.agg r.c] (.b true) := by
  have hmy := rMay r (by omega)
  rcases mayCase r with h | h
  · rw [h] at hmy
    refine AC.lbody hT hm Try.func5 f5_nm f5_lc f5_res f5_nt ?_
    simp only [go_sem, Int.reduceEq, Int.reduceLE, Int.reduceLT, Int.reduceToNat]
    refine (great 200 r).pv (by simp) ?_
    by_cases hg : 200 < r.cnt 200
    · simp only [go_sem, Int.reduceEq, Int.reduceLE, Int.reduceLT, Int.reduceToNat, hg]
      refine awake8.pv trivial ?_
      simp only [go_sem, Int.reduceEq, Int.reduceLE, Int.reduceLT, Int.reduceToNat]
      exact Fin.v rfl
    · simp only [go_sem, Int.reduceEq, Int.reduceLE, Int.reduceLT, Int.reduceToNat, hg]
      refine hmy.pv (by simp) ?_
      simp only [go_sem, Int.reduceEq, Int.reduceLE, Int.reduceLT, Int.reduceToNat, Bool.not_false]
      refine awake8.pv trivial ?_
      simp only [go_sem, Int.reduceEq, Int.reduceLE, Int.reduceLT, Int.reduceToNat]
      exact Fin.v rfl
  obtain ⟨hok, h2000⟩ := mayZ h
  have xok := nrm_ok r hok
  have xwd := nrm_wd r hok hw
  have xN := nrm_N r hok
  have xsz := nrm_sz r hok
  have xself := nrm_own r hok hw
  have xnul := nrm_nul r hok hw
  have xfit := nrm_fit r hok hw
  have xfst := nrm_fst r hok hw
  have hn := nNormZ r hz
  rw [show nrmZ r = r.nrm from if_pos h] at hn
  generalize r.nrm = x at *
  have xm : mayB x = true := by unfold mayB; rw [xok, decide_eq_true (by omega)]; rfl
  have c1 := nIs [x] (by simp) (by intro y hy; rw [List.mem_singleton.1 hy]; omega)
  rw [show [x].all isB1 = true by simp [isB1, xm, xself, Re.same_self]] at c1
  have c2 := nNormZ x (by omega)
  rw [show nrmZ x = x by rw [nrmZ, if_pos xm, xself]] at c2
  have c3 := same x x
  rw [Re.same_self] at c3
  have c4 := size [x] (by rw [Re.szs, Re.szs]; omega)
  have c5 := size [r] (by rw [Re.szs, Re.szs]; omega)
  rw [show Re.szs [x] = x.sz by rw [Re.szs, Re.szs]; rfl] at c4
  rw [show Re.szs [r] = r.sz by rw [Re.szs, Re.szs]; rfl] at c5
  have c6 := nullNull1 x (by omega)
  have c7 := rNull r (by omega)
  have e67 : nulB x = nulB r := by unfold nulB; rw [xm, h, xnul]
  rw [e67] at c6
  have c8 := nullVoid1 x (by omega)
  have c9 := rVoid r (by omega)
  have e89 : voidB x = voidB r := by unfold voidB; rw [xm, h, xfit]
  rw [e89] at c8
  have d1 := nullFirst x (by omega)
  have d2 := rFirst r (by omega) hw
  have ed : firB x = firB r := by unfold firB; rw [xm, h, xfst]
  rw [ed] at d1
  have ek : (x.kd == 1) = voidB r := by
    have := N_fit x xok xN
    rw [xfit] at this
    unfold voidB
    rw [h, Bool.true_and]
    cases hf : r.fit with
    | false => rw [this.1 hf]; rfl
    | true => exact beq_false fun e => by rw [this.2 e] at hf; cases hf
  have hx0 := c_0 x
  have hlen := firB_len r
  generalize firB r = S at *
  obtain ⟨s1, s2, s3, s4, rfl⟩ := four hlen
  have gt : ¬ (r.sz : Int) < x.sz := by omega
  rw [h] at hmy
  generalize nulB r = bn at *
  generalize voidB r = bv at *
  refine AC.lbody hT hm Try.func5 f5_nm f5_lc f5_res f5_nt ?_
  simp only [go_sem, Int.reduceEq, Int.reduceLE, Int.reduceLT, Int.reduceToNat]
  refine (great 200 r).pv (by simp) ?_
  by_cases hg : 200 < r.cnt 200
  · simp only [go_sem, Int.reduceEq, Int.reduceLE, Int.reduceLT, Int.reduceToNat, hg]
    refine awake8.pv trivial ?_
    simp only [go_sem, Int.reduceEq, Int.reduceLE, Int.reduceLT, Int.reduceToNat]
    exact Fin.v rfl
  simp only [go_sem, Int.reduceEq, Int.reduceLE, Int.reduceLT, Int.reduceToNat, hg]
  refine hmy.pv (by simp) ?_
  simp only [go_sem, Int.reduceEq, Int.reduceLE, Int.reduceLT, Int.reduceToNat, Bool.not_true]
  refine hn.pd ⟨.same (Re.d_bl _), trivial⟩ (Re.d_bl _) ?_
  simp only [go_sem, Int.reduceEq, Int.reduceLE, Int.reduceLT, Int.reduceToNat]
  refine c1.qv ⟨.same (Res_bl' [x]), trivial⟩ ?_
  simp only [go_sem, Int.reduceEq, Int.reduceLE, Int.reduceLT, Int.reduceToNat, Bool.not_true]
  refine c2.qd ⟨.same (Re.d_bl _), trivial⟩ (Re.d_bl _) ?_
  simp only [go_sem, Int.reduceEq, Int.reduceLE, Int.reduceLT, Int.reduceToNat]
  refine c3.qv (by simp) ?_
  simp only [go_sem, Int.reduceEq, Int.reduceLE, Int.reduceLT, Int.reduceToNat, Bool.not_true]
  refine c4.qv ⟨.same (Res_bl' [x]), trivial⟩ ?_
  simp only [go_sem, Int.reduceEq, Int.reduceLE, Int.reduceLT, Int.reduceToNat]
  refine c5.pv ⟨.same (Res_bl' [r]), trivial⟩ ?_
  simp only [go_sem, Int.reduceEq, Int.reduceLE, Int.reduceLT, Int.reduceToNat, gt]
  refine c6.qv ⟨.same (by simp), trivial⟩ ?_
  simp only [go_sem, Int.reduceEq, Int.reduceLE, Int.reduceLT, Int.reduceToNat]
  refine c7.qv ⟨.same (Re.d_bl _), trivial⟩ ?_
  simp only [go_sem, Int.reduceEq, Int.reduceLE, Int.reduceLT, Int.reduceToNat, beq_self_eq_true]
  refine c8.qv ⟨.same (by simp), trivial⟩ ?_
  simp only [go_sem, Int.reduceEq, Int.reduceLE, Int.reduceLT, Int.reduceToNat]
  refine c9.qv ⟨.same (Re.d_bl _), trivial⟩ ?_
  simp only [go_sem, Int.reduceEq, Int.reduceLE, Int.reduceLT, Int.reduceToNat, beq_self_eq_true]
  refine d1.qd ⟨.same (Re.d_bl _), trivial⟩ (.agg (W_bl [s1, s2, s3, s4])) ?_
  simp only [go_sem, Int.reduceEq, Int.reduceLE, Int.reduceLT, Int.reduceToNat]
  refine d2.qd ⟨.same (Re.d_bl _), trivial⟩ (.agg (W_bl [s1, s2, s3, s4])) ?_
  simp only [go_sem, Int.reduceEq, Int.reduceLE, Int.reduceLT, Int.reduceToNat, wD_eq, intsEq, beq_self_eq_true, Bool.and_self, hx0, ek]
  refine c9.qv ⟨.same (Re.d_bl _), trivial⟩ ?_
  simp only [go_sem, Int.reduceEq, Int.reduceLE, Int.reduceLT, Int.reduceToNat, beq_self_eq_true]
  refine awake8.qv trivial ?_
  simp only [go_sem, Int.reduceEq, Int.reduceLE, Int.reduceLT, Int.reduceToNat]
  exact Fin.v rfl
end Go.Proofs.Ytfpfcokhnddddaa.W
