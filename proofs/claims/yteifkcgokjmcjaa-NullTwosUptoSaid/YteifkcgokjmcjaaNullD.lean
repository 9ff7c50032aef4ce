/- Of two behind one another, of one of two, and of one as often as one likes, it is told by the two. -/
import Derived.Test.YteifkcgokjmcjaaNullC
set_option linter.unusedVariables false
set_option linter.unusedSimpArgs false
set_option linter.unusedSectionVars false
set_option maxRecDepth 100000
/- Of two behind one another, of one of two, and of one as often as one likes, it is told by the two. -/
namespace Go.Proofs.Yteifkcgokjmcjaa.W
open Go Go.Proofs Go.Proofs.Yteifkcgokjmcjaa.AWP
attribute [local irreducible] xl hide aop aops aopQ qops guardP condP

theorem may_two {k : Int} (hk : k = 4 ∨ k = 5) {a b : Re} (ha : mayB a = true) (hb : mayB b = true) (hza : a.sz ≤ 200) (hzb : b.sz ≤ 200) : mayB (.mk k 0 0 0 0 [a, b]) = true := by
  have h1 := mayB_ok ha
  have h2 := mayB_ok hb
  unfold mayB
  rw [Bool.and_eq_true, decide_eq_true_eq]
  refine ⟨?_, by simp only [Re.sz, Re.szs]; omega⟩
  rw [Re.nodesOk, Re.nodesOks, Re.nodesOks, Re.nodesOks, h1, h2]
  rcases hk with rfl | rfl <;> rfl
theorem may_many {a : Re} (ha : mayB a = true) (hza : a.sz ≤ 200) : mayB (.mk 6 0 0 0 0 [a]) = true := by
  have h1 := mayB_ok ha
  unfold mayB
  rw [Bool.and_eq_true, decide_eq_true_eq]
  refine ⟨?_, by simp only [Re.sz, Re.szs]; omega⟩
  rw [Re.nodesOk, Re.nodesOks, Re.nodesOks, h1]
  rfl

set_option maxHeartbeats 1000000 in
theorem nullTwos (a b : Re) (hza : a.sz ≤ 1048576) (hzb : b.sz ≤ 1048576) : AP Try.prog 9 [.agg a.c, .agg b.c] (.b true) := by
  refine AC.lbody hT hm Try.func9 f9_nm f9_lc f9_res f9_nt ?_
  simp only [go_sem, Int.reduceEq, Int.reduceLE, Int.reduceLT, Int.reduceToNat]
  refine (great 60 a).pv ⟨.same (Re.d_bl _), .v, trivial⟩ ?_
  by_cases hga : 60 < a.cnt 60
  · simp only [go_sem, Int.reduceEq, Int.reduceLE, Int.reduceLT, Int.reduceToNat, hga]
    refine awake7.pv trivial ?_
    simp only [go_sem, Int.reduceEq, Int.reduceLE, Int.reduceLT, Int.reduceToNat]
    exact Fin.v rfl
  simp only [go_sem, Int.reduceEq, Int.reduceLE, Int.reduceLT, Int.reduceToNat, hga]
  refine (great 60 b).pv ⟨.same (Re.d_bl _), .v, trivial⟩ ?_
  by_cases hgb : 60 < b.cnt 60
  · simp only [go_sem, Int.reduceEq, Int.reduceLE, Int.reduceLT, Int.reduceToNat, hgb]
    refine awake7.pv trivial ?_
    simp only [go_sem, Int.reduceEq, Int.reduceLE, Int.reduceLT, Int.reduceToNat]
    exact Fin.v rfl
  simp only [go_sem, Int.reduceEq, Int.reduceLE, Int.reduceLT, Int.reduceToNat, hgb]
  have ea := cnt_sz 60 (by omega) a (by omega) (by omega)
  have eb := cnt_sz 60 (by omega) b (by omega) (by omega)
  have sa : a.sz ≤ 60 := by omega
  have sb : b.sz ≤ 60 := by omega
  refine (rMay a (by omega)).pv ⟨.same (Re.d_bl _), trivial⟩ ?_
  cases hma : mayB a
  · simp only [go_sem, Int.reduceEq, Int.reduceLE, Int.reduceLT, Int.reduceToNat, Bool.not_false]
    refine awake7.pv trivial ?_
    simp only [go_sem, Int.reduceEq, Int.reduceLE, Int.reduceLT, Int.reduceToNat]
    exact Fin.v rfl
  simp only [go_sem, Int.reduceEq, Int.reduceLE, Int.reduceLT, Int.reduceToNat, Bool.not_true]
  refine (rMay b (by omega)).pv ⟨.same (Re.d_bl _), trivial⟩ ?_
  cases hmb : mayB b
  · simp only [go_sem, Int.reduceEq, Int.reduceLE, Int.reduceLT, Int.reduceToNat, Bool.not_false]
    refine awake7.pv trivial ?_
    simp only [go_sem, Int.reduceEq, Int.reduceLE, Int.reduceLT, Int.reduceToNat]
    exact Fin.v rfl
  simp only [go_sem, Int.reduceEq, Int.reduceLE, Int.reduceLT, Int.reduceToNat, Bool.not_true, ne_eq, reduceCtorEq, not_false_eq_true, implies_true]
  have ad : ∀ (d : Nat) (os : List LOp) (s : St), adopt T (⟨some d, .alloc 28, none⟩ :: os) s = adopt T os ⟨putE s.env (some d) (.ref s.om.length 0), s.om ++ [.var 28 (zeroD ti28)]⟩ := fun d os s => AD_al T28
  refine (mkTwo 4 a b).qd ⟨.v, .same (Re.d_bl _), .same (Re.d_bl _), trivial⟩ (Re.d_bl _) ?_
  simp only [go_sem, Int.reduceEq, Int.reduceLE, Int.reduceLT, Int.reduceToNat, ne_eq, reduceCtorEq, not_false_eq_true, implies_true]
  refine (mkTwo 5 a b).qd ⟨.v, .same (Re.d_bl _), .same (Re.d_bl _), trivial⟩ (Re.d_bl _) ?_
  simp only [go_sem, Int.reduceEq, Int.reduceLE, Int.reduceLT, Int.reduceToNat, ne_eq, reduceCtorEq, not_false_eq_true, implies_true]
  refine (many a).qd ⟨.same (Re.d_bl _), trivial⟩ (Re.d_bl _) ?_
  simp only [go_sem, Int.reduceEq, Int.reduceLE, Int.reduceLT, Int.reduceToNat, ne_eq, reduceCtorEq, not_false_eq_true, implies_true, ad]
  have m4 := may_two (.inl rfl) hma hmb (by omega) (by omega)
  have m5 := may_two (.inr rfl) hma hmb (by omega) (by omega)
  have m6 := may_many hma (by omega)
  have z4 : (Re.mk 4 0 0 0 0 [a, b]).sz ≤ 1099511627776 := by simp only [Re.sz, Re.szs]; omega
  have z5 : (Re.mk 5 0 0 0 0 [a, b]).sz ≤ 1099511627776 := by simp only [Re.sz, Re.szs]; omega
  have z6 : (Re.mk 6 0 0 0 0 [a]).sz ≤ 1099511627776 := by simp only [Re.sz, Re.szs]; omega
  have na := nullNull1 a (by omega)
  have nb := nullNull1 b (by omega)
  have n4 := nullNull1 _ z4
  have n5 := nullNull1 _ z5
  have n6 := nullNull1 _ z6
  have va := nullVoid1 a (by omega)
  have vb := nullVoid1 b (by omega)
  have v4 := nullVoid1 _ z4
  have v5 := nullVoid1 _ z5
  have v6 := nullVoid1 _ z6
  have fa := nullFirst a (by omega)
  have fb := nullFirst b (by omega)
  have f5 := nullFirst _ z5
  have f6 := nullFirst _ z6
  have e4 : nulB (.mk 4 0 0 0 0 [a, b]) = (nulB a && nulB b) := by unfold nulB; rw [m4, hma, hmb]; simp [Re.nul]
  have e5 : nulB (.mk 5 0 0 0 0 [a, b]) = (nulB a || nulB b) := by unfold nulB; rw [m5, hma, hmb]; simp [Re.nul]
  have e6 : nulB (.mk 6 0 0 0 0 [a]) = true := by unfold nulB; rw [m6]; simp [Re.nul]
  have w4 : voidB (.mk 4 0 0 0 0 [a, b]) = (voidB a || voidB b) := by unfold voidB; rw [m4, hma, hmb]; simp [Re.fit, Bool.not_and]
  have w5 : voidB (.mk 5 0 0 0 0 [a, b]) = (voidB a && voidB b) := by unfold voidB; rw [m5, hma, hmb]; simp [Re.fit, Bool.not_or]
  have w6 : voidB (.mk 6 0 0 0 0 [a]) = false := by unfold voidB; rw [m6]; simp [Re.fit]
  have g5 : firB (.mk 5 0 0 0 0 [a, b]) = joinAll [firB a, firB b] := by unfold firB; rw [if_pos m5, if_pos hma, if_pos hmb]; simp [Re.fst]
  have g6 : firB (.mk 6 0 0 0 0 [a]) = firB a := by unfold firB; rw [if_pos m6, if_pos hma]; simp [Re.fst]
  rw [e4] at n4
  rw [e5] at n5
  rw [e6] at n6
  rw [w4] at v4
  rw [w5] at v5
  rw [w6] at v6
  rw [g5] at f5
  rw [g6] at f6
  have la := firB_len a
  have lb := firB_len b
  generalize nulB a = x at na n4 n5
  generalize nulB b = y at nb n4 n5
  generalize voidB a = p at va v4 v5
  generalize voidB b = q at vb v4 v5
  generalize firB a = wa at fa f5 f6 la
  generalize firB b = wb at fb f5 lb
  have lj : (joinAll [wa, wb]).length = 4 := joinAll_len (by intro z hz; rcases List.mem_cons.1 hz with rfl | hz; exact la; rw [List.mem_singleton.1 hz]; exact lb)
  have sj := setJoin [wa, wb] (by simp) (by intro z hz; rcases List.mem_cons.1 hz with rfl | hz; exact la; rw [List.mem_singleton.1 hz]; exact lb)
  have q1 := intsEq_W (joinAll [wa, wb]) (joinAll [wa, wb]) rfl
  have q2 := intsEq_W wa wa rfl
  rw [decide_eq_true rfl] at q1 q2
  refine na.qv ⟨.same (by simp), trivial⟩ ?_
  simp only [go_sem, Int.reduceEq, Int.reduceLE, Int.reduceLT, Int.reduceToNat]
  refine nb.pv ⟨.same (by simp), trivial⟩ ?_
  simp only [go_sem, Int.reduceEq, Int.reduceLE, Int.reduceLT, Int.reduceToNat]
  have c4 : D.sl 6 [(Re.mk 4 0 0 0 0 [a, b]).c] = .sl 6 [[.v (.int .u8 4), .v (.int .u64 0), .v (.int .u64 0), .v (.int .u64 0), .v (.int .u64 0), .sl 6 [a.c, b.c]]] := by simp [Re.c_mk, Re.cs_eq]
  have c5 : D.sl 6 [(Re.mk 5 0 0 0 0 [a, b]).c] = .sl 6 [[.v (.int .u8 5), .v (.int .u64 0), .v (.int .u64 0), .v (.int .u64 0), .v (.int .u64 0), .sl 6 [a.c, b.c]]] := by simp [Re.c_mk, Re.cs_eq]
  have c6 : D.sl 6 [(Re.mk 6 0 0 0 0 [a]).c] = .sl 6 [[.v (.int .u8 6), .v (.int .u64 0), .v (.int .u64 0), .v (.int .u64 0), .v (.int .u64 0), .sl 6 [a.c]]] := by simp [Re.c_mk, Re.cs_eq]
  rw [c4] at n4 v4
  rw [c5] at n5 v5
  rw [c6] at n6 v6
  refine n4.qv ⟨.same (by simp), trivial⟩ ?_
  cases x
  all_goals
    simp only [go_sem, Int.reduceEq, Int.reduceLE, Int.reduceLT, Int.reduceToNat, Bool.false_and, Bool.true_and, bne_self_eq_false]
    refine n5.qv ⟨.same (by simp), trivial⟩ ?_
    simp only [go_sem, Int.reduceEq, Int.reduceLE, Int.reduceLT, Int.reduceToNat, Bool.false_or, Bool.true_or, bne_self_eq_false]
    refine n6.qv ⟨.same (by simp), trivial⟩ ?_
    simp only [go_sem, Int.reduceEq, Int.reduceLE, Int.reduceLT, Int.reduceToNat, Bool.not_true]
    refine v4.qv ⟨.same (by simp), trivial⟩ ?_
    simp only [go_sem, Int.reduceEq, Int.reduceLE, Int.reduceLT, Int.reduceToNat]
    refine va.qv ⟨.same (by simp), trivial⟩ ?_
  · cases p
    · simp only [go_sem, Int.reduceEq, Int.reduceLE, Int.reduceLT, Int.reduceToNat, Bool.false_or, bne_self_eq_false]
      refine vb.qv ⟨.same (by simp), trivial⟩ ?_
      simp only [go_sem, Int.reduceEq, Int.reduceLE, Int.reduceLT, Int.reduceToNat, Bool.false_or, bne_self_eq_false]
      refine v5.qv ⟨.same (by simp), trivial⟩ ?_
      simp only [go_sem, Int.reduceEq, Int.reduceLE, Int.reduceLT, Int.reduceToNat, Bool.false_and, bne_self_eq_false]
      refine va.qv ⟨.same (by simp), trivial⟩ ?_
      simp only [go_sem, Int.reduceEq, Int.reduceLE, Int.reduceLT, Int.reduceToNat, Bool.false_and, bne_self_eq_false]
      refine v6.qv ⟨.same (by simp), trivial⟩ ?_
      simp only [go_sem, Int.reduceEq, Int.reduceLE, Int.reduceLT, Int.reduceToNat]
      refine f5.qd ⟨.eq (by simp [Re.c_mk, Re.cs_eq]) (by simp), trivial⟩ (.agg (W_bl _)) ?_
      simp only [go_sem, Int.reduceEq, Int.reduceLE, Int.reduceLT, Int.reduceToNat]
      refine fa.qd ⟨.same (Re.d_bl _), trivial⟩ (.agg (W_bl _)) ?_
      simp only [go_sem, Int.reduceEq, Int.reduceLE, Int.reduceLT, Int.reduceToNat]
      refine fb.qd ⟨.same (Re.d_bl _), trivial⟩ (.agg (W_bl _)) ?_
      simp only [go_sem, Int.reduceEq, Int.reduceLE, Int.reduceLT, Int.reduceToNat, la, lb]
      refine sj.qd ⟨.same (.sl (Wss_bl [wa, wb])), trivial⟩ (.agg (W_bl _)) ?_
      simp only [go_sem, Int.reduceEq, Int.reduceLE, Int.reduceLT, Int.reduceToNat, lj, q1]
      refine f6.qd ⟨.eq (by simp [Re.c_mk, Re.cs_eq]) (by simp), trivial⟩ (.agg (W_bl _)) ?_
      simp only [go_sem, Int.reduceEq, Int.reduceLE, Int.reduceLT, Int.reduceToNat]
      refine fa.qd ⟨.same (Re.d_bl _), trivial⟩ (.agg (W_bl _)) ?_
      simp only [go_sem, Int.reduceEq, Int.reduceLE, Int.reduceLT, Int.reduceToNat, la, q2]
      refine awake7.qv trivial ?_
      simp only [go_sem, Int.reduceEq, Int.reduceLE, Int.reduceLT, Int.reduceToNat]
      exact Fin.v rfl
    · simp only [go_sem, Int.reduceEq, Int.reduceLE, Int.reduceLT, Int.reduceToNat, Bool.true_or, bne_self_eq_false]
      refine v5.qv ⟨.same (by simp), trivial⟩ ?_
      simp only [go_sem, Int.reduceEq, Int.reduceLE, Int.reduceLT, Int.reduceToNat, Bool.true_and, bne_self_eq_false]
      refine va.qv ⟨.same (by simp), trivial⟩ ?_
      simp only [go_sem, Int.reduceEq, Int.reduceLE, Int.reduceLT, Int.reduceToNat, Bool.true_and, bne_self_eq_false]
      refine vb.qv ⟨.same (by simp), trivial⟩ ?_
      simp only [go_sem, Int.reduceEq, Int.reduceLE, Int.reduceLT, Int.reduceToNat, Bool.true_and, bne_self_eq_false]
      refine v6.qv ⟨.same (by simp), trivial⟩ ?_
      simp only [go_sem, Int.reduceEq, Int.reduceLE, Int.reduceLT, Int.reduceToNat]
      refine f5.qd ⟨.eq (by simp [Re.c_mk, Re.cs_eq]) (by simp), trivial⟩ (.agg (W_bl _)) ?_
      simp only [go_sem, Int.reduceEq, Int.reduceLE, Int.reduceLT, Int.reduceToNat]
      refine fa.qd ⟨.same (Re.d_bl _), trivial⟩ (.agg (W_bl _)) ?_
      simp only [go_sem, Int.reduceEq, Int.reduceLE, Int.reduceLT, Int.reduceToNat]
      refine fb.qd ⟨.same (Re.d_bl _), trivial⟩ (.agg (W_bl _)) ?_
      simp only [go_sem, Int.reduceEq, Int.reduceLE, Int.reduceLT, Int.reduceToNat, la, lb]
      refine sj.qd ⟨.same (.sl (Wss_bl [wa, wb])), trivial⟩ (.agg (W_bl _)) ?_
      simp only [go_sem, Int.reduceEq, Int.reduceLE, Int.reduceLT, Int.reduceToNat, lj, q1]
      refine f6.qd ⟨.eq (by simp [Re.c_mk, Re.cs_eq]) (by simp), trivial⟩ (.agg (W_bl _)) ?_
      simp only [go_sem, Int.reduceEq, Int.reduceLE, Int.reduceLT, Int.reduceToNat]
      refine fa.qd ⟨.same (Re.d_bl _), trivial⟩ (.agg (W_bl _)) ?_
      simp only [go_sem, Int.reduceEq, Int.reduceLE, Int.reduceLT, Int.reduceToNat, la, q2]
      refine awake7.qv trivial ?_
      simp only [go_sem, Int.reduceEq, Int.reduceLE, Int.reduceLT, Int.reduceToNat]
      exact Fin.v rfl
  · cases p
    · simp only [go_sem, Int.reduceEq, Int.reduceLE, Int.reduceLT, Int.reduceToNat, Bool.false_or, bne_self_eq_false]
      refine vb.qv ⟨.same (by simp), trivial⟩ ?_
      simp only [go_sem, Int.reduceEq, Int.reduceLE, Int.reduceLT, Int.reduceToNat, Bool.false_or, bne_self_eq_false]
      refine v5.qv ⟨.same (by simp), trivial⟩ ?_
      simp only [go_sem, Int.reduceEq, Int.reduceLE, Int.reduceLT, Int.reduceToNat, Bool.false_and, bne_self_eq_false]
      refine va.qv ⟨.same (by simp), trivial⟩ ?_
      simp only [go_sem, Int.reduceEq, Int.reduceLE, Int.reduceLT, Int.reduceToNat, Bool.false_and, bne_self_eq_false]
      refine v6.qv ⟨.same (by simp), trivial⟩ ?_
      simp only [go_sem, Int.reduceEq, Int.reduceLE, Int.reduceLT, Int.reduceToNat]
      refine f5.qd ⟨.eq (by simp [Re.c_mk, Re.cs_eq]) (by simp), trivial⟩ (.agg (W_bl _)) ?_
      simp only [go_sem, Int.reduceEq, Int.reduceLE, Int.reduceLT, Int.reduceToNat]
      refine fa.qd ⟨.same (Re.d_bl _), trivial⟩ (.agg (W_bl _)) ?_
      simp only [go_sem, Int.reduceEq, Int.reduceLE, Int.reduceLT, Int.reduceToNat]
      refine fb.qd ⟨.same (Re.d_bl _), trivial⟩ (.agg (W_bl _)) ?_
      simp only [go_sem, Int.reduceEq, Int.reduceLE, Int.reduceLT, Int.reduceToNat, la, lb]
      refine sj.qd ⟨.same (.sl (Wss_bl [wa, wb])), trivial⟩ (.agg (W_bl _)) ?_
      simp only [go_sem, Int.reduceEq, Int.reduceLE, Int.reduceLT, Int.reduceToNat, lj, q1]
      refine f6.qd ⟨.eq (by simp [Re.c_mk, Re.cs_eq]) (by simp), trivial⟩ (.agg (W_bl _)) ?_
      simp only [go_sem, Int.reduceEq, Int.reduceLE, Int.reduceLT, Int.reduceToNat]
      refine fa.qd ⟨.same (Re.d_bl _), trivial⟩ (.agg (W_bl _)) ?_
      simp only [go_sem, Int.reduceEq, Int.reduceLE, Int.reduceLT, Int.reduceToNat, la, q2]
      refine awake7.qv trivial ?_
      simp only [go_sem, Int.reduceEq, Int.reduceLE, Int.reduceLT, Int.reduceToNat]
      exact Fin.v rfl
    · simp only [go_sem, Int.reduceEq, Int.reduceLE, Int.reduceLT, Int.reduceToNat, Bool.true_or, bne_self_eq_false]
      refine v5.qv ⟨.same (by simp), trivial⟩ ?_
      simp only [go_sem, Int.reduceEq, Int.reduceLE, Int.reduceLT, Int.reduceToNat, Bool.true_and, bne_self_eq_false]
      refine va.qv ⟨.same (by simp), trivial⟩ ?_
      simp only [go_sem, Int.reduceEq, Int.reduceLE, Int.reduceLT, Int.reduceToNat, Bool.true_and, bne_self_eq_false]
      refine vb.qv ⟨.same (by simp), trivial⟩ ?_
      simp only [go_sem, Int.reduceEq, Int.reduceLE, Int.reduceLT, Int.reduceToNat, Bool.true_and, bne_self_eq_false]
      refine v6.qv ⟨.same (by simp), trivial⟩ ?_
      simp only [go_sem, Int.reduceEq, Int.reduceLE, Int.reduceLT, Int.reduceToNat]
      refine f5.qd ⟨.eq (by simp [Re.c_mk, Re.cs_eq]) (by simp), trivial⟩ (.agg (W_bl _)) ?_
      simp only [go_sem, Int.reduceEq, Int.reduceLE, Int.reduceLT, Int.reduceToNat]
      refine fa.qd ⟨.same (Re.d_bl _), trivial⟩ (.agg (W_bl _)) ?_
      simp only [go_sem, Int.reduceEq, Int.reduceLE, Int.reduceLT, Int.reduceToNat]
      refine fb.qd ⟨.same (Re.d_bl _), trivial⟩ (.agg (W_bl _)) ?_
      simp only [go_sem, Int.reduceEq, Int.reduceLE, Int.reduceLT, Int.reduceToNat, la, lb]
      refine sj.qd ⟨.same (.sl (Wss_bl [wa, wb])), trivial⟩ (.agg (W_bl _)) ?_
      simp only [go_sem, Int.reduceEq, Int.reduceLE, Int.reduceLT, Int.reduceToNat, lj, q1]
      refine f6.qd ⟨.eq (by simp [Re.c_mk, Re.cs_eq]) (by simp), trivial⟩ (.agg (W_bl _)) ?_
      simp only [go_sem, Int.reduceEq, Int.reduceLE, Int.reduceLT, Int.reduceToNat]
      refine fa.qd ⟨.same (Re.d_bl _), trivial⟩ (.agg (W_bl _)) ?_
      simp only [go_sem, Int.reduceEq, Int.reduceLE, Int.reduceLT, Int.reduceToNat, la, q2]
      refine awake7.qv trivial ?_
      simp only [go_sem, Int.reduceEq, Int.reduceLE, Int.reduceLT, Int.reduceToNat]
      exact Fin.v rfl
end Go.Proofs.Yteifkcgokjmcjaa.W
