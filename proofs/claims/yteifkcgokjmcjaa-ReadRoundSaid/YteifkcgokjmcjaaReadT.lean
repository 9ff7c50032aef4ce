/- A text in round brackets is read as it is alone; two with a bar between as one of both. -/
import Derived.Test.YteifkcgokjmcjaaReadB
set_option linter.unusedVariables false
set_option linter.unusedSimpArgs false
set_option linter.unusedSectionVars false
set_option maxRecDepth 100000
/- A text in round brackets is read as it is alone; two with a bar between as one of both. -/
namespace Go.Proofs.Yteifkcgokjmcjaa.W
open Go Go.Proofs Go.Proofs.Yteifkcgokjmcjaa.AWP
attribute [local irreducible] xl hide aop aops aopQ qops guardP condP

theorem readRound (s t : ByteArray) : AP Try.prog 5 [.s s, .s t] (.b true) := by
  refine AC.lbody hT hm Try.func5 f5_nm f5_lc f5_res f5_nt ?_
  simp only [go_sem, Int.reduceEq, Int.reduceLE, Int.reduceLT, Int.reduceToNat]
  by_cases hs : (200 : Int) < s.size
  · simp only [go_sem, Int.reduceEq, Int.reduceLE, Int.reduceLT, Int.reduceToNat, hs]
    refine awake.pv trivial ?_
    simp only [go_sem, Int.reduceEq, Int.reduceLE, Int.reduceLT, Int.reduceToNat]
    exact Fin.v rfl
  simp only [go_sem, Int.reduceEq, Int.reduceLE, Int.reduceLT, Int.reduceToNat, hs]
  by_cases ht : (200 : Int) < t.size
  · simp only [go_sem, Int.reduceEq, Int.reduceLE, Int.reduceLT, Int.reduceToNat, ht]
    refine awake.pv trivial ?_
    simp only [go_sem, Int.reduceEq, Int.reduceLE, Int.reduceLT, Int.reduceToNat]
    exact Fin.v rfl
  simp only [go_sem, Int.reduceEq, Int.reduceLE, Int.reduceLT, Int.reduceToNat, ht]
  refine (readN s).pd ⟨.v, trivial⟩ (wdD_bl _) ?_
  simp only [go_sem, Int.reduceEq, Int.reduceLE, Int.reduceLT, Int.reduceToNat]
  refine (readN t).pd ⟨.v, trivial⟩ (wdD_bl _) ?_
  simp only [go_sem, Int.reduceEq, Int.reduceLE, Int.reduceLT, Int.reduceToNat]
  have r1 := pRead_round1 (s := s) (by omega)
  have r2 := pRead_round2 (s := s) (t := t) (by omega) (by omega)
  have n1 := readN (br1 s)
  have n2 := readN (br2 s t)
  generalize pRead s = x at r1 r2 ⊢
  generalize pRead t = y at r2 ⊢
  obtain ⟨a, p, e⟩ := x
  obtain ⟨b, q, f⟩ := y
  dsimp only at r1 r2 ⊢
  by_cases he : e = 0
  case neg =>
    have e1 : ((e : Int) != 0) = true := bne_true (by omega)
    simp only [go_sem, Int.reduceEq, Int.reduceLE, Int.reduceLT, Int.reduceToNat, e1]
    refine awake.pv trivial ?_
    simp only [go_sem, Int.reduceEq, Int.reduceLE, Int.reduceLT, Int.reduceToNat]
    exact Fin.v rfl
  subst he
  have z : (((0 : Nat) : Int) != 0) = false := rfl
  have z' : (((0 : Nat) : Int) == 0) = true := rfl
  by_cases hf : f = 0
  case neg =>
    have e1 : ((f : Int) != 0) = true := bne_true (by omega)
    simp only [go_sem, Int.reduceEq, Int.reduceLE, Int.reduceLT, Int.reduceToNat, z, e1]
    refine awake.pv trivial ?_
    simp only [go_sem, Int.reduceEq, Int.reduceLE, Int.reduceLT, Int.reduceToNat]
    exact Fin.v rfl
  subst hf
  have c1 : 1 + s.size ≤ 9223372036854775807 := by omega
  have c2 : 1 + s.size ≤ 9223372036854775806 := by omega
  have c3 : 1 + s.size ≤ 9223372036854775804 := by omega
  have c4 : 1 + s.size + 3 + t.size ≤ 9223372036854775807 := by omega
  have c5 : 1 + s.size + 3 + t.size ≤ 9223372036854775806 := by omega
  simp only [go_sem, Int.reduceEq, Int.reduceLE, Int.reduceLT, Int.reduceToNat, z, c1, c2]
  rw [r1 rfl] at n1
  rw [r2 rfl rfl] at n2
  unfold br1 at n1
  unfold br2 at n2
  refine n1.pd ⟨.v, trivial⟩ (wdD_bl _) ?_
  simp only [go_sem, Int.reduceEq, Int.reduceLE, Int.reduceLT, Int.reduceToNat, c1, c2, c3, c4, c5]
  refine n2.pd ⟨.v, trivial⟩ (wdD_bl _) ?_
  simp only [go_sem, Int.reduceEq, Int.reduceLE, Int.reduceLT, Int.reduceToNat, z']
  refine (same a a).qv ⟨.same (Re.d_bl _), .same (Re.d_bl _), trivial⟩ ?_
  simp only [go_sem, Int.reduceEq, Int.reduceLE, Int.reduceLT, Int.reduceToNat, same_self]
  refine (mkTwo 5 a b).qd ⟨.v, .same (Re.d_bl _), .same (Re.d_bl _), trivial⟩ (Re.d_bl _) ?_
  simp only [go_sem, Int.reduceEq, Int.reduceLE, Int.reduceLT, Int.reduceToNat]
  refine (same (.mk 5 0 0 0 0 [a, b]) (.mk 5 0 0 0 0 [a, b])).qv ⟨.eq (by simp [Re.c_mk, Re.cs_eq]) (by simp), .eq (by simp [Re.c_mk, Re.cs_eq]) (by simp), trivial⟩ ?_
  simp only [go_sem, Int.reduceEq, Int.reduceLE, Int.reduceLT, Int.reduceToNat, same_self]
  refine awake.qv trivial ?_
  simp only [go_sem, Int.reduceEq, Int.reduceLE, Int.reduceLT, Int.reduceToNat]
  exact Fin.v rfl
end Go.Proofs.Yteifkcgokjmcjaa.W
