/- An Alt of some that are made with care. -/
import Derived.Test.YtlejbkfefpfolaaGreatDoorSortE
import Derived.Test.YtlejbkfefpfolaaGreatDoorMath
import Derived.Test.YtlejbkfefpfolaaGreatDoorEval
set_option linter.unusedVariables false
set_option linter.unusedSimpArgs false
set_option linter.unusedSectionVars false
set_option maxRecDepth 100000
namespace Go.Proofs.YtlejbkfefpfolaaGreatDoor.W
open Go Go.Proofs Go.Proofs.YtlejbkfefpfolaaGreatDoor.AWP
attribute [local irreducible] xl hide aop aops aopQ qops guardP condP
theorem finR {om : List Ob} {x y : Re} (h : x = y) : AWP.Fin [] om (.ret (.agg x.c)) (fun o om' => o = .ret (.agg y.c) ∧ om' = []) := Fin.ret (.eq (by rw [h]) (Re.d_bl _))
theorem nSeq (a : Re) : a.nodesOk = true → ∀ r : Re, AP Tryz.prog 74 [.agg a.c, .agg r.c] (.agg (a.sq r).c) := by
 refine Re.indOk (p := fun a => ∀ r : Re, AP Tryz.prog 74 [.agg a.c, .agg r.c] (.agg (a.sq r).c)) ?_ ?_ ?_ ?_ a
 ·intro k hk r
  have h0 := c_0 r
  rw [sq_one _ _ _ _ _ _ _ (by simp)]
  refine AC.lbody hT hm Tryz.func74 f74_nm f74_lc f74_res f74_nt ?_
  rcases hk with rfl | rfl
  ·simp only [go_sem, Int.reduceEq, Int.reduceLE, Int.reduceLT, Int.reduceToNat, Re.c_mk, Int.reduceBEq]
   refine (rexOr [] (by simp)).pd ⟨.nil, trivial⟩ (Re.d_bl _) ?_
   simp only [go_sem, Int.reduceEq, Int.reduceLE, Int.reduceLT, Int.reduceToNat, Re.put0]
   first | exact finR (by simp [foldL]) | exact Fin.ret (.eq (by simp [foldL, Re.c_mk, Re.cs_eq, empR]) (by simp))
  ·by_cases h1 : r.kd = 1
   ·rw [h1] at h0
    simp only [go_sem, Int.reduceEq, Int.reduceLE, Int.reduceLT, Int.reduceToNat, Re.c_mk, Int.reduceBEq, h0]
    refine (rexOr [] (by simp)).pd ⟨.nil, trivial⟩ (Re.d_bl _) ?_
    simp only [go_sem, Int.reduceEq, Int.reduceLE, Int.reduceLT, Int.reduceToNat, Re.put0]
    first | exact finR (by simp [foldL, h1]) | exact Fin.ret (.eq (by simp [foldL, h1, Re.c_mk, Re.cs_eq, empR]) (by simp))
   ·simp only [go_sem, Int.reduceEq, Int.reduceLE, Int.reduceLT, Int.reduceToNat, Re.c_mk, Int.reduceBEq, h0, beq_false h1, Re.put0]
    first | exact finR (by simp [h1]) | exact Fin.ret (.eq (by simp [h1, Re.c_mk, Re.cs_eq, empR]) (by simp))
 ·intro p q s t hn r
  have h0 := c_0 r
  rw [sq_one _ _ _ _ _ _ _ (by simp)]
  refine AC.lbody hT hm Tryz.func74 f74_nm f74_lc f74_res f74_nt ?_
  by_cases h1 : r.kd = 1
  ·rw [h1] at h0
   simp only [go_sem, Int.reduceEq, Int.reduceLE, Int.reduceLT, Int.reduceToNat, Re.c_mk, Int.reduceBEq, h0]
   refine (rexOr [] (by simp)).pd ⟨.nil, trivial⟩ (Re.d_bl _) ?_
   simp only [go_sem, Int.reduceEq, Int.reduceLE, Int.reduceLT, Int.reduceToNat, Re.put0]
   first | exact finR (by simp [foldL, h1]) | exact Fin.ret (.eq (by simp [foldL, h1, Re.c_mk, Re.cs_eq, empR]) (by simp))
  by_cases h2 : r.kd = 2
  ·rw [h2] at h0
   simp only [go_sem, Int.reduceEq, Int.reduceLE, Int.reduceLT, Int.reduceToNat, Re.c_mk, Int.reduceBEq, h0, Re.put0]
   exact Fin.ret (.eq (by simp [h1, h2, Re.c_mk, Re.cs_eq]) (by simp))
  ·have hp := rexThen [.mk 3 p q s t [], r] (by simp)
   have e : foldL 4 2 [.mk 3 p q s t [], r] = .mk 4 0 0 0 0 [.mk 3 p q s t [], r] := rfl
   rw [e] at hp
   simp only [go_sem, Int.reduceEq, Int.reduceLE, Int.reduceLT, Int.reduceToNat, Re.c_mk, Int.reduceBEq, h0, beq_false h1, beq_false h2] at hp ⊢
   refine hp.pd ⟨.same (by simp), trivial⟩ (by simp) ?_
   simp only [go_sem, Int.reduceEq, Int.reduceLE, Int.reduceLT, Int.reduceToNat, Re.c_mk]
   exact Fin.ret (.eq (by simp [h1, h2, Re.c_mk, Re.cs_eq]) (by simp))
 ·intro k x y hk _ _ ihx ihy r
  have h0 := c_0 r
  rw [sq_two k x y r hk]
  refine AC.lbody hT hm Tryz.func74 f74_nm f74_lc f74_res f74_nt ?_
  by_cases h1 : r.kd = 1
  ·rw [h1] at h0
   rcases hk with rfl | rfl
   all_goals
    simp only [go_sem, Int.reduceEq, Int.reduceLE, Int.reduceLT, Int.reduceToNat, Re.c_mk, Int.reduceBEq, h0]
    refine (rexOr [] (by simp)).pd ⟨.nil, trivial⟩ (Re.d_bl _) ?_
    simp only [go_sem, Int.reduceEq, Int.reduceLE, Int.reduceLT, Int.reduceToNat, Re.put0]
    first | exact finR (by simp [foldL, h1]) | exact Fin.ret (.eq (by simp [foldL, h1, Re.c_mk, Re.cs_eq, empR]) (by simp))
  by_cases h2 : r.kd = 2
  ·rw [h2] at h0
   rcases hk with rfl | rfl
   all_goals
    simp only [go_sem, Int.reduceEq, Int.reduceLE, Int.reduceLT, Int.reduceToNat, Re.c_mk, Int.reduceBEq, h0, Re.put0]
    exact Fin.ret (.eq (by simp [h1, h2, Re.c_mk, Re.cs_eq]) (by simp))
  rcases hk with rfl | rfl
  ·simp only [go_sem, Int.reduceEq, Int.reduceLE, Int.reduceLT, Int.reduceToNat, Re.c_mk, Int.reduceBEq, h0, beq_false h1, beq_false h2]
   refine (ihy r).qd ⟨.same (Re.d_bl _), .same (Re.d_bl _), trivial⟩ (Re.d_bl _) ?_
   simp only [go_sem, Int.reduceEq, Int.reduceLE, Int.reduceLT, Int.reduceToNat]
   refine (ihx (y.sq r)).pd ⟨.same (Re.d_bl _), .same (Re.d_bl _), trivial⟩ (Re.d_bl _) ?_
   simp only [go_sem, Int.reduceEq, Int.reduceLE, Int.reduceLT, Int.reduceToNat, Re.put0]
   first | exact finR (by simp [h1, h2]) | exact Fin.ret (.eq (by simp [h1, h2, Re.c_mk, Re.cs_eq, empR]) (by simp))
  ·have hp := rexThen [.mk 5 0 0 0 0 [x, y], r] (by simp)
   have e : foldL 4 2 [.mk 5 0 0 0 0 [x, y], r] = .mk 4 0 0 0 0 [.mk 5 0 0 0 0 [x, y], r] := rfl
   rw [e] at hp
   simp only [go_sem, Int.reduceEq, Int.reduceLE, Int.reduceLT, Int.reduceToNat, Re.c_mk, Int.reduceBEq, h0, beq_false h1, beq_false h2] at hp ⊢
   refine hp.pd ⟨.same (by simp), trivial⟩ (by simp) ?_
   simp only [go_sem, Int.reduceEq, Int.reduceLE, Int.reduceLT, Int.reduceToNat, Re.c_mk]
   exact Fin.ret (.eq (by simp [h1, h2, Re.c_mk, Re.cs_eq]) (by simp))
 ·intro x _ ih r
  have h0 := c_0 r
  rw [sq_one _ _ _ _ _ _ _ (by simp)]
  refine AC.lbody hT hm Tryz.func74 f74_nm f74_lc f74_res f74_nt ?_
  by_cases h1 : r.kd = 1
  ·rw [h1] at h0
   simp only [go_sem, Int.reduceEq, Int.reduceLE, Int.reduceLT, Int.reduceToNat, Re.c_mk, Int.reduceBEq, h0]
   refine (rexOr [] (by simp)).pd ⟨.nil, trivial⟩ (Re.d_bl _) ?_
   simp only [go_sem, Int.reduceEq, Int.reduceLE, Int.reduceLT, Int.reduceToNat, Re.put0]
   first | exact finR (by simp [foldL, h1]) | exact Fin.ret (.eq (by simp [foldL, h1, Re.c_mk, Re.cs_eq, empR]) (by simp))
  by_cases h2 : r.kd = 2
  ·rw [h2] at h0
   simp only [go_sem, Int.reduceEq, Int.reduceLE, Int.reduceLT, Int.reduceToNat, Re.c_mk, Int.reduceBEq, h0, Re.put0]
   exact Fin.ret (.eq (by simp [h1, h2, Re.c_mk, Re.cs_eq]) (by simp))
  ·have hp := rexThen [.mk 6 0 0 0 0 [x], r] (by simp)
   have e : foldL 4 2 [.mk 6 0 0 0 0 [x], r] = .mk 4 0 0 0 0 [.mk 6 0 0 0 0 [x], r] := rfl
   rw [e] at hp
   simp only [go_sem, Int.reduceEq, Int.reduceLE, Int.reduceLT, Int.reduceToNat, Re.c_mk, Int.reduceBEq, h0, beq_false h1, beq_false h2] at hp ⊢
   refine hp.pd ⟨.same (by simp), trivial⟩ (by simp) ?_
   simp only [go_sem, Int.reduceEq, Int.reduceLE, Int.reduceLT, Int.reduceToNat, Re.c_mk]
   exact Fin.ret (.eq (by simp [h1, h2, Re.c_mk, Re.cs_eq]) (by simp))
theorem rSeq (a : Re) : a.nodesOk = true → ∀ r : Re, AP Tryz.prog 59 [.agg a.c, .agg r.c] (.agg (a.sq r).c) := by
 refine Re.indOk (p := fun a => ∀ r : Re, AP Tryz.prog 59 [.agg a.c, .agg r.c] (.agg (a.sq r).c)) ?_ ?_ ?_ ?_ a
 ·intro k hk r
  have h0 := c_0 r
  rw [sq_one _ _ _ _ _ _ _ (by simp)]
  refine AC.lbody hT hm Tryz.func59 f59_nm f59_lc f59_res f59_nt ?_
  rcases hk with rfl | rfl
  ·simp only [go_sem, Int.reduceEq, Int.reduceLE, Int.reduceLT, Int.reduceToNat, Re.c_mk, Int.reduceBEq]
   refine (bare 1).pd ⟨.v, trivial⟩ (Re.d_bl _) ?_
   simp only [go_sem, Int.reduceEq, Int.reduceLE, Int.reduceLT, Int.reduceToNat, Re.put0]
   first | exact finR (by simp [foldL]) | exact Fin.ret (.eq (by simp [foldL, Re.c_mk, Re.cs_eq, empR]) (by simp))
  ·by_cases h1 : r.kd = 1
   ·rw [h1] at h0
    simp only [go_sem, Int.reduceEq, Int.reduceLE, Int.reduceLT, Int.reduceToNat, Re.c_mk, Int.reduceBEq, h0]
    refine (bare 1).pd ⟨.v, trivial⟩ (Re.d_bl _) ?_
    simp only [go_sem, Int.reduceEq, Int.reduceLE, Int.reduceLT, Int.reduceToNat, Re.put0]
    first | exact finR (by simp [foldL, h1]) | exact Fin.ret (.eq (by simp [foldL, h1, Re.c_mk, Re.cs_eq, empR]) (by simp))
   ·simp only [go_sem, Int.reduceEq, Int.reduceLE, Int.reduceLT, Int.reduceToNat, Re.c_mk, Int.reduceBEq, h0, beq_false h1, Re.put0]
    first | exact finR (by simp [h1]) | exact Fin.ret (.eq (by simp [h1, Re.c_mk, Re.cs_eq, empR]) (by simp))
 ·intro p q s t hn r
  have h0 := c_0 r
  rw [sq_one _ _ _ _ _ _ _ (by simp)]
  refine AC.lbody hT hm Tryz.func59 f59_nm f59_lc f59_res f59_nt ?_
  by_cases h1 : r.kd = 1
  ·rw [h1] at h0
   simp only [go_sem, Int.reduceEq, Int.reduceLE, Int.reduceLT, Int.reduceToNat, Re.c_mk, Int.reduceBEq, h0]
   refine (bare 1).pd ⟨.v, trivial⟩ (Re.d_bl _) ?_
   simp only [go_sem, Int.reduceEq, Int.reduceLE, Int.reduceLT, Int.reduceToNat, Re.put0]
   first | exact finR (by simp [foldL, h1]) | exact Fin.ret (.eq (by simp [foldL, h1, Re.c_mk, Re.cs_eq, empR]) (by simp))
  by_cases h2 : r.kd = 2
  ·rw [h2] at h0
   simp only [go_sem, Int.reduceEq, Int.reduceLE, Int.reduceLT, Int.reduceToNat, Re.c_mk, Int.reduceBEq, h0, Re.put0]
   exact Fin.ret (.eq (by simp [h1, h2, Re.c_mk, Re.cs_eq]) (by simp))
  ·have hp := mkTwo 4 (.mk 3 p q s t []) r
   simp only [go_sem, Int.reduceEq, Int.reduceLE, Int.reduceLT, Int.reduceToNat, Re.c_mk, Int.reduceBEq, h0, beq_false h1, beq_false h2] at hp ⊢
   refine hp.pd ⟨.v, .same (by simp), .same (Re.d_bl _), trivial⟩ (by simp) ?_
   simp only [go_sem, Int.reduceEq, Int.reduceLE, Int.reduceLT, Int.reduceToNat, Re.c_mk]
   exact Fin.ret (.eq (by simp [h1, h2, Re.c_mk, Re.cs_eq]) (by simp))
 ·intro k x y hk _ _ ihx ihy r
  have h0 := c_0 r
  rw [sq_two k x y r hk]
  refine AC.lbody hT hm Tryz.func59 f59_nm f59_lc f59_res f59_nt ?_
  by_cases h1 : r.kd = 1
  ·rw [h1] at h0
   rcases hk with rfl | rfl
   all_goals
    simp only [go_sem, Int.reduceEq, Int.reduceLE, Int.reduceLT, Int.reduceToNat, Re.c_mk, Int.reduceBEq, h0]
    refine (bare 1).pd ⟨.v, trivial⟩ (Re.d_bl _) ?_
    simp only [go_sem, Int.reduceEq, Int.reduceLE, Int.reduceLT, Int.reduceToNat, Re.put0]
    first | exact finR (by simp [foldL, h1]) | exact Fin.ret (.eq (by simp [foldL, h1, Re.c_mk, Re.cs_eq, empR]) (by simp))
  by_cases h2 : r.kd = 2
  ·rw [h2] at h0
   rcases hk with rfl | rfl
   all_goals
    simp only [go_sem, Int.reduceEq, Int.reduceLE, Int.reduceLT, Int.reduceToNat, Re.c_mk, Int.reduceBEq, h0, Re.put0]
    exact Fin.ret (.eq (by simp [h1, h2, Re.c_mk, Re.cs_eq]) (by simp))
  rcases hk with rfl | rfl
  ·simp only [go_sem, Int.reduceEq, Int.reduceLE, Int.reduceLT, Int.reduceToNat, Re.c_mk, Int.reduceBEq, h0, beq_false h1, beq_false h2]
   refine (ihy r).qd ⟨.same (Re.d_bl _), .same (Re.d_bl _), trivial⟩ (Re.d_bl _) ?_
   simp only [go_sem, Int.reduceEq, Int.reduceLE, Int.reduceLT, Int.reduceToNat]
   refine (ihx (y.sq r)).pd ⟨.same (Re.d_bl _), .same (Re.d_bl _), trivial⟩ (Re.d_bl _) ?_
   simp only [go_sem, Int.reduceEq, Int.reduceLE, Int.reduceLT, Int.reduceToNat, Re.put0]
   first | exact finR (by simp [h1, h2]) | exact Fin.ret (.eq (by simp [h1, h2, Re.c_mk, Re.cs_eq, empR]) (by simp))
  ·have hp := mkTwo 4 (.mk 5 0 0 0 0 [x, y]) r
   simp only [go_sem, Int.reduceEq, Int.reduceLE, Int.reduceLT, Int.reduceToNat, Re.c_mk, Int.reduceBEq, h0, beq_false h1, beq_false h2] at hp ⊢
   refine hp.pd ⟨.v, .same (by simp), .same (Re.d_bl _), trivial⟩ (by simp) ?_
   simp only [go_sem, Int.reduceEq, Int.reduceLE, Int.reduceLT, Int.reduceToNat, Re.c_mk]
   exact Fin.ret (.eq (by simp [h1, h2, Re.c_mk, Re.cs_eq]) (by simp))
 ·intro x _ ih r
  have h0 := c_0 r
  rw [sq_one _ _ _ _ _ _ _ (by simp)]
  refine AC.lbody hT hm Tryz.func59 f59_nm f59_lc f59_res f59_nt ?_
  by_cases h1 : r.kd = 1
  ·rw [h1] at h0
   simp only [go_sem, Int.reduceEq, Int.reduceLE, Int.reduceLT, Int.reduceToNat, Re.c_mk, Int.reduceBEq, h0]
   refine (bare 1).pd ⟨.v, trivial⟩ (Re.d_bl _) ?_
   simp only [go_sem, Int.reduceEq, Int.reduceLE, Int.reduceLT, Int.reduceToNat, Re.put0]
   first | exact finR (by simp [foldL, h1]) | exact Fin.ret (.eq (by simp [foldL, h1, Re.c_mk, Re.cs_eq, empR]) (by simp))
  by_cases h2 : r.kd = 2
  ·rw [h2] at h0
   simp only [go_sem, Int.reduceEq, Int.reduceLE, Int.reduceLT, Int.reduceToNat, Re.c_mk, Int.reduceBEq, h0, Re.put0]
   exact Fin.ret (.eq (by simp [h1, h2, Re.c_mk, Re.cs_eq]) (by simp))
  ·have hp := mkTwo 4 (.mk 6 0 0 0 0 [x]) r
   simp only [go_sem, Int.reduceEq, Int.reduceLE, Int.reduceLT, Int.reduceToNat, Re.c_mk, Int.reduceBEq, h0, beq_false h1, beq_false h2] at hp ⊢
   refine hp.pd ⟨.v, .same (by simp), .same (Re.d_bl _), trivial⟩ (by simp) ?_
   simp only [go_sem, Int.reduceEq, Int.reduceLE, Int.reduceLT, Int.reduceToNat, Re.c_mk]
   exact Fin.ret (.eq (by simp [h1, h2, Re.c_mk, Re.cs_eq]) (by simp))
theorem nStar (r : Re) : AP Tryz.prog 76 [.agg r.c] (.agg (starR r).c) := by
 have h0 := c_0 r
 unfold starR
 refine AC.lbody hT hm Tryz.func76 f76_nm f76_lc f76_res f76_nt ?_
 by_cases h1 : r.kd = 1
 ·rw [h1] at h0
  simp only [go_sem, Int.reduceEq, Int.reduceLE, Int.reduceLT, Int.reduceToNat, Int.reduceBEq, h0]
  refine (rexThen [] (by simp)).pd ⟨.nil, trivial⟩ (Re.d_bl _) ?_
  simp only [go_sem, Int.reduceEq, Int.reduceLE, Int.reduceLT, Int.reduceToNat, Re.put0]
  first | exact finR (by simp [foldL, h1]) | exact Fin.ret (.eq (by simp [foldL, h1, Re.c_mk, Re.cs_eq, empR]) (by simp))
 by_cases h2 : r.kd = 2
 ·rw [h2] at h0
  simp only [go_sem, Int.reduceEq, Int.reduceLE, Int.reduceLT, Int.reduceToNat, Int.reduceBEq, h0]
  refine (rexThen [] (by simp)).pd ⟨.nil, trivial⟩ (Re.d_bl _) ?_
  simp only [go_sem, Int.reduceEq, Int.reduceLE, Int.reduceLT, Int.reduceToNat, Re.put0]
  first | exact finR (by simp [foldL, h2]) | exact Fin.ret (.eq (by simp [foldL, h2, Re.c_mk, Re.cs_eq, empR]) (by simp))
 by_cases h6 : r.kd = 6
 ·rw [h6] at h0
  simp only [go_sem, Int.reduceEq, Int.reduceLE, Int.reduceLT, Int.reduceToNat, Int.reduceBEq, h0, Re.put0]
  first | exact finR (by simp [h6]) | exact Fin.ret (.eq (by simp [h6, Re.c_mk, Re.cs_eq, empR]) (by simp))
 ·simp only [go_sem, Int.reduceEq, Int.reduceLE, Int.reduceLT, Int.reduceToNat, h0, beq_false h1, beq_false h2, beq_false h6]
  refine (rexMany r).pd ⟨.same (Re.d_bl _), trivial⟩ (Re.d_bl _) ?_
  simp only [go_sem, Int.reduceEq, Int.reduceLE, Int.reduceLT, Int.reduceToNat, Re.put0]
  first | exact finR (by simp [h1, h2, h6]) | exact Fin.ret (.eq (by simp [h1, h2, h6, Re.c_mk, Re.cs_eq, empR]) (by simp))
theorem rStar (r : Re) : AP Tryz.prog 61 [.agg r.c] (.agg (starR r).c) := by
 have h0 := c_0 r
 unfold starR
 refine AC.lbody hT hm Tryz.func61 f61_nm f61_lc f61_res f61_nt ?_
 by_cases h1 : r.kd = 1
 ·rw [h1] at h0
  simp only [go_sem, Int.reduceEq, Int.reduceLE, Int.reduceLT, Int.reduceToNat, Int.reduceBEq, h0]
  refine (bare 2).pd ⟨.v, trivial⟩ (Re.d_bl _) ?_
  simp only [go_sem, Int.reduceEq, Int.reduceLE, Int.reduceLT, Int.reduceToNat, Re.put0]
  first | exact finR (by simp [h1]) | exact Fin.ret (.eq (by simp [h1, Re.c_mk, Re.cs_eq, empR]) (by simp))
 by_cases h2 : r.kd = 2
 ·rw [h2] at h0
  simp only [go_sem, Int.reduceEq, Int.reduceLE, Int.reduceLT, Int.reduceToNat, Int.reduceBEq, h0]
  refine (bare 2).pd ⟨.v, trivial⟩ (Re.d_bl _) ?_
  simp only [go_sem, Int.reduceEq, Int.reduceLE, Int.reduceLT, Int.reduceToNat, Re.put0]
  first | exact finR (by simp [h2]) | exact Fin.ret (.eq (by simp [h2, Re.c_mk, Re.cs_eq, empR]) (by simp))
 by_cases h6 : r.kd = 6
 ·rw [h6] at h0
  simp only [go_sem, Int.reduceEq, Int.reduceLE, Int.reduceLT, Int.reduceToNat, Int.reduceBEq, h0, Re.put0]
  first | exact finR (by simp [h6]) | exact Fin.ret (.eq (by simp [h6, Re.c_mk, Re.cs_eq, empR]) (by simp))
 ·simp only [go_sem, Int.reduceEq, Int.reduceLE, Int.reduceLT, Int.reduceToNat, h0, beq_false h1, beq_false h2, beq_false h6]
  refine (many r).pd ⟨.same (Re.d_bl _), trivial⟩ (Re.d_bl _) ?_
  simp only [go_sem, Int.reduceEq, Int.reduceLE, Int.reduceLT, Int.reduceToNat, Re.put0]
  first | exact finR (by simp [h1, h2, h6]) | exact Fin.ret (.eq (by simp [h1, h2, h6, Re.c_mk, Re.cs_eq, empR]) (by simp))
end Go.Proofs.YtlejbkfefpfolaaGreatDoor.W
set_option maxRecDepth 100000
namespace Go.Proofs.YtlejbkfefpfolaaGreatDoor.W
open Go Go.Proofs Go.Proofs.YtlejbkfefpfolaaGreatDoor.AWP
attribute [local irreducible] xl hide aop aops aopQ qops guardP condP
theorem flCases (x : Re) (h : x.nodesOk = true) : (x.kd = 1 ∧ x.fl = []) ∨ (x.kd = 5 ∧ ∃ p q, x = .mk 5 0 0 0 0 [p, q] ∧ p.nodesOk = true ∧ q.nodesOk = true ∧ x.fl = [p, q].flatMap Re.fl) ∨ (x.kd ≠ 1 ∧ x.kd ≠ 5 ∧ x.fl = [x]) := by
 revert h
 refine Re.indOk (p := fun x => (x.kd = 1 ∧ x.fl = []) ∨ (x.kd = 5 ∧ ∃ p q, x = .mk 5 0 0 0 0 [p, q] ∧ p.nodesOk = true ∧ q.nodesOk = true ∧ x.fl = [p, q].flatMap Re.fl) ∨ (x.kd ≠ 1 ∧ x.kd ≠ 5 ∧ x.fl = [x])) ?_ ?_ ?_ ?_ x
 ·intro k hk
  rw [fl_one _ _ _ _ _ _ (by simp)]
  rcases hk with rfl | rfl
  ·exact .inl ⟨rfl, rfl⟩
  ·exact .inr (.inr ⟨by simp [Re.kd], by simp [Re.kd], rfl⟩)
 ·intro a b c d _
  rw [fl_one _ _ _ _ _ _ (by simp)]
  exact .inr (.inr ⟨by simp [Re.kd], by simp [Re.kd], rfl⟩)
 ·intro k p q hk hp hq _ _
  rw [fl_two _ _ _ hk]
  rcases hk with rfl | rfl
  ·exact .inr (.inr ⟨by simp [Re.kd], by simp [Re.kd], rfl⟩)
  ·exact .inr (.inl ⟨rfl, p, q, rfl, hp, hq, by simp⟩)
 ·intro p _ _
  rw [fl_one _ _ _ _ _ _ (by simp)]
  exact .inr (.inr ⟨by simp [Re.kd], by simp [Re.kd], rfl⟩)
theorem szs_len (l : List Re) : l.length ≤ Re.szs l := by
 induction l with
 | nil => simp
 | cons x l ih => have := x.sz_pos; rw [Re.szs, List.length_cons]; omega
theorem flatMap_len (l : List Re) (h : ∀ x ∈ l, x.nodesOk = true) : (l.flatMap Re.fl).length ≤ Re.szs l := by
 have h1 := flat_sz l h
 have h2 := szs_len (l.flatMap Re.fl)
 have h3 := szs_len l
 omega
theorem szs_take (l : List Re) (i : Nat) : Re.szs (l.take i) ≤ Re.szs l := by
 have : l = l.take i ++ l.drop i := (List.take_append_drop i l).symm
 rw [this, Re.szs_app, List.take_append_drop]; omega
theorem szs_get {l : List Re} {i : Nat} {x : Re} (h : l[i]? = some x) : x.sz ≤ Re.szs l := by
 induction l generalizing i with
 | nil => simp at h
 | cons y l ih =>
  rw [Re.szs]
  cases i with
  | zero => simp at h; subst h; omega
  | succ i => have := ih (i := i) (by simpa using h); omega
theorem ok_get {l : List Re} {i : Nat} {x : Re} (hl : ∀ x ∈ l, x.nodesOk = true) (h : l[i]? = some x) : x.nodesOk = true := hl x (List.mem_of_getElem? h)
theorem flatMap_take {l : List Re} {i : Nat} {x : Re} (h : l[i]? = some x) : (l.take (i + 1)).flatMap Re.fl = (l.take i).flatMap Re.fl ++ x.fl := by
 rw [List.take_add_one, h]; simp
theorem flatP : ∀ (n : Nat) (l : List Re), Re.szs l < n → n ≤ 1000000000 → (∀ x ∈ l, x.nodesOk = true) → AP Tryz.prog 95 [Res l] (Res (l.flatMap Re.fl)) := by
 intro n
 induction n with
 | zero =>
  intro l h0
  exact absurd h0 (Nat.not_lt_zero _)
 | succ n ih =>
  intro l hsz hn hok
  have hlen := szs_len l
  refine AC.lbody hT hm Tryz.func95 f95_nm f95_lc f95_res f95_nt ?_
  simp only [go_sem]
  refine xl_loopM hT hm (fun i : Nat => ⟨f95_i11 (.own 0) (Res l) (.i l.length) (.i i), [reOb ((l.take i).flatMap Re.fl)]⟩)
   (fun i => i ≤ l.length) (fun i => l.length - i) 0 (Nat.zero_le _) (Mv.of [none] rfl ⟨.nil (by simp), trivial⟩ (by simp [f95_i11])) ?_
  intro i hi
  simp only [go_sem]
  by_cases h : i < l.length
  case neg =>
   simp only [go_sem, h]
   rw [List.take_of_length_le (by omega)]
   exact Fin.ret (frzR rfl)
  obtain ⟨x, hx⟩ := get_ex h
  have hx0 := c_0 x
  have hxs := szs_get hx
  have hft := flatMap_take hx
  have hL : ((l.take i).flatMap Re.fl).length ≤ n + 1 := Nat.le_trans (flatMap_len _ (fun y hy => hok y (List.mem_of_mem_take hy))) (Nat.le_trans (szs_take l i) (Nat.le_of_lt hsz))
  generalize (l.take i).flatMap Re.fl = L at hft hL
  simp only [go_sem, h, hx, hx0]
  rcases flCases x (ok_get hok hx) with ⟨h1, hf⟩ | ⟨h5, p, q, rfl, hp, hq, hf⟩ | ⟨h1, h5, hf⟩
  ·simp only [go_sem, h1, Int.reduceBEq]
   refine ⟨i + 1, h, by omega, ?_⟩
   rw [wrap_succ i (by omega), hft, hf, List.append_nil]
   exact Mv.of [some 0] rfl (mv1 rfl) (by simp)
  ·have hpq : ∀ y ∈ [p, q], y.nodesOk = true := by simp [hp, hq]
   have hs : Re.szs [p, q] < n := by rw [sz_two] at hxs; rw [Re.szs, Re.szs, Re.szs]; omega
   have hfl := flatMap_len [p, q] hpq
   simp only [go_sem, Re.kd, Int.reduceBEq, Re.c_mk]
   refine (ih [p, q] hs (by omega) hpq).pd ⟨.same (Res_bl' [p, q]), trivial⟩ (Res_bl' _) ?_
   rw [hf] at hft
   generalize [p, q].flatMap Re.fl = M at hft hfl
   simp only [go_sem]
   refine ⟨by omega, ?_⟩
   refine ⟨i + 1, h, by omega, ?_⟩
   rw [wrap_succ i (by omega), hft]
   exact Mv.of [some 2] rfl (mv1 (by simp)) (by simp)
  ·simp only [go_sem, beq_false h1, beq_false h5]
   refine ⟨by omega, ?_⟩
   refine ⟨i + 1, h, by omega, ?_⟩
   rw [wrap_succ i (by omega), hft, hf]
   exact Mv.of [some 2] rfl (mv1 (by simp)) (by simp)
end Go.Proofs.YtlejbkfefpfolaaGreatDoor.W
set_option maxRecDepth 100000
namespace Go.Proofs.YtlejbkfefpfolaaGreatDoor.W
open Go Go.Proofs Go.Proofs.YtlejbkfefpfolaaGreatDoor.AWP
attribute [local irreducible] xl hide aop aops aopQ qops guardP condP
theorem mvA {s : List Int} {M : List Re} {k : Nat} {om : List Ob} {F : Nat → Bool} (h0 : om[0]? = some zOb) (h1 : om[1]? = some (wOb s)) (h2 : om[k]? = some (reOb M)) : MvL om F [some 0, some 1, some k] [some 0, some 1, some k] [zOb, wOb s, reOb M] :=
 ⟨.varS h0 (by simp [zRe]), .varS h1 (W_bl s), .slcS h2 (Re.map_bl _), trivial⟩
theorem flatO (l : List Re) (hsz : Re.szs l ≤ 100000000) (hok : ∀ x ∈ l, x.nodesOk = true) (s : List Int) : AC Tryz.prog 95 [Res l] [zOb, wOb s] (fun o om => o = .ret (.own 2) ∧ om = [zOb, wOb s, reOb (l.flatMap Re.fl)]) := by
 have hlen := szs_len l
 refine AC.lbody hT hm Tryz.func95 f95_nm f95_lc f95_res f95_nt ?_
 simp only [go_sem]
 refine xl_loopM hT hm (fun i : Nat => ⟨f95_i11 (.own 2) (Res l) (.i l.length) (.i i), [zOb, wOb s, reOb ((l.take i).flatMap Re.fl)]⟩)
  (fun i => i ≤ l.length) (fun i => l.length - i) 0 (Nat.zero_le _) (Mv.of [some 0, some 1, none] rfl ⟨.varS rfl (by simp [zRe]), .varS rfl (W_bl s), .nil (by simp), trivial⟩ (by simp [f95_i11])) ?_
 intro i hi
 simp only [go_sem]
 by_cases h : i < l.length
 case neg =>
  simp only [go_sem, h]
  rw [List.take_of_length_le (by omega)]
  exact Fin.mv (om' := [zOb, wOb s, reOb (l.flatMap Re.fl)]) [some 0, some 1, some 2] rfl (mvA rfl rfl rfl) (by simp) ⟨rfl, rfl⟩
 obtain ⟨x, hx⟩ := get_ex h
 have hx0 := c_0 x
 have hxs := szs_get hx
 have hft := flatMap_take hx
 have hL : ((l.take i).flatMap Re.fl).length ≤ 100000000 := Nat.le_trans (flatMap_len _ (fun y hy => hok y (List.mem_of_mem_take hy))) (Nat.le_trans (szs_take l i) hsz)
 generalize (l.take i).flatMap Re.fl = L at hft hL
 simp only [go_sem, h, hx, hx0]
 rcases flCases x (ok_get hok hx) with ⟨h1, hf⟩ | ⟨h5, p, q, rfl, hp, hq, hf⟩ | ⟨h1, h5, hf⟩
 ·simp only [go_sem, h1, Int.reduceBEq]
  refine ⟨i + 1, h, by omega, ?_⟩
  rw [wrap_succ i (by omega), hft, hf, List.append_nil]
  exact Mv.of [some 0, some 1, some 2] rfl (mvA rfl rfl rfl) (by simp)
 ·have hpq : ∀ y ∈ [p, q], y.nodesOk = true := by simp [hp, hq]
  have hs : Re.szs [p, q] < 100000000 := by rw [sz_two] at hxs; rw [Re.szs, Re.szs, Re.szs]; omega
  have hfl := flatMap_len [p, q] hpq
  simp only [go_sem, Re.kd, Int.reduceBEq, Re.c_mk]
  refine (flatP _ [p, q] hs (by omega) hpq).pd ⟨.same (Res_bl' [p, q]), trivial⟩ (Res_bl' _) ?_
  rw [hf] at hft
  generalize [p, q].flatMap Re.fl = M at hft hfl
  simp only [go_sem]
  refine ⟨by omega, ?_⟩
  refine ⟨i + 1, h, by omega, ?_⟩
  rw [wrap_succ i (by omega), hft]
  exact Mv.of [some 0, some 1, some 4] rfl (mvA rfl rfl (by simp)) (by simp)
 ·simp only [go_sem, beq_false h1, beq_false h5]
  refine ⟨by omega, ?_⟩
  refine ⟨i + 1, h, by omega, ?_⟩
  rw [wrap_succ i (by omega), hft, hf]
  exact Mv.of [some 0, some 1, some 4] rfl (mvA rfl rfl (by simp)) (by simp)
abbrev A1 : Nat := 96
@[simp] theorem cvA1 {om : List Ob} {F : Nat → Bool} {l : List (Option Nat)} : Cv om F (some 0 :: some 1 :: l) (.fn A1 [.ref 1 0]) (.fn A1 [.ref 1 0]) := .fnL ⟨by simp, trivial⟩
theorem alt1 (x : Re) (s : List Int) (h4 : s.length = 4) (M : List Re) : AC Tryz.prog A1 [.agg x.c, .ref 1 0] [zOb, wOb s, reOb M] (fun o om => o = .ret (.b (x.kd == 3)) ∧ om = [zOb, wOb (clsStep s x), reOb M]) := by
 have hj := setJoin [s, x.set] (by simp) (by obtain ⟨k, a, b, c, d, ks⟩ := x; simp [h4, Re.set])
 obtain ⟨k, a, b, c, d, ks⟩ := x
 obtain ⟨s1, s2, s3, s4, rfl⟩ := four h4
 by_cases h3 : k = 3
 ·subst h3
  have hjl := joinAll_len (l := [[s1, s2, s3, s4], (Re.mk 3 a b c d ks).set]) (by simp [Re.set])
  have e : clsStep [s1, s2, s3, s4] (Re.mk 3 a b c d ks) = joinAll [[s1, s2, s3, s4], (Re.mk 3 a b c d ks).set] := rfl
  rw [e]
  refine AC.lbody hT hm Tryz.func96 f96_nm f96_lc f96_res f96_nt ?_
  simp only [go_sem, Re.c_mk, Re.kd, Int.reduceBEq]
  refine hj.pd ⟨.same (.sl (by simp [wD])), trivial⟩ (.agg (W_bl _)) ?_
  generalize joinAll [[s1, s2, s3, s4], (Re.mk 3 a b c d ks).set] = J at hjl
  obtain ⟨j1, j2, j3, j4, rfl⟩ := four hjl
  simp only [go_sem, Int.reduceBEq]
  exact Fin.mv (om' := [zOb, wOb [j1, j2, j3, j4], reOb M]) [some 0, some 1, some 2] rfl (mvA rfl rfl rfl) (by simp) ⟨rfl, rfl⟩
 ·have e : clsStep [s1, s2, s3, s4] (Re.mk k a b c d ks) = [s1, s2, s3, s4] := if_neg h3
  rw [e]
  refine AC.lbody hT hm Tryz.func96 f96_nm f96_lc f96_res f96_nt ?_
  simp only [go_sem, Re.c_mk, Re.kd, beq_false h3]
  exact Fin.mv (om' := [zOb, wOb [s1, s2, s3, s4], reOb M]) [some 0, some 1, some 2] rfl (mvA rfl rfl rfl) (by simp) ⟨rfl, rfl⟩
def cIdx : List Re → Nat → Int
 | [], _ => -1
 | y :: l, i => if y.kd = 3 then i else cIdx l (i + 1)
theorem clsStep_no {s : List Int} {x : Re} (h : x.kd ≠ 3) : clsStep s x = s := if_neg h
theorem indexA (s : List Int) (h4 : s.length = 4) (M : List Re) (hM : M.length ≤ 1000000000) : AC Tryz.prog 62 [.own 2, .fn A1 [.ref 1 0]] [zOb, wOb s, reOb M]
  (fun o om => o = .ret (.i (cIdx M 0)) ∧ om = [zOb, wOb (if cIdx M 0 = -1 then s else clsStep s (M.getD (cIdx M 0).toNat empR)), reOb M]) := by
 refine AC.lbody hT hm Tryz.func62 f62_nm f62_lc f62_res f62_nt ?_
 simp only [go_sem]
 refine xl_loopM hT hm (fun i : Nat => ⟨f62_i7 (.own 2) (.fn A1 [.ref 1 0]) (.i M.length) (.i i), [zOb, wOb s, reOb M]⟩)
  (fun i => i ≤ M.length ∧ cIdx M 0 = cIdx (M.drop i) i) (fun i => M.length - i) 0 ⟨Nat.zero_le _, rfl⟩ (Mv.of [some 0, some 1, some 2] rfl (mvA rfl rfl rfl) (by simp [f62_i7])) ?_
 rintro i ⟨hi, hq⟩
 simp only [go_sem]
 by_cases h : i < M.length
 case neg =>
  simp only [go_sem, h]
  have e : cIdx M 0 = -1 := by rw [hq, drop_end h]; rfl
  rw [e]
  exact Fin.mv (om' := [zOb, wOb s, reOb M]) [some 0, some 1, some 2] rfl (mvA rfl rfl rfl) (by simp) ⟨rfl, by simp⟩
 obtain ⟨y, hy⟩ := get_ex h
 simp only [go_sem, h, hy]
 refine ⟨_, alt1 y s h4 M, ?_⟩
 rintro _ _ ⟨rfl, rfl⟩
 simp only [go_sem]
 by_cases hc : y.kd = 3
 ·have e : cIdx M 0 = i := by rw [hq, drop_get hy, cIdx, if_pos hc]
  have e2 : M.getD i empR = y := by rw [List.getD_eq_getElem?_getD, hy]; rfl
  simp only [go_sem, hc, Int.reduceBEq]
  rw [e]
  exact Fin.mv (om' := [zOb, wOb (clsStep s y), reOb M]) [some 0, some 1, some 2] rfl (mvA rfl rfl rfl) (by simp) ⟨rfl, by rw [if_neg (by omega), Int.toNat_natCast, e2]⟩
 ·simp only [go_sem, beq_false hc, clsStep_no hc]
  refine ⟨i + 1, ⟨h, ?_⟩, by omega, ?_⟩
  ·rw [hq, drop_get hy, cIdx, if_neg hc]
  ·rw [wrap_succ i (by omega)]
   exact Mv.of [some 0, some 1, some 2] rfl (mvA rfl rfl rfl) (by simp)
end Go.Proofs.YtlejbkfefpfolaaGreatDoor.W
set_option maxRecDepth 100000
namespace Go.Proofs.YtlejbkfefpfolaaGreatDoor.W
open Go Go.Proofs Go.Proofs.YtlejbkfefpfolaaGreatDoor.AWP
attribute [local irreducible] xl hide aop aops aopQ qops guardP condP
theorem cIdx_spec (l : List Re) : ∀ i : Nat, (cIdx l i = -1 ∧ ∀ x ∈ l, x.kd ≠ 3) ∨ ∃ (j : Nat) (x : Re), cIdx l i = ((i + j : Nat) : Int) ∧ l[j]? = some x ∧ x.kd = 3 ∧ ∀ y ∈ l.take j, y.kd ≠ 3 := by
 induction l with
 | nil => intro i; exact .inl ⟨rfl, by simp⟩
 | cons y l ih =>
  intro i
  rw [cIdx]
  by_cases h : y.kd = 3
  ·exact .inr ⟨0, y, by rw [if_pos h]; rfl, rfl, h, by simp⟩
  ·rw [if_neg h]
   rcases ih (i + 1) with ⟨h1, h2⟩ | ⟨j, x, h1, h2, h3, h4⟩
   ·refine .inl ⟨h1, fun x hx => ?_⟩
    rcases List.mem_cons.1 hx with rfl | hx
    ·exact h
    ·exact h2 x hx
   ·refine .inr ⟨j + 1, x, by rw [h1]; congr 1; omega, by simpa using h2, h3, fun z hz => ?_⟩
    rw [List.take_succ_cons] at hz
    rcases List.mem_cons.1 hz with rfl | hz
    ·exact h
    ·exact h4 z hz
theorem nocls_self {l : List Re} (h : ∀ x ∈ l, x.kd ≠ 3) : nocls l = l := List.filter_eq_self.2 fun x hx => by simpa using h x hx
theorem nocls_take {l : List Re} {i : Nat} {x : Re} (h : l[i]? = some x) : nocls (l.take (i + 1)) = if x.kd = 3 then nocls (l.take i) else nocls (l.take i) ++ [x] := by
 have e : l.take (i + 1) = l.take i ++ [x] := by rw [List.take_add_one, h]; rfl
 rw [e, nocls, List.filter_append, nocls]
 split <;> simp [*]
theorem clsS_take {l : List Re} {i : Nat} {x : Re} (h : l[i]? = some x) : clsS (l.take (i + 1)) = clsStep (clsS (l.take i)) x := by
 have e : l.take (i + 1) = l.take i ++ [x] := by rw [List.take_add_one, h]; rfl
 rw [e, clsS_snoc]
theorem alt1F (x : Re) (s : List Int) (h4 : s.length = 4) (M : List Re) (fr : List Ob) : AC Tryz.prog A1 [.agg x.c, .ref 1 0] (zOb :: wOb s :: reOb M :: fr) (fun o om => o = .ret (.b (x.kd == 3)) ∧ om = zOb :: wOb (clsStep s x) :: reOb M :: fr) := by
 refine ((alt1 x s h4 M).frame (fr := fr) ?_ ?_ ?_).mono ?_
 ·intro o ho
  simp only [List.mem_cons, List.not_mem_nil, or_false] at ho
  rcases ho with rfl | rfl | rfl
  ·exact fun d hd => by simp [zRe] at hd; rcases hd with rfl | rfl | rfl <;> simp
  ·exact fun d hd => (W_bl s d hd).mono (Nat.zero_le _)
  ·exact fun r hr d hd => (Re.map_bl M r hr d hd).mono (Nat.zero_le _)
 ·intro d hd
  simp only [List.mem_cons, List.not_mem_nil, or_false] at hd
  rcases hd with rfl | rfl
  ·exact (Re.d_bl x).mono (Nat.zero_le _)
  ·simp
 ·rintro _ _ ⟨rfl, rfl⟩; rfl
 ·rintro _ _ ⟨om', ⟨rfl, rfl⟩, rfl⟩
  exact ⟨rfl, rfl⟩
abbrev dI (k i : Nat) (s : List Int) (L : List Re) : St := ⟨f94_i11 (.own 2) (.fn A1 [.ref 1 0]) (.i k) (.i i), [zOb, wOb s, reOb L]⟩
theorem deleteA (M : List Re) (hM : M.length ≤ 100000000) : AC Tryz.prog 94 [.own 2, .fn A1 [.ref 1 0]] [zOb, wOb noneS, reOb M]
  (fun o om => (o = .ret (.own 2) ∧ (nocls M = M ∧ clsS M = noneS) ∧ om = [zOb, wOb noneS, reOb M]) ∨ (o = .ret (.own 3) ∧ om = [zOb, wOb (clsS M), .dead, reOb (nocls M)])) := by
 have hidx := indexA noneS rfl M (by omega)
 refine AC.lbodyA hT Tryz.func94 f94_nm f94_lc f94_res f94_nt ?_
 refine ALW.seq (xl_ok hT hm ?_)
 simp only [go_sem]
 refine ALW.seq (xl_ok hT hm ?_)
 simp only [go_sem]
 refine ⟨_, hidx, ?_⟩
 rintro _ _ ⟨rfl, rfl⟩
 rcases cIdx_spec M 0 with ⟨e, hno⟩ | ⟨j, x, e, hx, h3, hb⟩
 ·rw [e]
  simp only [go_sem]
  refine ALW.seq (xl_ok hT hm ?_)
  simp only [go_sem, Int.reduceBEq]
  exact Fin.mv (om' := [zOb, wOb noneS, reOb M]) [some 0, some 1, some 2] rfl (mvA rfl rfl rfl) (by simp) (.inl ⟨rfl, ⟨nocls_self hno, clsS_none hno⟩, rfl⟩)
 have hjl := (List.getElem?_eq_some_iff.1 hx).1
 have hj1 : ((0 + j : Nat) : Int) ≠ -1 := by omega
 have e2 : M.getD j empR = x := by rw [List.getD_eq_getElem?_getD, hx]; rfl
 have e3 : clsStep noneS x = clsS (M.take (j + 1)) := by
  rw [clsS_take hx, clsS_none hb]
 have e4 : nocls (M.take (j + 1)) = M.take j := by rw [nocls_take hx, if_pos h3, nocls_self hb]
 rw [e, if_neg hj1, Int.toNat_natCast, Nat.zero_add, e2, e3]
 simp only [go_sem, beq_false (show ((j : Nat) : Int) ≠ -1 by omega)]
 refine ALW.seq (xl_ok hT hm ?_)
 simp only [go_sem, beq_false (show ((j : Nat) : Int) ≠ -1 by omega)]
 refine ALW.seq (xl_ok hT hm ?_)
 simp only [go_sem]
 refine xl_loopM hT hm (fun p : Nat × List Re => dI (nocls (M.take p.1)).length p.1 (clsS (M.take p.1)) p.2)
  (fun p => p.1 ≤ M.length ∧ (nocls (M.take p.1)).length < p.1 ∧ p.2.length = M.length ∧ p.2.take (nocls (M.take p.1)).length = nocls (M.take p.1) ∧ p.2.drop p.1 = M.drop p.1) (fun p => M.length - p.1) (j + 1, M)
  ⟨hjl, by simp only [e4]; simp; omega, rfl, by simp only [e4]; simp, rfl⟩ ?_ ?_
 ·simp only [e4]
  rw [List.length_take, Nat.min_eq_left (by omega), wrap_succ j (by omega)]
  exact Mv.of [some 0, some 1, some 2] rfl (mvA rfl rfl rfl) (by simp [f94_i11])
 rintro ⟨i, L⟩ ⟨hi, hk, hL, ht, hd⟩
 simp only at hi hk hL ht hd ⊢
 by_cases h : i < M.length
 case neg =>
  obtain rfl : i = M.length := by omega
  rw [List.take_length] at ht hk ⊢
  simp only [go_sem, hL, h]
  refine ALW.seq (ALW.regClr hT (t := 25) (e := 27) (k := 2) (l := (nocls M).length) rfl rfl rfl (by decide) (by simp) (by simp) (by simp) rfl rfl rfl (by simp; omega) ?_)
  simp only [go_sem]
  refine ALW.seq (ALW.regX ?_)
  refine OpX.aop (own := true) hT ?_
  simp only [go_sem]
  refine OpX.aop (own := true) hT ?_
  simp only [go_sem]
  refine OpX.cut (h := (nocls M).length) hT (t := 25) (e := 27) (k := 2) (by rfl) (by rfl) (by rfl) (by rfl) (by rfl) (by rfl) (by simp; omega) ?_
  simp only [go_sem]
  refine OpX.aop (own := true) hT ?_
  simp only [go_sem]
  refine ALW.ret ?_
  have er : (List.take (nocls M).length (List.map Re.c L) ++ List.replicate (L.length - (nocls M).length) [D.any, D.any, D.any, D.any, D.any, D.any]).take (nocls M).length = (nocls M).map Re.c := by
   rw [List.take_append_of_le_length (by simp; omega), List.take_take, Nat.min_self, ← List.map_take, ht]
  simp only [go_sem, er]
  refine Fin.mv (om' := [zOb, wOb (clsS M), .dead, reOb (nocls M)]) [some 0, some 1, some 2, some 3] rfl ⟨.varS rfl (by simp [zRe]), .varS rfl (W_bl _), .deadE (by simp), .slcS rfl (Re.map_bl _), trivial⟩ (by simp) (.inr ⟨rfl, rfl⟩)
 obtain ⟨y, hy⟩ := get_ex h
 have hLy : L[i]? = some y := by
  have : (L.drop i)[0]? = (M.drop i)[0]? := by rw [hd]
  simpa [hy] using this
 have hcl : (clsS (M.take i)).length = 4 := clsS_len _
 simp only [go_sem, hL, h, hLy]
 refine ⟨_, alt1F y (clsS (M.take i)) hcl L [.var 27 y.c], ?_⟩
 rintro _ _ ⟨rfl, rfl⟩
 have f1 := nocls_take hy
 have f2 := clsS_take hy
 rw [← f2]
 by_cases hc : y.kd = 3
 ·rw [if_pos hc] at f1
  simp only [go_sem, hc, Int.reduceBEq]
  refine ⟨(i + 1, L), ⟨h, by simp only [f1]; omega, hL, by simp only [f1]; exact ht, ?_⟩, by simp only; omega, ?_⟩
  ·simp only
   rw [← List.drop_drop, ← List.drop_drop, hd]
  ·simp only [f1]
   rw [wrap_succ i (by omega)]
   exact Mv.of [some 0, some 1, some 2] rfl (mvA rfl rfl rfl) (by simp [f94_i11])
 ·rw [if_neg hc] at f1
  have hput : obPut (.slc 27 6 (L.map Re.c)) ((nocls (M.take i)).length * 6) y.c = some (.slc 27 6 ((L.set (nocls (M.take i)).length y).map Re.c)) := by
   rw [obPut_slc (by simp; omega) (all6 _) (by simp), List.map_set]
  have hkl : (nocls (M.take i)).length < L.length := by omega
  simp only [go_sem, beq_false hc]
  generalize hn : nocls (M.take i) = N at *
  obtain ⟨z, hz⟩ := get_ex hkl
  simp only [go_sem, hz, hput]
  refine ⟨(i + 1, L.set N.length y), ⟨h, by simp only [f1]; simp; omega, by simpa using hL, ?_, ?_⟩, by simp only; omega, ?_⟩
  ·simp only [f1]
   rw [List.length_append, List.length_singleton, List.take_add_one, List.getElem?_set_self hkl, List.take_set_of_le (Nat.le_refl _), ht]
   rfl
  ·simp only
   rw [List.drop_set_of_lt (by omega), ← List.drop_drop, ← List.drop_drop, hd]
  ·simp only [f1]
   rw [wrap_succ i (by omega), wrap_succ N.length (by omega), List.length_append, List.length_singleton]
   exact Mv.of [some 0, some 1, some 2] rfl (mvA rfl rfl rfl) (by simp [f94_i11])
end Go.Proofs.YtlejbkfefpfolaaGreatDoor.W
set_option maxRecDepth 100000
namespace Go.Proofs.YtlejbkfefpfolaaGreatDoor.W
open Go Go.Proofs Go.Proofs.YtlejbkfefpfolaaGreatDoor.AWP
attribute [local irreducible] xl hide aop aops aopQ qops guardP condP
theorem frzN {l : List Re} {k : Nat} {om : List Ob} {F : Nat → Bool} {ks : List (Option Nat)} (h : om[k]? = some (reOb l)) (hF : F k = true) : Cv om F ks (.own k) (Res l) := by
 show Cv om F ks (.own k) (.sl 6 (Re.cs l))
 rw [Re.cs_eq]
 exact Cv.frzS h hF (Re.map_bl _)
theorem nAlt (l : List Re) (hsz : Re.szs l ≤ 10000) (hok : ∀ x ∈ l, x.nodesOk = true) : AP Tryz.prog 75 [Res l] (.agg (altR l).c) := by
 have hfl := flatMap_len l hok
 have hg := gather_sz (l.flatMap Re.fl)
 have hf := flat_sz l hok
 have hll := szs_len l
 have hcl := clsS_len (l.flatMap Re.fl)
 have e : altR l = foldL 5 1 (onceR (sortR (gather (l.flatMap Re.fl)))) := rfl
 have c1 := flatO l (by omega) hok noneS
 rw [e]
 generalize l.flatMap Re.fl = F at *
 have hgl : (gather F).length ≤ 100000 := by omega
 have c2 := deleteA F (by omega)
 refine AC.lbody hT hm Tryz.func75 f75_nm f75_lc f75_res f75_nt ?_
 simp only [go_sem]
 refine ⟨_, c1, ?_⟩
 rintro _ _ ⟨rfl, rfl⟩
 simp only [go_sem]
 refine ⟨_, c2, ?_⟩
 rintro _ _ (⟨rfl, ⟨e1, e2⟩, rfl⟩ | ⟨rfl, rfl⟩)
 ·have e3 : gather F = F := by rw [gather, if_pos e2, e1]
  rw [e3] at hgl ⊢
  simp only [go_sem, noneS, wD_eq, intsEq, Int.reduceBEq]
  refine (sort F (by omega)).callF (fun k => k == 2) ⟨frzN rfl rfl, trivial⟩ (Res_bl' _) ?_
  have ef : frzL (fun k => k == 2) [zOb, wOb [0, 0, 0, 0], reOb F] = [zOb, wOb [0, 0, 0, 0], .frz 6 (F.map Re.c)] := rfl
  simp only [go_sem, ef]
  refine (once (sortR F) (by rw [sortR_len]; omega)).pd (by simp) (by simp) ?_
  simp only [go_sem]
  refine (rexOr (onceR (sortR F)) (by have := onceR_len (sortR F); rw [sortR_len] at this; omega)).pd (by simp) (Re.d_bl _) ?_
  simp only [go_sem, Re.put0]
  exact finR rfl
 ·obtain ⟨a, b, c, d, hs⟩ := four hcl
  by_cases hn : clsS F = noneS
  ·have e3 : gather F = nocls F := by rw [gather, if_pos hn]
   rw [e3] at hgl ⊢
   rw [hn]
   simp only [go_sem, noneS, wD_eq, intsEq, Int.reduceBEq]
   refine (sort (nocls F) (by omega)).callF (fun k => k == 3) ⟨frzN rfl rfl, trivial⟩ (Res_bl' _) ?_
   have ef : frzL (fun k => k == 3) [zOb, wOb [0, 0, 0, 0], .dead, reOb (nocls F)] = [zOb, wOb [0, 0, 0, 0], .dead, .frz 6 ((nocls F).map Re.c)] := rfl
   simp only [go_sem, ef]
   refine (once (sortR (nocls F)) (by rw [sortR_len]; omega)).pd (by simp) (by simp) ?_
   simp only [go_sem]
   refine (rexOr (onceR (sortR (nocls F))) (by have := onceR_len (sortR (nocls F)); rw [sortR_len] at this; omega)).pd (by simp) (Re.d_bl _) ?_
   simp only [go_sem, Re.put0]
   exact finR rfl
  ·have e3 : gather F = nocls F ++ [reS (clsS F)] := by rw [gather, if_neg hn]
   rw [e3] at hgl ⊢
   have hr := rexOf (clsS F) hcl
   generalize reS (clsS F) = C at *
   rw [hs] at hn hr ⊢
   have hn' : ¬ (a = 0 ∧ b = 0 ∧ c = 0 ∧ d = 0) := fun h => hn (by obtain ⟨rfl, rfl, rfl, rfl⟩ := h; rfl)
   have eb : (a == 0 && (b == 0 && (c == 0 && (d == 0 && true)))) = false := by
    rw [Bool.eq_false_iff]; simpa using hn'
   simp only [go_sem, wD_eq, intsEq, eb]
   refine hr.pd ⟨.same (.agg (W_bl [a, b, c, d])), trivial⟩ (Re.d_bl _) ?_
   simp only [go_sem]
   refine ⟨by simp at hgl; omega, ?_⟩
   refine (sort (nocls F ++ [C]) (by omega)).callF (fun k => k == 4) ⟨frzN (by simp) rfl, trivial⟩ (Res_bl' _) ?_
   have ef : frzL (fun k => k == 4) [zOb, wOb [a, b, c, d], .dead, .dead, .slc 27 6 ((nocls F).map Re.c ++ [C.c])] = [zOb, wOb [a, b, c, d], .dead, .dead, .frz 6 ((nocls F).map Re.c ++ [C.c])] := rfl
   simp only [go_sem, ef]
   refine (once (sortR (nocls F ++ [C])) (by rw [sortR_len]; omega)).pd (by simp) (by simp) ?_
   simp only [go_sem]
   refine (rexOr (onceR (sortR (nocls F ++ [C]))) (by have := onceR_len (sortR (nocls F ++ [C])); rw [sortR_len] at this; omega)).pd (by simp) (Re.d_bl _) ?_
   simp only [go_sem, Re.put0]
   exact finR rfl
end Go.Proofs.YtlejbkfefpfolaaGreatDoor.W
