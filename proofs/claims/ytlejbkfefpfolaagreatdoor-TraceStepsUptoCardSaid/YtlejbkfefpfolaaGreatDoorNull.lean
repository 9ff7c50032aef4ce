/- First bytes; the document's example; whether any expressions are nullable, or one is void, is the document's. -/
import Derived.Test.YtlejbkfefpfolaaGreatDoorWalkC
import Derived.Test.YtlejbkfefpfolaaGreatDoorMath
set_option linter.unusedVariables false
set_option linter.unusedSimpArgs false
set_option linter.unusedSectionVars false
set_option maxRecDepth 100000
namespace Go.Proofs.YtlejbkfefpfolaaGreatDoor.W
open Go Go.Proofs Go.Proofs.YtlejbkfefpfolaaGreatDoor.AWP
attribute [local irreducible] xl hide aop aops aopQ qops guardP condP
theorem rNul (r : Re) : r.nodesOk = true → AP Tryz.prog 43 [.agg r.c] (.b r.nul) := by
 refine Re.indOk (p := fun r => AP Tryz.prog 43 [.agg r.c] (.b r.nul)) ?_ ?_ ?_ ?_ r
 ·intro k hk
  refine AC.lbody hT hm Tryz.func43 f43_nm f43_lc f43_res f43_nt ?_
  rcases hk with rfl | rfl
  ·simp only [go_sem, Int.reduceEq, Int.reduceLE, Int.reduceLT, Int.reduceToNat, Re.c_mk, Int.reduceBEq, Int.reduceBNe]
   exact Fin.v (by simp [Re.nul])
  ·simp only [go_sem, Int.reduceEq, Int.reduceLE, Int.reduceLT, Int.reduceToNat, Re.c_mk, Int.reduceBEq, Int.reduceBNe]
   exact Fin.v (by simp [Re.nul])
 ·intro a b c d _
  refine AC.lbody hT hm Tryz.func43 f43_nm f43_lc f43_res f43_nt ?_
  simp only [go_sem, Int.reduceEq, Int.reduceLE, Int.reduceLT, Int.reduceToNat, Re.c_mk, Int.reduceBEq, Int.reduceBNe]
  exact Fin.v (by simp [Re.nul])
 ·intro k x y hk _ _ hx hy
  refine AC.lbody hT hm Tryz.func43 f43_nm f43_lc f43_res f43_nt ?_
  rcases hk with rfl | rfl
  ·simp only [go_sem, Int.reduceEq, Int.reduceLE, Int.reduceLT, Int.reduceToNat, Re.c_mk, Int.reduceBEq]
   refine hx.pv ⟨.same (Re.d_bl _), trivial⟩ ?_
   have e : Re.nul (.mk 4 0 0 0 0 [x, y]) = (x.nul && y.nul) := by rw [Re.nul]; rfl
   rw [e]
   cases x.nul
   ·simp only [go_sem, Int.reduceEq, Int.reduceLE, Int.reduceLT, Int.reduceToNat, Bool.not_false, Bool.not_true]
    exact Fin.v (by simp)
   ·simp only [go_sem, Int.reduceEq, Int.reduceLE, Int.reduceLT, Int.reduceToNat, Re.c_mk, Bool.not_false, Bool.not_true]
    refine hy.pv ⟨.same (Re.d_bl _), trivial⟩ ?_
    simp only [go_sem, Int.reduceEq, Int.reduceLE, Int.reduceLT, Int.reduceToNat]
    exact Fin.v (by simp)
  ·simp only [go_sem, Int.reduceEq, Int.reduceLE, Int.reduceLT, Int.reduceToNat, Re.c_mk, Int.reduceBEq]
   refine hx.pv ⟨.same (Re.d_bl _), trivial⟩ ?_
   have e : Re.nul (.mk 5 0 0 0 0 [x, y]) = (x.nul || y.nul) := by rw [Re.nul]; rfl
   rw [e]
   cases x.nul
   ·simp only [go_sem, Int.reduceEq, Int.reduceLE, Int.reduceLT, Int.reduceToNat, Re.c_mk, Bool.not_false, Bool.not_true]
    refine hy.pv ⟨.same (Re.d_bl _), trivial⟩ ?_
    simp only [go_sem, Int.reduceEq, Int.reduceLE, Int.reduceLT, Int.reduceToNat]
    exact Fin.v (by simp)
   ·simp only [go_sem, Int.reduceEq, Int.reduceLE, Int.reduceLT, Int.reduceToNat, Bool.not_false, Bool.not_true]
    exact Fin.v (by simp)
 ·intro x _ hx
  refine AC.lbody hT hm Tryz.func43 f43_nm f43_lc f43_res f43_nt ?_
  simp only [go_sem, Int.reduceEq, Int.reduceLE, Int.reduceLT, Int.reduceToNat, Re.c_mk, Int.reduceBEq, Int.reduceBNe]
  exact Fin.v (by simp [Re.nul])
theorem nNul (r : Re) : r.nodesOk = true → AP Tryz.prog 40 [.agg r.c] (.b r.nul) := by
 refine Re.indOk (p := fun r => AP Tryz.prog 40 [.agg r.c] (.b r.nul)) ?_ ?_ ?_ ?_ r
 ·intro k hk
  refine AC.lbody hT hm Tryz.func40 f40_nm f40_lc f40_res f40_nt ?_
  rcases hk with rfl | rfl
  ·simp only [go_sem, Int.reduceEq, Int.reduceLE, Int.reduceLT, Int.reduceToNat, Re.c_mk, Int.reduceBEq, Int.reduceBNe]
   exact Fin.v (by simp [Re.nul])
  ·simp only [go_sem, Int.reduceEq, Int.reduceLE, Int.reduceLT, Int.reduceToNat, Re.c_mk, Int.reduceBEq, Int.reduceBNe]
   exact Fin.v (by simp [Re.nul])
 ·intro a b c d _
  refine AC.lbody hT hm Tryz.func40 f40_nm f40_lc f40_res f40_nt ?_
  simp only [go_sem, Int.reduceEq, Int.reduceLE, Int.reduceLT, Int.reduceToNat, Re.c_mk, Int.reduceBEq, Int.reduceBNe]
  exact Fin.v (by simp [Re.nul])
 ·intro k x y hk _ _ hx hy
  refine AC.lbody hT hm Tryz.func40 f40_nm f40_lc f40_res f40_nt ?_
  rcases hk with rfl | rfl
  ·simp only [go_sem, Int.reduceEq, Int.reduceLE, Int.reduceLT, Int.reduceToNat, Re.c_mk, Int.reduceBEq]
   refine hx.pv ⟨.same (Re.d_bl _), trivial⟩ ?_
   have e : Re.nul (.mk 4 0 0 0 0 [x, y]) = (x.nul && y.nul) := by rw [Re.nul]; rfl
   rw [e]
   cases x.nul
   ·simp only [go_sem, Int.reduceEq, Int.reduceLE, Int.reduceLT, Int.reduceToNat, Bool.not_false, Bool.not_true]
    exact Fin.v (by simp)
   ·simp only [go_sem, Int.reduceEq, Int.reduceLE, Int.reduceLT, Int.reduceToNat, Re.c_mk, Bool.not_false, Bool.not_true]
    refine hy.pv ⟨.same (Re.d_bl _), trivial⟩ ?_
    simp only [go_sem, Int.reduceEq, Int.reduceLE, Int.reduceLT, Int.reduceToNat]
    exact Fin.v (by simp)
  ·simp only [go_sem, Int.reduceEq, Int.reduceLE, Int.reduceLT, Int.reduceToNat, Re.c_mk, Int.reduceBEq]
   refine hx.pv ⟨.same (Re.d_bl _), trivial⟩ ?_
   have e : Re.nul (.mk 5 0 0 0 0 [x, y]) = (x.nul || y.nul) := by rw [Re.nul]; rfl
   rw [e]
   cases x.nul
   ·simp only [go_sem, Int.reduceEq, Int.reduceLE, Int.reduceLT, Int.reduceToNat, Re.c_mk, Bool.not_false, Bool.not_true]
    refine hy.pv ⟨.same (Re.d_bl _), trivial⟩ ?_
    simp only [go_sem, Int.reduceEq, Int.reduceLE, Int.reduceLT, Int.reduceToNat]
    exact Fin.v (by simp)
   ·simp only [go_sem, Int.reduceEq, Int.reduceLE, Int.reduceLT, Int.reduceToNat, Bool.not_false, Bool.not_true]
    exact Fin.v (by simp)
 ·intro x _ hx
  refine AC.lbody hT hm Tryz.func40 f40_nm f40_lc f40_res f40_nt ?_
  simp only [go_sem, Int.reduceEq, Int.reduceLE, Int.reduceLT, Int.reduceToNat, Re.c_mk, Int.reduceBEq, Int.reduceBNe]
  exact Fin.v (by simp [Re.nul])
end Go.Proofs.YtlejbkfefpfolaaGreatDoor.W
set_option maxRecDepth 100000
namespace Go.Proofs.YtlejbkfefpfolaaGreatDoor.W
open Go Go.Proofs Go.Proofs.YtlejbkfefpfolaaGreatDoor.AWP
attribute [local irreducible] xl hide aop aops aopQ qops guardP condP
theorem mayB_ok {r : Re} (h : mayB r = true) : r.nodesOk = true := by
 unfold mayB at h
 rw [Bool.and_eq_true] at h
 exact h.1
def nulB (r : Re) : Bool := mayB r && r.nul
theorem resB (r : Re) : D.sl 6 [r.c] = Res [r] := by show _ = D.sl 6 (Re.cs [r]); rw [Re.cs_eq]; rfl
theorem null1 (r : Re) (hz : r.sz ≤ 1099511627776) : AP Tryz.prog 39 [.agg r.c] (.b (!nulB r)) := by
 unfold nulB
 refine AC.lbody hT hm Tryz.func39 f39_nm f39_lc f39_res f39_nt ?_
 simp only [go_sem, Int.reduceEq, Int.reduceLE, Int.reduceLT, Int.reduceToNat]
 refine (may r hz).pv ⟨.eq (resB r) (by simp), trivial⟩ ?_
 cases h : mayB r
 ·simp only [go_sem, Int.reduceEq, Int.reduceLE, Int.reduceLT, Int.reduceToNat, Bool.not_false]
  exact Fin.v rfl
 ·simp only [go_sem, Int.reduceEq, Int.reduceLE, Int.reduceLT, Int.reduceToNat, Bool.not_true]
  refine (nNul r (mayB_ok h)).pv ⟨.same (Re.d_bl _), trivial⟩ ?_
  simp only [go_sem, Int.reduceEq, Int.reduceLE, Int.reduceLT, Int.reduceToNat]
  exact Fin.v (by simp)
theorem nullNull (l : List Re) (hl : l.length ≤ 9223372036854775807) (hz : ∀ x ∈ l, x.sz ≤ 1099511627776) : AP Tryz.prog 20 [Res l] (.b (l.all nulB)) := by
 have e : l.all nulB = !(l.any fun r => !nulB r) := by
  clear hl hz
  induction l with
  | nil => rfl
  | cons x l ih => rw [List.all_cons, List.any_cons, ih]; simp
 rw [e]
 refine AC.lbody hT hm Tryz.func20 f20_nm f20_lc f20_res f20_nt ?_
 simp only [go_sem, Int.reduceEq, Int.reduceLE, Int.reduceLT, Int.reduceToNat]
 refine (anyRe 39 (fun r => !nulB r) l hl fun x hx => null1 x (hz x hx)).pv ⟨.same (by simp), .same (by simp), trivial⟩ ?_
 simp only [go_sem, Int.reduceEq, Int.reduceLE, Int.reduceLT, Int.reduceToNat]
 exact Fin.v rfl
theorem nullNull1 (r : Re) (hz : r.sz ≤ 1099511627776) : AP Tryz.prog 20 [D.sl 6 [r.c]] (.b (nulB r)) := by
 have := nullNull [r] (by simp) (by intro x hx; rw [List.mem_singleton.1 hx]; exact hz)
 rw [← resB] at this
 simpa using this
end Go.Proofs.YtlejbkfefpfolaaGreatDoor.W
set_option maxRecDepth 100000
namespace Go.Proofs.YtlejbkfefpfolaaGreatDoor.W
open Go Go.Proofs Go.Proofs.YtlejbkfefpfolaaGreatDoor.AWP
theorem mayCase (r : Re) : mayB r = false ∨ mayB r = true := by cases mayB r <;> simp
theorem mayZ {r : Re} (h : mayB r = true) : r.nodesOk = true ∧ r.sz ≤ 2000 := by
 unfold mayB at h
 simpa using h
theorem wdD_bl (x : Re × Nat × Nat) : Bl 0 (wdD x) := by
 refine .tup ?_
 simp
end Go.Proofs.YtlejbkfefpfolaaGreatDoor.W
set_option maxRecDepth 100000
namespace Go.Proofs.YtlejbkfefpfolaaGreatDoor.W
open Go Go.Proofs Go.Proofs.YtlejbkfefpfolaaGreatDoor.AWP
attribute [local irreducible] xl hide aop aops aopQ qops guardP condP
end Go.Proofs.YtlejbkfefpfolaaGreatDoor.W
