/- Whether expressions are nullable, or void: the program's and the document's. -/
import Derived.Test.YteifkcgokjmcjaaNullA
set_option linter.unusedVariables false
set_option linter.unusedSimpArgs false
set_option linter.unusedSectionVars false
set_option maxRecDepth 100000
/- Whether expressions are nullable, or void: the program's and the document's. -/
namespace Go.Proofs.Yteifkcgokjmcjaa.W
open Go Go.Proofs Go.Proofs.Yteifkcgokjmcjaa.AWP
attribute [local irreducible] xl hide aop aops aopQ qops guardP condP

theorem mayB_ok {r : Re} (h : mayB r = true) : r.nodesOk = true := by
  unfold mayB at h
  rw [Bool.and_eq_true] at h
  exact h.1
def nulB (r : Re) : Bool := mayB r && r.nul
def voidB (r : Re) : Bool := mayB r && !r.fit
theorem resB (r : Re) : D.sl 6 [r.c] = Res [r] := by show _ = D.sl 6 (Re.cs [r]); rw [Re.cs_eq]; rfl

theorem rNull (r : Re) (hz : r.sz ≤ 1099511627776) : AP Try.prog 26 [.agg r.c] (.b (nulB r)) := by
  unfold nulB
  refine AC.lbody hT hm Try.func26 f26_nm f26_lc f26_res f26_nt ?_
  simp only [go_sem, Int.reduceEq, Int.reduceLE, Int.reduceLT, Int.reduceToNat]
  refine (rMay r hz).pv ⟨.same (Re.d_bl _), trivial⟩ ?_
  cases h : mayB r
  · simp only [go_sem, Int.reduceEq, Int.reduceLE, Int.reduceLT, Int.reduceToNat]
    exact Fin.v rfl
  · simp only [go_sem, Int.reduceEq, Int.reduceLE, Int.reduceLT, Int.reduceToNat]
    refine (rNul r (mayB_ok h)).pv ⟨.same (Re.d_bl _), trivial⟩ ?_
    simp only [go_sem, Int.reduceEq, Int.reduceLE, Int.reduceLT, Int.reduceToNat]
    exact Fin.v (by simp)
theorem rVoid (r : Re) (hz : r.sz ≤ 1099511627776) : AP Try.prog 27 [.agg r.c] (.b (voidB r)) := by
  unfold voidB
  refine AC.lbody hT hm Try.func27 f27_nm f27_lc f27_res f27_nt ?_
  simp only [go_sem, Int.reduceEq, Int.reduceLE, Int.reduceLT, Int.reduceToNat]
  refine (rMay r hz).pv ⟨.same (Re.d_bl _), trivial⟩ ?_
  cases h : mayB r
  · simp only [go_sem, Int.reduceEq, Int.reduceLE, Int.reduceLT, Int.reduceToNat]
    exact Fin.v rfl
  · simp only [go_sem, Int.reduceEq, Int.reduceLE, Int.reduceLT, Int.reduceToNat]
    refine (rFit r (mayB_ok h)).pv ⟨.same (Re.d_bl _), trivial⟩ ?_
    simp only [go_sem, Int.reduceEq, Int.reduceLE, Int.reduceLT, Int.reduceToNat]
    exact Fin.v (by simp)
theorem null1 (r : Re) (hz : r.sz ≤ 1099511627776) : AP Try.prog 57 [.agg r.c] (.b (!nulB r)) := by
  unfold nulB
  refine AC.lbody hT hm Try.func57 f57_nm f57_lc f57_res f57_nt ?_
  simp only [go_sem, Int.reduceEq, Int.reduceLE, Int.reduceLT, Int.reduceToNat]
  refine (may r hz).pv ⟨.eq (resB r) (by simp), trivial⟩ ?_
  cases h : mayB r
  · simp only [go_sem, Int.reduceEq, Int.reduceLE, Int.reduceLT, Int.reduceToNat, Bool.not_false]
    exact Fin.v rfl
  · simp only [go_sem, Int.reduceEq, Int.reduceLE, Int.reduceLT, Int.reduceToNat, Bool.not_true]
    refine (nNul r (mayB_ok h)).pv ⟨.same (Re.d_bl _), trivial⟩ ?_
    simp only [go_sem, Int.reduceEq, Int.reduceLE, Int.reduceLT, Int.reduceToNat]
    exact Fin.v (by simp)
theorem void1 (r : Re) (hz : r.sz ≤ 1099511627776) : AP Try.prog 59 [.agg r.c] (.b (voidB r)) := by
  unfold voidB
  refine AC.lbody hT hm Try.func59 f59_nm f59_lc f59_res f59_nt ?_
  simp only [go_sem, Int.reduceEq, Int.reduceLE, Int.reduceLT, Int.reduceToNat]
  refine (may r hz).pv ⟨.eq (resB r) (by simp), trivial⟩ ?_
  cases h : mayB r
  · simp only [go_sem, Int.reduceEq, Int.reduceLE, Int.reduceLT, Int.reduceToNat]
    exact Fin.v rfl
  · simp only [go_sem, Int.reduceEq, Int.reduceLE, Int.reduceLT, Int.reduceToNat]
    refine (nVoid r (mayB_ok h)).pv ⟨.same (Re.d_bl _), trivial⟩ ?_
    simp only [go_sem, Int.reduceEq, Int.reduceLE, Int.reduceLT, Int.reduceToNat]
    exact Fin.v (by simp)
theorem nullNull (l : List Re) (hl : l.length ≤ 9223372036854775807) (hz : ∀ x ∈ l, x.sz ≤ 1099511627776) : AP Try.prog 28 [Res l] (.b (l.all nulB)) := by
  have e : l.all nulB = !(l.any fun r => !nulB r) := by
    clear hl hz
    induction l with
    | nil => rfl
    | cons x l ih => rw [List.all_cons, List.any_cons, ih]; simp
  rw [e]
  refine AC.lbody hT hm Try.func28 f28_nm f28_lc f28_res f28_nt ?_
  simp only [go_sem, Int.reduceEq, Int.reduceLE, Int.reduceLT, Int.reduceToNat]
  refine (anyRe 57 (fun r => !nulB r) l hl fun x hx => null1 x (hz x hx)).pv ⟨.same (by simp), .same (by simp), trivial⟩ ?_
  simp only [go_sem, Int.reduceEq, Int.reduceLE, Int.reduceLT, Int.reduceToNat]
  exact Fin.v rfl
theorem nullVoid (l : List Re) (hl : l.length ≤ 9223372036854775807) (hz : ∀ x ∈ l, x.sz ≤ 1099511627776) : AP Try.prog 29 [Res l] (.b (l.any voidB)) := by
  refine AC.lbody hT hm Try.func29 f29_nm f29_lc f29_res f29_nt ?_
  simp only [go_sem, Int.reduceEq, Int.reduceLE, Int.reduceLT, Int.reduceToNat]
  refine (anyRe 59 voidB l hl fun x hx => void1 x (hz x hx)).pv ⟨.same (by simp), .same (by simp), trivial⟩ ?_
  simp only [go_sem, Int.reduceEq, Int.reduceLE, Int.reduceLT, Int.reduceToNat]
  exact Fin.v rfl
theorem nullNull1 (r : Re) (hz : r.sz ≤ 1099511627776) : AP Try.prog 28 [D.sl 6 [r.c]] (.b (nulB r)) := by
  have := nullNull [r] (by simp) (by intro x hx; rw [List.mem_singleton.1 hx]; exact hz)
  rw [← resB] at this
  simpa using this
theorem nullVoid1 (r : Re) (hz : r.sz ≤ 1099511627776) : AP Try.prog 29 [D.sl 6 [r.c]] (.b (voidB r)) := by
  have := nullVoid [r] (by simp) (by intro x hx; rw [List.mem_singleton.1 hx]; exact hz)
  rw [← resB] at this
  simpa using this

/-! ### First bytes -/
theorem fst_len (r : Re) : r.fst.length = 4 := by
  refine Re.ind (p := fun r => r.fst.length = 4) ?_ r
  intro k a b c d ks ih
  match ks, ih with
  | [], _ => simp only [Re.fst]; split <;> rfl
  | [x], ih => rw [Re.fst]; exact ih x (by simp)
  | [x, y], ih =>
    rw [Re.fst]
    have hj : (joinAll [x.fst, y.fst]).length = 4 := joinAll_len (by intro z hz; rcases List.mem_cons.1 hz with rfl | hz; exact ih x (by simp); rw [List.mem_singleton.1 hz]; exact ih y (by simp))
    split
    · split
      · split
        · exact hj
        · exact ih x (by simp)
      · rfl
    · exact hj
  | x :: y :: z :: l, _ => simp only [Re.fst]; split <;> rfl
theorem W_putE {ty : Nat} {a b c d : Int} {ws : List Int} (h : ws.length = 4) : obPut (.var ty [.v (.int .u64 a), .v (.int .u64 b), .v (.int .u64 c), .v (.int .u64 d)]) 0 (ws.map wD) = some (.var ty (ws.map wD)) := W_put (a := [a, b, c, d]) rfl h

theorem nFirst (r : Re) : r.nodesOk = true → AP Try.prog 62 [.agg r.c] (Ws r.fst) := by
  refine Re.indOk (p := fun r => AP Try.prog 62 [.agg r.c] (Ws r.fst)) ?_ ?_ ?_ ?_ r
  · intro k hk
    have e : (Re.mk k 0 0 0 0 []).fst = noneS := by rcases hk with rfl | rfl <;> simp [Re.fst]
    rw [e]
    refine AC.lbody hT hm Try.func62 f62_nm f62_lc f62_res f62_nt ?_
    rcases hk with rfl | rfl
    · simp only [go_sem, Int.reduceEq, Int.reduceLE, Int.reduceLT, Int.reduceToNat, Re.c_mk, Int.reduceBEq]
      exact Fin.ret (Cv.same (.agg (W_bl noneS)))
    · simp only [go_sem, Int.reduceEq, Int.reduceLE, Int.reduceLT, Int.reduceToNat, Re.c_mk, Int.reduceBEq]
      exact Fin.ret (Cv.same (.agg (W_bl noneS)))
  · intro a b c d _
    have e : (Re.mk 3 a b c d []).fst = [a, b, c, d] := by simp [Re.fst]
    rw [e]
    refine AC.lbody hT hm Try.func62 f62_nm f62_lc f62_res f62_nt ?_
    simp only [go_sem, Int.reduceEq, Int.reduceLE, Int.reduceLT, Int.reduceToNat, Re.c_mk, Int.reduceBEq]
    exact Fin.ret (Cv.same (.agg (W_bl [a, b, c, d])))
  · intro k x y hk hox hoy hx hy
    have hlx := fst_len x
    have hly := fst_len y
    have hj : (joinAll [x.fst, y.fst]).length = 4 := joinAll_len (by intro z hz; rcases List.mem_cons.1 hz with rfl | hz; exact hlx; rw [List.mem_singleton.1 hz]; exact hly)
    have sj := setJoin [x.fst, y.fst] (by simp) (by intro z hz; rcases List.mem_cons.1 hz with rfl | hz; exact hlx; rw [List.mem_singleton.1 hz]; exact hly)
    rcases hk with rfl | rfl
    · have hv := nVoid (.mk 4 0 0 0 0 [x, y]) (by rw [Re.nodesOk, Re.nodesOks, Re.nodesOks, Re.nodesOks, hox, hoy]; rfl)
      have ev : (Re.mk 4 0 0 0 0 [x, y]).fit = (x.fit && y.fit) := by simp [Re.fit]
      rw [ev] at hv
      have e : (Re.mk 4 0 0 0 0 [x, y]).fst = if x.fit && y.fit then (if x.nul then joinAll [x.fst, y.fst] else x.fst) else noneS := by simp [Re.fst]
      rw [e]
      refine AC.lbody hT hm Try.func62 f62_nm f62_lc f62_res f62_nt ?_
      simp only [go_sem, Int.reduceEq, Int.reduceLE, Int.reduceLT, Int.reduceToNat, Re.c_mk, Int.reduceBEq]
      refine hv.pv ⟨.eq (by simp [Re.c_mk, Re.cs_eq]) (by simp), trivial⟩ ?_
      cases x.fit && y.fit
      · simp only [go_sem, Int.reduceEq, Int.reduceLE, Int.reduceLT, Int.reduceToNat, Bool.not_false]
        exact Fin.ret (Cv.same (.agg (W_bl noneS)))
      simp only [go_sem, Int.reduceEq, Int.reduceLE, Int.reduceLT, Int.reduceToNat, Bool.not_true, Re.c_mk]
      refine (nNul x hox).pv ⟨.same (Re.d_bl _), trivial⟩ ?_
      cases x.nul
      · simp only [go_sem, Int.reduceEq, Int.reduceLE, Int.reduceLT, Int.reduceToNat, Re.c_mk]
        refine hx.pd ⟨.same (Re.d_bl _), trivial⟩ (.agg (W_bl _)) ?_
        simp only [go_sem, Int.reduceEq, Int.reduceLE, Int.reduceLT, Int.reduceToNat, hlx, W_take hlx, W_putE hlx, W_drop0]
        exact Fin.ret (Cv.same (.agg (W_bl _)))
      simp only [go_sem, Int.reduceEq, Int.reduceLE, Int.reduceLT, Int.reduceToNat, Re.c_mk]
      refine hx.qd ⟨.same (Re.d_bl _), trivial⟩ (.agg (W_bl _)) ?_
      simp only [go_sem, Int.reduceEq, Int.reduceLE, Int.reduceLT, Int.reduceToNat, Re.c_mk]
      refine hy.pd ⟨.same (Re.d_bl _), trivial⟩ (.agg (W_bl _)) ?_
      simp only [go_sem, Int.reduceEq, Int.reduceLE, Int.reduceLT, Int.reduceToNat, Re.c_mk, hlx, hly]
      refine sj.pd ⟨.same (.sl (Wss_bl [x.fst, y.fst])), trivial⟩ (.agg (W_bl _)) ?_
      simp only [go_sem, Int.reduceEq, Int.reduceLE, Int.reduceLT, Int.reduceToNat, hj, W_take hj, W_putE hj, W_drop0]
      exact Fin.ret (Cv.same (.agg (W_bl _)))
    · have e : (Re.mk 5 0 0 0 0 [x, y]).fst = joinAll [x.fst, y.fst] := by simp [Re.fst]
      rw [e]
      refine AC.lbody hT hm Try.func62 f62_nm f62_lc f62_res f62_nt ?_
      simp only [go_sem, Int.reduceEq, Int.reduceLE, Int.reduceLT, Int.reduceToNat, Re.c_mk, Int.reduceBEq]
      refine hx.qd ⟨.same (Re.d_bl _), trivial⟩ (.agg (W_bl _)) ?_
      simp only [go_sem, Int.reduceEq, Int.reduceLE, Int.reduceLT, Int.reduceToNat, Re.c_mk]
      refine hy.pd ⟨.same (Re.d_bl _), trivial⟩ (.agg (W_bl _)) ?_
      simp only [go_sem, Int.reduceEq, Int.reduceLE, Int.reduceLT, Int.reduceToNat, Re.c_mk, hlx, hly]
      refine sj.pd ⟨.same (.sl (Wss_bl [x.fst, y.fst])), trivial⟩ (.agg (W_bl _)) ?_
      simp only [go_sem, Int.reduceEq, Int.reduceLE, Int.reduceLT, Int.reduceToNat, hj, W_take hj, W_putE hj, W_drop0]
      exact Fin.ret (Cv.same (.agg (W_bl _)))
  · intro x _ hx
    have e : (Re.mk 6 0 0 0 0 [x]).fst = x.fst := by simp [Re.fst]
    rw [e]
    have hlx := fst_len x
    refine AC.lbody hT hm Try.func62 f62_nm f62_lc f62_res f62_nt ?_
    simp only [go_sem, Int.reduceEq, Int.reduceLE, Int.reduceLT, Int.reduceToNat, Re.c_mk, Int.reduceBEq]
    refine hx.pd ⟨.same (Re.d_bl _), trivial⟩ (.agg (W_bl _)) ?_
    simp only [go_sem, Int.reduceEq, Int.reduceLE, Int.reduceLT, Int.reduceToNat, hlx, W_take hlx, W_putE hlx, W_drop0]
    exact Fin.ret (Cv.same (.agg (W_bl _)))
end Go.Proofs.Yteifkcgokjmcjaa.W
