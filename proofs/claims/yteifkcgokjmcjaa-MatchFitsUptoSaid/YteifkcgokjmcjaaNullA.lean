/- How many nodes, as far as some; which expressions are nullable, or void. -/
import Derived.Test.YteifkcgokjmcjaaReadB
import Derived.Test.YteifkcgokjmcjaaGenB
import Derived.Test.YteifkcgokjmcjaaNullMath
set_option linter.unusedVariables false
set_option linter.unusedSimpArgs false
set_option linter.unusedSectionVars false
set_option maxRecDepth 100000
/- How many nodes, as far as some; which expressions are nullable, or void. -/
namespace Go.Proofs.Yteifkcgokjmcjaa.W
open Go Go.Proofs Go.Proofs.Yteifkcgokjmcjaa.AWP
attribute [local irreducible] xl hide aop aops aopQ qops guardP condP

theorem count (most : Int) (x : Re) : AP Try.prog 50 [.agg x.c, .i most] (.i (x.cnt most)) := by
  refine Re.ind (p := fun x => AP Try.prog 50 [.agg x.c, .i most] (.i (x.cnt most))) ?_ x
  intro k a b c d ks ih
  refine AC.wf rfl fun hw => ?_
  have hlen : ks.length ≤ 9223372036854775807 := by
    have := Re.ok_agg (hw _ (List.mem_cons_self ..))
    rw [Re.Ok] at this
    exact this.2
  refine AC.lbody hT hm Try.func50 f50_nm f50_lc f50_res f50_nt ?_
  simp only [go_sem, Int.reduceEq, Int.reduceLE, Int.reduceLT, Int.reduceToNat]
  refine xl_loopM hT hm (fun i : Nat × Int => ⟨f50_i9 (.i most) (.pel (Re.mk k a b c d ks).c) (.i i.2) (.i ks.length) (.i i.1), []⟩)
    (fun i : Nat × Int => i.1 ≤ ks.length ∧ Re.cnts most ks 1 = Re.cnts most (ks.drop i.1) i.2) (fun i => ks.length - i.1) (0, 1) ⟨Nat.zero_le _, rfl⟩ (Mv.none (by simp [f50_i9, Re.c_mk, Re.cs_eq])) ?_
  rintro ⟨i, t⟩ ⟨q1, q3⟩
  simp only at q1 q3
  simp only [go_sem, Int.reduceEq, Int.reduceLE, Int.reduceLT, Int.reduceToNat]
  by_cases hi : i < ks.length
  · obtain ⟨x, hxi⟩ := get_ex hi
    simp only [go_sem, Int.reduceEq, Int.reduceLE, Int.reduceLT, Int.reduceToNat, hi]
    by_cases hm : most < t
    · simp only [go_sem, Int.reduceEq, Int.reduceLE, Int.reduceLT, Int.reduceToNat, hm]
      refine Fin.v ?_
      rw [Re.cnt, q3, drop_get hxi, Re.cnts, if_pos hm]
    · simp only [go_sem, Int.reduceEq, Int.reduceLE, Int.reduceLT, Int.reduceToNat, hm, hxi]
      refine (ih x (List.mem_of_getElem? hxi)).pv (by simp) ?_
      simp only [go_sem, Int.reduceEq, Int.reduceLE, Int.reduceLT, Int.reduceToNat]
      refine ⟨(i + 1, IntKind.wrap .i64 (t + x.cnt most)), ⟨hi, ?_⟩, by simp only; omega, ?_⟩
      · rw [q3, drop_get hxi, Re.cnts, if_neg hm]
      · rw [wrap_succ i (by omega)]
        exact Mv.none (by simp)
  · simp only [go_sem, Int.reduceEq, Int.reduceLE, Int.reduceLT, Int.reduceToNat, hi]
    refine Fin.v ?_
    rw [Re.cnt, q3, drop_end hi, Re.cnts]

theorem great (most : Int) (x : Re) : AP Try.prog 21 [.agg x.c, .i most] (.b (decide (most < x.cnt most))) := by
  refine AC.lbody hT hm Try.func21 f21_nm f21_lc f21_res f21_nt ?_
  simp only [go_sem, Int.reduceEq, Int.reduceLE, Int.reduceLT, Int.reduceToNat]
  refine (count most x).pv (by simp) ?_
  simp only [go_sem, Int.reduceEq, Int.reduceLE, Int.reduceLT, Int.reduceToNat]
  exact Fin.v rfl
def gAll (m : Int) (l : List Re) : Bool := decide (20 < l.length) || l.any fun x => decide (m < x.cnt m)

theorem greatAll (m : Int) (l : List Re) : AP Try.prog 24 [Res l, .i m] (.b (gAll m l)) := by
  refine AC.lbody hT hm Try.func24 f24_nm f24_lc f24_res f24_nt ?_
  simp only [go_sem, Int.reduceEq, Int.reduceLE, Int.reduceLT, Int.reduceToNat]
  by_cases h0 : (20 : Int) < l.length
  case pos =>
    simp only [go_sem, Int.reduceEq, Int.reduceLE, Int.reduceLT, Int.reduceToNat, h0]
    refine Fin.v ?_
    simp [gAll, show 20 < l.length by omega]
  simp only [go_sem, Int.reduceEq, Int.reduceLE, Int.reduceLT, Int.reduceToNat, h0]
  have e0 : gAll m l = l.any fun x => decide (m < x.cnt m) := by simp [gAll, show ¬ 20 < l.length by omega]
  rw [e0]
  refine xl_loopM hT hm (fun i : Nat => ⟨f24_i9 (Res l) (.i m) (.i l.length) (.i i), []⟩)
    (fun i => i ≤ l.length ∧ (l.any fun x => decide (m < x.cnt m)) = (l.drop i).any fun x => decide (m < x.cnt m)) (fun i => l.length - i) 0 ⟨Nat.zero_le _, rfl⟩ (Mv.none (by simp [f24_i9])) ?_
  rintro i ⟨hi, hq⟩
  simp only [go_sem, Int.reduceEq, Int.reduceLE, Int.reduceLT, Int.reduceToNat]
  by_cases h : i < l.length
  case neg =>
    simp only [go_sem, Int.reduceEq, Int.reduceLE, Int.reduceLT, Int.reduceToNat, h]
    refine Fin.v ?_
    rw [hq, drop_end h]; rfl
  obtain ⟨y, hy⟩ := get_ex h
  simp only [go_sem, Int.reduceEq, Int.reduceLE, Int.reduceLT, Int.reduceToNat, h, hy]
  refine (great m y).pv (by simp) ?_
  simp only [go_sem, Int.reduceEq, Int.reduceLE, Int.reduceLT, Int.reduceToNat]
  by_cases hc : m < y.cnt m
  · simp only [go_sem, Int.reduceEq, Int.reduceLE, Int.reduceLT, Int.reduceToNat, hc]
    refine Fin.v ?_
    rw [hq, drop_get hy, List.any_cons]; simp [hc]
  · simp only [go_sem, Int.reduceEq, Int.reduceLE, Int.reduceLT, Int.reduceToNat, hc]
    refine ⟨i + 1, ⟨h, ?_⟩, by omega, ?_⟩
    · rw [hq, drop_get hy, List.any_cons]; simp [hc]
    · rw [wrap_succ i (by omega)]
      exact Mv.none (by simp)

theorem gAll_len {m : Int} {l : List Re} (h : gAll m l = false) : l.length ≤ 20 := by
  simp only [gAll, Bool.or_eq_false_iff, decide_eq_false_iff_not] at h
  omega

theorem rNul (r : Re) : r.nodesOk = true → AP Try.prog 54 [.agg r.c] (.b r.nul) := by
  refine Re.indOk (p := fun r => AP Try.prog 54 [.agg r.c] (.b r.nul)) ?_ ?_ ?_ ?_ r
  · intro k hk
    refine AC.lbody hT hm Try.func54 f54_nm f54_lc f54_res f54_nt ?_
    rcases hk with rfl | rfl
    · simp only [go_sem, Int.reduceEq, Int.reduceLE, Int.reduceLT, Int.reduceToNat, Re.c_mk, Int.reduceBEq, Int.reduceBNe]
      exact Fin.v (by simp [Re.nul])
    · simp only [go_sem, Int.reduceEq, Int.reduceLE, Int.reduceLT, Int.reduceToNat, Re.c_mk, Int.reduceBEq, Int.reduceBNe]
      exact Fin.v (by simp [Re.nul])
  · intro a b c d _
    refine AC.lbody hT hm Try.func54 f54_nm f54_lc f54_res f54_nt ?_
    simp only [go_sem, Int.reduceEq, Int.reduceLE, Int.reduceLT, Int.reduceToNat, Re.c_mk, Int.reduceBEq, Int.reduceBNe]
    exact Fin.v (by simp [Re.nul])
  · intro k x y hk _ _ hx hy
    refine AC.lbody hT hm Try.func54 f54_nm f54_lc f54_res f54_nt ?_
    rcases hk with rfl | rfl
    · simp only [go_sem, Int.reduceEq, Int.reduceLE, Int.reduceLT, Int.reduceToNat, Re.c_mk, Int.reduceBEq]
      refine hx.pv ⟨.same (Re.d_bl _), trivial⟩ ?_
      have e : Re.nul (.mk 4 0 0 0 0 [x, y]) = (x.nul && y.nul) := by rw [Re.nul]; rfl
      rw [e]
      cases x.nul
      · simp only [go_sem, Int.reduceEq, Int.reduceLE, Int.reduceLT, Int.reduceToNat, Bool.not_false, Bool.not_true]
        exact Fin.v (by simp)
      · simp only [go_sem, Int.reduceEq, Int.reduceLE, Int.reduceLT, Int.reduceToNat, Re.c_mk, Bool.not_false, Bool.not_true]
        refine hy.pv ⟨.same (Re.d_bl _), trivial⟩ ?_
        simp only [go_sem, Int.reduceEq, Int.reduceLE, Int.reduceLT, Int.reduceToNat]
        exact Fin.v (by simp)
    · simp only [go_sem, Int.reduceEq, Int.reduceLE, Int.reduceLT, Int.reduceToNat, Re.c_mk, Int.reduceBEq]
      refine hx.pv ⟨.same (Re.d_bl _), trivial⟩ ?_
      have e : Re.nul (.mk 5 0 0 0 0 [x, y]) = (x.nul || y.nul) := by rw [Re.nul]; rfl
      rw [e]
      cases x.nul
      · simp only [go_sem, Int.reduceEq, Int.reduceLE, Int.reduceLT, Int.reduceToNat, Re.c_mk, Bool.not_false, Bool.not_true]
        refine hy.pv ⟨.same (Re.d_bl _), trivial⟩ ?_
        simp only [go_sem, Int.reduceEq, Int.reduceLE, Int.reduceLT, Int.reduceToNat]
        exact Fin.v (by simp)
      · simp only [go_sem, Int.reduceEq, Int.reduceLE, Int.reduceLT, Int.reduceToNat, Bool.not_false, Bool.not_true]
        exact Fin.v (by simp)
  · intro x _ hx
    refine AC.lbody hT hm Try.func54 f54_nm f54_lc f54_res f54_nt ?_
    simp only [go_sem, Int.reduceEq, Int.reduceLE, Int.reduceLT, Int.reduceToNat, Re.c_mk, Int.reduceBEq, Int.reduceBNe]
    exact Fin.v (by simp [Re.nul])
theorem rFit (r : Re) : r.nodesOk = true → AP Try.prog 55 [.agg r.c] (.b r.fit) := by
  refine Re.indOk (p := fun r => AP Try.prog 55 [.agg r.c] (.b r.fit)) ?_ ?_ ?_ ?_ r
  · intro k hk
    refine AC.lbody hT hm Try.func55 f55_nm f55_lc f55_res f55_nt ?_
    rcases hk with rfl | rfl
    · simp only [go_sem, Int.reduceEq, Int.reduceLE, Int.reduceLT, Int.reduceToNat, Re.c_mk, Int.reduceBEq, Int.reduceBNe]
      exact Fin.v (by simp [Re.fit])
    · simp only [go_sem, Int.reduceEq, Int.reduceLE, Int.reduceLT, Int.reduceToNat, Re.c_mk, Int.reduceBEq, Int.reduceBNe]
      exact Fin.v (by simp [Re.fit])
  · intro a b c d _
    refine AC.lbody hT hm Try.func55 f55_nm f55_lc f55_res f55_nt ?_
    simp only [go_sem, Int.reduceEq, Int.reduceLE, Int.reduceLT, Int.reduceToNat, Re.c_mk, Int.reduceBEq, Int.reduceBNe]
    exact Fin.v (by simp [Re.fit])
  · intro k x y hk _ _ hx hy
    refine AC.lbody hT hm Try.func55 f55_nm f55_lc f55_res f55_nt ?_
    rcases hk with rfl | rfl
    · simp only [go_sem, Int.reduceEq, Int.reduceLE, Int.reduceLT, Int.reduceToNat, Re.c_mk, Int.reduceBEq]
      refine hx.pv ⟨.same (Re.d_bl _), trivial⟩ ?_
      have e : Re.fit (.mk 4 0 0 0 0 [x, y]) = (x.fit && y.fit) := by rw [Re.fit]; rfl
      rw [e]
      cases x.fit
      · simp only [go_sem, Int.reduceEq, Int.reduceLE, Int.reduceLT, Int.reduceToNat, Bool.not_false, Bool.not_true]
        exact Fin.v (by simp)
      · simp only [go_sem, Int.reduceEq, Int.reduceLE, Int.reduceLT, Int.reduceToNat, Re.c_mk, Bool.not_false, Bool.not_true]
        refine hy.pv ⟨.same (Re.d_bl _), trivial⟩ ?_
        simp only [go_sem, Int.reduceEq, Int.reduceLE, Int.reduceLT, Int.reduceToNat]
        exact Fin.v (by simp)
    · simp only [go_sem, Int.reduceEq, Int.reduceLE, Int.reduceLT, Int.reduceToNat, Re.c_mk, Int.reduceBEq]
      refine hx.pv ⟨.same (Re.d_bl _), trivial⟩ ?_
      have e : Re.fit (.mk 5 0 0 0 0 [x, y]) = (x.fit || y.fit) := by rw [Re.fit]; rfl
      rw [e]
      cases x.fit
      · simp only [go_sem, Int.reduceEq, Int.reduceLE, Int.reduceLT, Int.reduceToNat, Re.c_mk, Bool.not_false, Bool.not_true]
        refine hy.pv ⟨.same (Re.d_bl _), trivial⟩ ?_
        simp only [go_sem, Int.reduceEq, Int.reduceLE, Int.reduceLT, Int.reduceToNat]
        exact Fin.v (by simp)
      · simp only [go_sem, Int.reduceEq, Int.reduceLE, Int.reduceLT, Int.reduceToNat, Bool.not_false, Bool.not_true]
        exact Fin.v (by simp)
  · intro x _ hx
    refine AC.lbody hT hm Try.func55 f55_nm f55_lc f55_res f55_nt ?_
    simp only [go_sem, Int.reduceEq, Int.reduceLE, Int.reduceLT, Int.reduceToNat, Re.c_mk, Int.reduceBEq, Int.reduceBNe]
    exact Fin.v (by simp [Re.fit])
theorem nNul (r : Re) : r.nodesOk = true → AP Try.prog 58 [.agg r.c] (.b r.nul) := by
  refine Re.indOk (p := fun r => AP Try.prog 58 [.agg r.c] (.b r.nul)) ?_ ?_ ?_ ?_ r
  · intro k hk
    refine AC.lbody hT hm Try.func58 f58_nm f58_lc f58_res f58_nt ?_
    rcases hk with rfl | rfl
    · simp only [go_sem, Int.reduceEq, Int.reduceLE, Int.reduceLT, Int.reduceToNat, Re.c_mk, Int.reduceBEq, Int.reduceBNe]
      exact Fin.v (by simp [Re.nul])
    · simp only [go_sem, Int.reduceEq, Int.reduceLE, Int.reduceLT, Int.reduceToNat, Re.c_mk, Int.reduceBEq, Int.reduceBNe]
      exact Fin.v (by simp [Re.nul])
  · intro a b c d _
    refine AC.lbody hT hm Try.func58 f58_nm f58_lc f58_res f58_nt ?_
    simp only [go_sem, Int.reduceEq, Int.reduceLE, Int.reduceLT, Int.reduceToNat, Re.c_mk, Int.reduceBEq, Int.reduceBNe]
    exact Fin.v (by simp [Re.nul])
  · intro k x y hk _ _ hx hy
    refine AC.lbody hT hm Try.func58 f58_nm f58_lc f58_res f58_nt ?_
    rcases hk with rfl | rfl
    · simp only [go_sem, Int.reduceEq, Int.reduceLE, Int.reduceLT, Int.reduceToNat, Re.c_mk, Int.reduceBEq]
      refine hx.pv ⟨.same (Re.d_bl _), trivial⟩ ?_
      have e : Re.nul (.mk 4 0 0 0 0 [x, y]) = (x.nul && y.nul) := by rw [Re.nul]; rfl
      rw [e]
      cases x.nul
      · simp only [go_sem, Int.reduceEq, Int.reduceLE, Int.reduceLT, Int.reduceToNat, Bool.not_false, Bool.not_true]
        exact Fin.v (by simp)
      · simp only [go_sem, Int.reduceEq, Int.reduceLE, Int.reduceLT, Int.reduceToNat, Re.c_mk, Bool.not_false, Bool.not_true]
        refine hy.pv ⟨.same (Re.d_bl _), trivial⟩ ?_
        simp only [go_sem, Int.reduceEq, Int.reduceLE, Int.reduceLT, Int.reduceToNat]
        exact Fin.v (by simp)
    · simp only [go_sem, Int.reduceEq, Int.reduceLE, Int.reduceLT, Int.reduceToNat, Re.c_mk, Int.reduceBEq]
      refine hx.pv ⟨.same (Re.d_bl _), trivial⟩ ?_
      have e : Re.nul (.mk 5 0 0 0 0 [x, y]) = (x.nul || y.nul) := by rw [Re.nul]; rfl
      rw [e]
      cases x.nul
      · simp only [go_sem, Int.reduceEq, Int.reduceLE, Int.reduceLT, Int.reduceToNat, Re.c_mk, Bool.not_false, Bool.not_true]
        refine hy.pv ⟨.same (Re.d_bl _), trivial⟩ ?_
        simp only [go_sem, Int.reduceEq, Int.reduceLE, Int.reduceLT, Int.reduceToNat]
        exact Fin.v (by simp)
      · simp only [go_sem, Int.reduceEq, Int.reduceLE, Int.reduceLT, Int.reduceToNat, Bool.not_false, Bool.not_true]
        exact Fin.v (by simp)
  · intro x _ hx
    refine AC.lbody hT hm Try.func58 f58_nm f58_lc f58_res f58_nt ?_
    simp only [go_sem, Int.reduceEq, Int.reduceLE, Int.reduceLT, Int.reduceToNat, Re.c_mk, Int.reduceBEq, Int.reduceBNe]
    exact Fin.v (by simp [Re.nul])
theorem nVoid (r : Re) : r.nodesOk = true → AP Try.prog 60 [.agg r.c] (.b (!r.fit)) := by
  refine Re.indOk (p := fun r => AP Try.prog 60 [.agg r.c] (.b (!r.fit))) ?_ ?_ ?_ ?_ r
  · intro k hk
    refine AC.lbody hT hm Try.func60 f60_nm f60_lc f60_res f60_nt ?_
    rcases hk with rfl | rfl
    · simp only [go_sem, Int.reduceEq, Int.reduceLE, Int.reduceLT, Int.reduceToNat, Re.c_mk, Int.reduceBEq, Int.reduceBNe]
      exact Fin.v (by simp [Re.fit])
    · simp only [go_sem, Int.reduceEq, Int.reduceLE, Int.reduceLT, Int.reduceToNat, Re.c_mk, Int.reduceBEq, Int.reduceBNe]
      exact Fin.v (by simp [Re.fit])
  · intro a b c d _
    refine AC.lbody hT hm Try.func60 f60_nm f60_lc f60_res f60_nt ?_
    simp only [go_sem, Int.reduceEq, Int.reduceLE, Int.reduceLT, Int.reduceToNat, Re.c_mk, Int.reduceBEq, Int.reduceBNe]
    exact Fin.v (by simp [Re.fit])
  · intro k x y hk _ _ hx hy
    refine AC.lbody hT hm Try.func60 f60_nm f60_lc f60_res f60_nt ?_
    rcases hk with rfl | rfl
    · simp only [go_sem, Int.reduceEq, Int.reduceLE, Int.reduceLT, Int.reduceToNat, Re.c_mk, Int.reduceBEq]
      refine hx.pv ⟨.same (Re.d_bl _), trivial⟩ ?_
      have e : Re.fit (.mk 4 0 0 0 0 [x, y]) = (x.fit && y.fit) := by rw [Re.fit]; rfl
      rw [e]
      cases x.fit
      · simp only [go_sem, Int.reduceEq, Int.reduceLE, Int.reduceLT, Int.reduceToNat, Bool.not_false, Bool.not_true]
        exact Fin.v (by simp)
      · simp only [go_sem, Int.reduceEq, Int.reduceLE, Int.reduceLT, Int.reduceToNat, Re.c_mk, Bool.not_false, Bool.not_true]
        refine hy.pv ⟨.same (Re.d_bl _), trivial⟩ ?_
        simp only [go_sem, Int.reduceEq, Int.reduceLE, Int.reduceLT, Int.reduceToNat]
        exact Fin.v (by simp)
    · simp only [go_sem, Int.reduceEq, Int.reduceLE, Int.reduceLT, Int.reduceToNat, Re.c_mk, Int.reduceBEq]
      refine hx.pv ⟨.same (Re.d_bl _), trivial⟩ ?_
      have e : Re.fit (.mk 5 0 0 0 0 [x, y]) = (x.fit || y.fit) := by rw [Re.fit]; rfl
      rw [e]
      cases x.fit
      · simp only [go_sem, Int.reduceEq, Int.reduceLE, Int.reduceLT, Int.reduceToNat, Re.c_mk, Bool.not_false, Bool.not_true]
        refine hy.pv ⟨.same (Re.d_bl _), trivial⟩ ?_
        simp only [go_sem, Int.reduceEq, Int.reduceLE, Int.reduceLT, Int.reduceToNat]
        exact Fin.v (by simp)
      · simp only [go_sem, Int.reduceEq, Int.reduceLE, Int.reduceLT, Int.reduceToNat, Bool.not_false, Bool.not_true]
        exact Fin.v (by simp)
  · intro x _ hx
    refine AC.lbody hT hm Try.func60 f60_nm f60_lc f60_res f60_nt ?_
    simp only [go_sem, Int.reduceEq, Int.reduceLE, Int.reduceLT, Int.reduceToNat, Re.c_mk, Int.reduceBEq, Int.reduceBNe]
    exact Fin.v (by simp [Re.fit])
end Go.Proofs.Yteifkcgokjmcjaa.W
