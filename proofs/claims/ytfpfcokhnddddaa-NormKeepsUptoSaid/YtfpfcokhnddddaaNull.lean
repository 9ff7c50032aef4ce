/- First bytes; the document's example; whether any expressions are nullable, or one is void, is the document's. -/
import Derived.Test.YtfpfcokhnddddaaGenB
import Derived.Test.YtfpfcokhnddddaaMath
set_option linter.unusedVariables false
set_option linter.unusedSimpArgs false
set_option linter.unusedSectionVars false
set_option maxRecDepth 100000
/- How many nodes, as far as some; which expressions are nullable, or void. -/
namespace Go.Proofs.Ytfpfcokhnddddaa.W
open Go Go.Proofs Go.Proofs.Ytfpfcokhnddddaa.AWP
attribute [local irreducible] xl hide aop aops aopQ qops guardP condP

theorem gAll_len {m : Int} {l : List Re} (h : gAll m l = false) : l.length ≤ 20 := by
  simp only [gAll, Bool.or_eq_false_iff, decide_eq_false_iff_not] at h
  omega

theorem rNul (r : Re) : r.nodesOk = true → AP Try.prog 36 [.agg r.c] (.b r.nul) := by
  refine Re.indOk (p := fun r => AP Try.prog 36 [.agg r.c] (.b r.nul)) ?_ ?_ ?_ ?_ r
  · intro k hk
    refine AC.lbody hT hm Try.func36 f36_nm f36_lc f36_res f36_nt ?_
    rcases hk with rfl | rfl
    · simp only [go_sem, Int.reduceEq, Int.reduceLE, Int.reduceLT, Int.reduceToNat, Re.c_mk, Int.reduceBEq, Int.reduceBNe]
      exact Fin.v (by simp [Re.nul])
    · simp only [go_sem, Int.reduceEq, Int.reduceLE, Int.reduceLT, Int.reduceToNat, Re.c_mk, Int.reduceBEq, Int.reduceBNe]
      exact Fin.v (by simp [Re.nul])
  · intro a b c d _
    refine AC.lbody hT hm Try.func36 f36_nm f36_lc f36_res f36_nt ?_
    simp only [go_sem, Int.reduceEq, Int.reduceLE, Int.reduceLT, Int.reduceToNat, Re.c_mk, Int.reduceBEq, Int.reduceBNe]
    exact Fin.v (by simp [Re.nul])
  · intro k x y hk _ _ hx hy
    refine AC.lbody hT hm Try.func36 f36_nm f36_lc f36_res f36_nt ?_
    rcases hk with rfl | rfl
    · simp only [go_sem, Int.reduceEq, Int.reduceLE, Int.reduceLT, Int.reduceToNat, Re.c_mk, Int.reduceBEq]
      refine hx.pv ⟨.same (Re.d_bl _), trivial⟩ ?_
      have e : Re.nul (.mk 4 0 0 0 0 [x, y]) = (x.nul && y.nul) := by rw [Re.nul]; rfl
      rw [e]
      cases x.nul
      · simp only [go_sem, Int.reduceEq, Int.reduceLE, Int.reduceLT, Int.reduceToNat, Bool.not_false, Bool.not_true]
        exact Fin.v (by simp)
      · simp only [go_sem, Int.reduceEq, Int.reduceLE, Int.reduceLT, Int.reduceToNat, Re.c_mk, Bool.not_false, Bool.not_true]
        refine hy.pv ⟨.same (Re.d_bl _), trivial⟩ ?_
        simp only [go_sem, Int.reduceEq, Int.reduceLE, Int.reduceLT, Int.reduceToNat]
        exact Fin.v (by simp)
    · simp only [go_sem, Int.reduceEq, Int.reduceLE, Int.reduceLT, Int.reduceToNat, Re.c_mk, Int.reduceBEq]
      refine hx.pv ⟨.same (Re.d_bl _), trivial⟩ ?_
      have e : Re.nul (.mk 5 0 0 0 0 [x, y]) = (x.nul || y.nul) := by rw [Re.nul]; rfl
      rw [e]
      cases x.nul
      · simp only [go_sem, Int.reduceEq, Int.reduceLE, Int.reduceLT, Int.reduceToNat, Re.c_mk, Bool.not_false, Bool.not_true]
        refine hy.pv ⟨.same (Re.d_bl _), trivial⟩ ?_
        simp only [go_sem, Int.reduceEq, Int.reduceLE, Int.reduceLT, Int.reduceToNat]
        exact Fin.v (by simp)
      · simp only [go_sem, Int.reduceEq, Int.reduceLE, Int.reduceLT, Int.reduceToNat, Bool.not_false, Bool.not_true]
        exact Fin.v (by simp)
  · intro x _ hx
    refine AC.lbody hT hm Try.func36 f36_nm f36_lc f36_res f36_nt ?_
    simp only [go_sem, Int.reduceEq, Int.reduceLE, Int.reduceLT, Int.reduceToNat, Re.c_mk, Int.reduceBEq, Int.reduceBNe]
    exact Fin.v (by simp [Re.nul])
theorem rFit (r : Re) : r.nodesOk = true → AP Try.prog 39 [.agg r.c] (.b r.fit) := by
  refine Re.indOk (p := fun r => AP Try.prog 39 [.agg r.c] (.b r.fit)) ?_ ?_ ?_ ?_ r
  · intro k hk
    refine AC.lbody hT hm Try.func39 f39_nm f39_lc f39_res f39_nt ?_
    rcases hk with rfl | rfl
    · simp only [go_sem, Int.reduceEq, Int.reduceLE, Int.reduceLT, Int.reduceToNat, Re.c_mk, Int.reduceBEq, Int.reduceBNe]
      exact Fin.v (by simp [Re.fit])
    · simp only [go_sem, Int.reduceEq, Int.reduceLE, Int.reduceLT, Int.reduceToNat, Re.c_mk, Int.reduceBEq, Int.reduceBNe]
      exact Fin.v (by simp [Re.fit])
  · intro a b c d _
    refine AC.lbody hT hm Try.func39 f39_nm f39_lc f39_res f39_nt ?_
    simp only [go_sem, Int.reduceEq, Int.reduceLE, Int.reduceLT, Int.reduceToNat, Re.c_mk, Int.reduceBEq, Int.reduceBNe]
    exact Fin.v (by simp [Re.fit])
  · intro k x y hk _ _ hx hy
    refine AC.lbody hT hm Try.func39 f39_nm f39_lc f39_res f39_nt ?_
    rcases hk with rfl | rfl
    · simp only [go_sem, Int.reduceEq, Int.reduceLE, Int.reduceLT, Int.reduceToNat, Re.c_mk, Int.reduceBEq]
      refine hx.pv ⟨.same (Re.d_bl _), trivial⟩ ?_
      have e : Re.fit (.mk 4 0 0 0 0 [x, y]) = (x.fit && y.fit) := by rw [Re.fit]; rfl
      rw [e]
      cases x.fit
      · simp only [go_sem, Int.reduceEq, Int.reduceLE, Int.reduceLT, Int.reduceToNat, Bool.not_false, Bool.not_true]
        exact Fin.v (by simp)
      · simp only [go_sem, Int.reduceEq, Int.reduceLE, Int.reduceLT, Int.reduceToNat, Re.c_mk, Bool.not_false, Bool.not_true]
        refine hy.pv ⟨.same (Re.d_bl _), trivial⟩ ?_
        simp only [go_sem, Int.reduceEq, Int.reduceLE, Int.reduceLT, Int.reduceToNat]
        exact Fin.v (by simp)
    · simp only [go_sem, Int.reduceEq, Int.reduceLE, Int.reduceLT, Int.reduceToNat, Re.c_mk, Int.reduceBEq]
      refine hx.pv ⟨.same (Re.d_bl _), trivial⟩ ?_
      have e : Re.fit (.mk 5 0 0 0 0 [x, y]) = (x.fit || y.fit) := by rw [Re.fit]; rfl
      rw [e]
      cases x.fit
      · simp only [go_sem, Int.reduceEq, Int.reduceLE, Int.reduceLT, Int.reduceToNat, Re.c_mk, Bool.not_false, Bool.not_true]
        refine hy.pv ⟨.same (Re.d_bl _), trivial⟩ ?_
        simp only [go_sem, Int.reduceEq, Int.reduceLE, Int.reduceLT, Int.reduceToNat]
        exact Fin.v (by simp)
      · simp only [go_sem, Int.reduceEq, Int.reduceLE, Int.reduceLT, Int.reduceToNat, Bool.not_false, Bool.not_true]
        exact Fin.v (by simp)
  · intro x _ hx
    refine AC.lbody hT hm Try.func39 f39_nm f39_lc f39_res f39_nt ?_
    simp only [go_sem, Int.reduceEq, Int.reduceLE, Int.reduceLT, Int.reduceToNat, Re.c_mk, Int.reduceBEq, Int.reduceBNe]
    exact Fin.v (by simp [Re.fit])
theorem nNul (r : Re) : r.nodesOk = true → AP Try.prog 35 [.agg r.c] (.b r.nul) := by
  refine Re.indOk (p := fun r => AP Try.prog 35 [.agg r.c] (.b r.nul)) ?_ ?_ ?_ ?_ r
  · intro k hk
    refine AC.lbody hT hm Try.func35 f35_nm f35_lc f35_res f35_nt ?_
    rcases hk with rfl | rfl
    · simp only [go_sem, Int.reduceEq, Int.reduceLE, Int.reduceLT, Int.reduceToNat, Re.c_mk, Int.reduceBEq, Int.reduceBNe]
      exact Fin.v (by simp [Re.nul])
    · simp only [go_sem, Int.reduceEq, Int.reduceLE, Int.reduceLT, Int.reduceToNat, Re.c_mk, Int.reduceBEq, Int.reduceBNe]
      exact Fin.v (by simp [Re.nul])
  · intro a b c d _
    refine AC.lbody hT hm Try.func35 f35_nm f35_lc f35_res f35_nt ?_
    simp only [go_sem, Int.reduceEq, Int.reduceLE, Int.reduceLT, Int.reduceToNat, Re.c_mk, Int.reduceBEq, Int.reduceBNe]
    exact Fin.v (by simp [Re.nul])
  · intro k x y hk _ _ hx hy
    refine AC.lbody hT hm Try.func35 f35_nm f35_lc f35_res f35_nt ?_
    rcases hk with rfl | rfl
    · simp only [go_sem, Int.reduceEq, Int.reduceLE, Int.reduceLT, Int.reduceToNat, Re.c_mk, Int.reduceBEq]
      refine hx.pv ⟨.same (Re.d_bl _), trivial⟩ ?_
      have e : Re.nul (.mk 4 0 0 0 0 [x, y]) = (x.nul && y.nul) := by rw [Re.nul]; rfl
      rw [e]
      cases x.nul
      · simp only [go_sem, Int.reduceEq, Int.reduceLE, Int.reduceLT, Int.reduceToNat, Bool.not_false, Bool.not_true]
        exact Fin.v (by simp)
      · simp only [go_sem, Int.reduceEq, Int.reduceLE, Int.reduceLT, Int.reduceToNat, Re.c_mk, Bool.not_false, Bool.not_true]
        refine hy.pv ⟨.same (Re.d_bl _), trivial⟩ ?_
        simp only [go_sem, Int.reduceEq, Int.reduceLE, Int.reduceLT, Int.reduceToNat]
        exact Fin.v (by simp)
    · simp only [go_sem, Int.reduceEq, Int.reduceLE, Int.reduceLT, Int.reduceToNat, Re.c_mk, Int.reduceBEq]
      refine hx.pv ⟨.same (Re.d_bl _), trivial⟩ ?_
      have e : Re.nul (.mk 5 0 0 0 0 [x, y]) = (x.nul || y.nul) := by rw [Re.nul]; rfl
      rw [e]
      cases x.nul
      · simp only [go_sem, Int.reduceEq, Int.reduceLE, Int.reduceLT, Int.reduceToNat, Re.c_mk, Bool.not_false, Bool.not_true]
        refine hy.pv ⟨.same (Re.d_bl _), trivial⟩ ?_
        simp only [go_sem, Int.reduceEq, Int.reduceLE, Int.reduceLT, Int.reduceToNat]
        exact Fin.v (by simp)
      · simp only [go_sem, Int.reduceEq, Int.reduceLE, Int.reduceLT, Int.reduceToNat, Bool.not_false, Bool.not_true]
        exact Fin.v (by simp)
  · intro x _ hx
    refine AC.lbody hT hm Try.func35 f35_nm f35_lc f35_res f35_nt ?_
    simp only [go_sem, Int.reduceEq, Int.reduceLE, Int.reduceLT, Int.reduceToNat, Re.c_mk, Int.reduceBEq, Int.reduceBNe]
    exact Fin.v (by simp [Re.nul])
theorem nVoid (r : Re) : r.nodesOk = true → AP Try.prog 38 [.agg r.c] (.b (!r.fit)) := by
  refine Re.indOk (p := fun r => AP Try.prog 38 [.agg r.c] (.b (!r.fit))) ?_ ?_ ?_ ?_ r
  · intro k hk
    refine AC.lbody hT hm Try.func38 f38_nm f38_lc f38_res f38_nt ?_
    rcases hk with rfl | rfl
    · simp only [go_sem, Int.reduceEq, Int.reduceLE, Int.reduceLT, Int.reduceToNat, Re.c_mk, Int.reduceBEq, Int.reduceBNe]
      exact Fin.v (by simp [Re.fit])
    · simp only [go_sem, Int.reduceEq, Int.reduceLE, Int.reduceLT, Int.reduceToNat, Re.c_mk, Int.reduceBEq, Int.reduceBNe]
      exact Fin.v (by simp [Re.fit])
  · intro a b c d _
    refine AC.lbody hT hm Try.func38 f38_nm f38_lc f38_res f38_nt ?_
    simp only [go_sem, Int.reduceEq, Int.reduceLE, Int.reduceLT, Int.reduceToNat, Re.c_mk, Int.reduceBEq, Int.reduceBNe]
    exact Fin.v (by simp [Re.fit])
  · intro k x y hk _ _ hx hy
    refine AC.lbody hT hm Try.func38 f38_nm f38_lc f38_res f38_nt ?_
    rcases hk with rfl | rfl
    · simp only [go_sem, Int.reduceEq, Int.reduceLE, Int.reduceLT, Int.reduceToNat, Re.c_mk, Int.reduceBEq]
      refine hx.pv ⟨.same (Re.d_bl _), trivial⟩ ?_
      have e : Re.fit (.mk 4 0 0 0 0 [x, y]) = (x.fit && y.fit) := by rw [Re.fit]; rfl
      rw [e]
      cases x.fit
      · simp only [go_sem, Int.reduceEq, Int.reduceLE, Int.reduceLT, Int.reduceToNat, Bool.not_false, Bool.not_true]
        exact Fin.v (by simp)
      · simp only [go_sem, Int.reduceEq, Int.reduceLE, Int.reduceLT, Int.reduceToNat, Re.c_mk, Bool.not_false, Bool.not_true]
        refine hy.pv ⟨.same (Re.d_bl _), trivial⟩ ?_
        simp only [go_sem, Int.reduceEq, Int.reduceLE, Int.reduceLT, Int.reduceToNat]
        exact Fin.v (by simp)
    · simp only [go_sem, Int.reduceEq, Int.reduceLE, Int.reduceLT, Int.reduceToNat, Re.c_mk, Int.reduceBEq]
      refine hx.pv ⟨.same (Re.d_bl _), trivial⟩ ?_
      have e : Re.fit (.mk 5 0 0 0 0 [x, y]) = (x.fit || y.fit) := by rw [Re.fit]; rfl
      rw [e]
      cases x.fit
      · simp only [go_sem, Int.reduceEq, Int.reduceLE, Int.reduceLT, Int.reduceToNat, Re.c_mk, Bool.not_false, Bool.not_true]
        refine hy.pv ⟨.same (Re.d_bl _), trivial⟩ ?_
        simp only [go_sem, Int.reduceEq, Int.reduceLE, Int.reduceLT, Int.reduceToNat]
        exact Fin.v (by simp)
      · simp only [go_sem, Int.reduceEq, Int.reduceLE, Int.reduceLT, Int.reduceToNat, Bool.not_false, Bool.not_true]
        exact Fin.v (by simp)
  · intro x _ hx
    refine AC.lbody hT hm Try.func38 f38_nm f38_lc f38_res f38_nt ?_
    simp only [go_sem, Int.reduceEq, Int.reduceLE, Int.reduceLT, Int.reduceToNat, Re.c_mk, Int.reduceBEq, Int.reduceBNe]
    exact Fin.v (by simp [Re.fit])
end Go.Proofs.Ytfpfcokhnddddaa.W

set_option maxRecDepth 100000
/- Whether expressions are nullable, or void: the program's and the document's. -/
namespace Go.Proofs.Ytfpfcokhnddddaa.W
open Go Go.Proofs Go.Proofs.Ytfpfcokhnddddaa.AWP
attribute [local irreducible] xl hide aop aops aopQ qops guardP condP

theorem mayB_ok {r : Re} (h : mayB r = true) : r.nodesOk = true := by
  unfold mayB at h
  rw [Bool.and_eq_true] at h
  exact h.1
def nulB (r : Re) : Bool := mayB r && r.nul
def voidB (r : Re) : Bool := mayB r && !r.fit
theorem resB (r : Re) : D.sl 6 [r.c] = Res [r] := by show _ = D.sl 6 (Re.cs [r]); rw [Re.cs_eq]; rfl

theorem rNull (r : Re) (hz : r.sz ≤ 1099511627776) : AP Try.prog 17 [.agg r.c] (.b (nulB r)) := by
  unfold nulB
  refine AC.lbody hT hm Try.func17 f17_nm f17_lc f17_res f17_nt ?_
  simp only [go_sem, Int.reduceEq, Int.reduceLE, Int.reduceLT, Int.reduceToNat]
  refine (rMay r hz).pv ⟨.same (Re.d_bl _), trivial⟩ ?_
  cases h : mayB r
  · simp only [go_sem, Int.reduceEq, Int.reduceLE, Int.reduceLT, Int.reduceToNat]
    exact Fin.v rfl
  · simp only [go_sem, Int.reduceEq, Int.reduceLE, Int.reduceLT, Int.reduceToNat]
    refine (rNul r (mayB_ok h)).pv ⟨.same (Re.d_bl _), trivial⟩ ?_
    simp only [go_sem, Int.reduceEq, Int.reduceLE, Int.reduceLT, Int.reduceToNat]
    exact Fin.v (by simp)
theorem rVoid (r : Re) (hz : r.sz ≤ 1099511627776) : AP Try.prog 19 [.agg r.c] (.b (voidB r)) := by
  unfold voidB
  refine AC.lbody hT hm Try.func19 f19_nm f19_lc f19_res f19_nt ?_
  simp only [go_sem, Int.reduceEq, Int.reduceLE, Int.reduceLT, Int.reduceToNat]
  refine (rMay r hz).pv ⟨.same (Re.d_bl _), trivial⟩ ?_
  cases h : mayB r
  · simp only [go_sem, Int.reduceEq, Int.reduceLE, Int.reduceLT, Int.reduceToNat]
    exact Fin.v rfl
  · simp only [go_sem, Int.reduceEq, Int.reduceLE, Int.reduceLT, Int.reduceToNat]
    refine (rFit r (mayB_ok h)).pv ⟨.same (Re.d_bl _), trivial⟩ ?_
    simp only [go_sem, Int.reduceEq, Int.reduceLE, Int.reduceLT, Int.reduceToNat]
    exact Fin.v (by simp)
theorem null1 (r : Re) (hz : r.sz ≤ 1099511627776) : AP Try.prog 34 [.agg r.c] (.b (!nulB r)) := by
  unfold nulB
  refine AC.lbody hT hm Try.func34 f34_nm f34_lc f34_res f34_nt ?_
  simp only [go_sem, Int.reduceEq, Int.reduceLE, Int.reduceLT, Int.reduceToNat]
  refine (may r hz).pv ⟨.eq (resB r) (by simp), trivial⟩ ?_
  cases h : mayB r
  · simp only [go_sem, Int.reduceEq, Int.reduceLE, Int.reduceLT, Int.reduceToNat, Bool.not_false]
    exact Fin.v rfl
  · simp only [go_sem, Int.reduceEq, Int.reduceLE, Int.reduceLT, Int.reduceToNat, Bool.not_true]
    refine (nNul r (mayB_ok h)).pv ⟨.same (Re.d_bl _), trivial⟩ ?_
    simp only [go_sem, Int.reduceEq, Int.reduceLE, Int.reduceLT, Int.reduceToNat]
    exact Fin.v (by simp)
theorem void1 (r : Re) (hz : r.sz ≤ 1099511627776) : AP Try.prog 37 [.agg r.c] (.b (voidB r)) := by
  unfold voidB
  refine AC.lbody hT hm Try.func37 f37_nm f37_lc f37_res f37_nt ?_
  simp only [go_sem, Int.reduceEq, Int.reduceLE, Int.reduceLT, Int.reduceToNat]
  refine (may r hz).pv ⟨.eq (resB r) (by simp), trivial⟩ ?_
  cases h : mayB r
  · simp only [go_sem, Int.reduceEq, Int.reduceLE, Int.reduceLT, Int.reduceToNat]
    exact Fin.v rfl
  · simp only [go_sem, Int.reduceEq, Int.reduceLE, Int.reduceLT, Int.reduceToNat]
    refine (nVoid r (mayB_ok h)).pv ⟨.same (Re.d_bl _), trivial⟩ ?_
    simp only [go_sem, Int.reduceEq, Int.reduceLE, Int.reduceLT, Int.reduceToNat]
    exact Fin.v (by simp)
theorem nullNull (l : List Re) (hl : l.length ≤ 9223372036854775807) (hz : ∀ x ∈ l, x.sz ≤ 1099511627776) : AP Try.prog 16 [Res l] (.b (l.all nulB)) := by
  have e : l.all nulB = !(l.any fun r => !nulB r) := by
    clear hl hz
    induction l with
    | nil => rfl
    | cons x l ih => rw [List.all_cons, List.any_cons, ih]; simp
  rw [e]
  refine AC.lbody hT hm Try.func16 f16_nm f16_lc f16_res f16_nt ?_
  simp only [go_sem, Int.reduceEq, Int.reduceLE, Int.reduceLT, Int.reduceToNat]
  refine (anyRe 34 (fun r => !nulB r) l hl fun x hx => null1 x (hz x hx)).pv ⟨.same (by simp), .same (by simp), trivial⟩ ?_
  simp only [go_sem, Int.reduceEq, Int.reduceLE, Int.reduceLT, Int.reduceToNat]
  exact Fin.v rfl
theorem nullVoid (l : List Re) (hl : l.length ≤ 9223372036854775807) (hz : ∀ x ∈ l, x.sz ≤ 1099511627776) : AP Try.prog 18 [Res l] (.b (l.any voidB)) := by
  refine AC.lbody hT hm Try.func18 f18_nm f18_lc f18_res f18_nt ?_
  simp only [go_sem, Int.reduceEq, Int.reduceLE, Int.reduceLT, Int.reduceToNat]
  refine (anyRe 37 voidB l hl fun x hx => void1 x (hz x hx)).pv ⟨.same (by simp), .same (by simp), trivial⟩ ?_
  simp only [go_sem, Int.reduceEq, Int.reduceLE, Int.reduceLT, Int.reduceToNat]
  exact Fin.v rfl
theorem nullNull1 (r : Re) (hz : r.sz ≤ 1099511627776) : AP Try.prog 16 [D.sl 6 [r.c]] (.b (nulB r)) := by
  have := nullNull [r] (by simp) (by intro x hx; rw [List.mem_singleton.1 hx]; exact hz)
  rw [← resB] at this
  simpa using this
theorem nullVoid1 (r : Re) (hz : r.sz ≤ 1099511627776) : AP Try.prog 18 [D.sl 6 [r.c]] (.b (voidB r)) := by
  have := nullVoid [r] (by simp) (by intro x hx; rw [List.mem_singleton.1 hx]; exact hz)
  rw [← resB] at this
  simpa using this

/-! ### First bytes -/
theorem fst_len (r : Re) : r.fst.length = 4 := by
  refine Re.ind (p := fun r => r.fst.length = 4) ?_ r
  intro k a b c d ks ih
  match ks, ih with
  | [], _ => simp only [Re.fst]; split <;> rfl
  | [x], ih => rw [Re.fst]; exact ih x (by simp)
  | [x, y], ih =>
    rw [Re.fst]
    have hj : (joinAll [x.fst, y.fst]).length = 4 := joinAll_len (by intro z hz; rcases List.mem_cons.1 hz with rfl | hz; exact ih x (by simp); rw [List.mem_singleton.1 hz]; exact ih y (by simp))
    split
    · split
      · split
        · exact hj
        · exact ih x (by simp)
      · rfl
    · exact hj
  | x :: y :: z :: l, _ => simp only [Re.fst]; split <;> rfl
theorem W_putE {ty : Nat} {a b c d : Int} {ws : List Int} (h : ws.length = 4) : obPut (.var ty [.v (.int .u64 a), .v (.int .u64 b), .v (.int .u64 c), .v (.int .u64 d)]) 0 (ws.map wD) = some (.var ty (ws.map wD)) := W_put (a := [a, b, c, d]) rfl h

theorem nFirst (r : Re) : r.nodesOk = true → AP Try.prog 40 [.agg r.c] (Ws r.fst) := by
  refine Re.indOk (p := fun r => AP Try.prog 40 [.agg r.c] (Ws r.fst)) ?_ ?_ ?_ ?_ r
  · intro k hk
    have e : (Re.mk k 0 0 0 0 []).fst = noneS := by rcases hk with rfl | rfl <;> simp [Re.fst]
    rw [e]
    refine AC.lbody hT hm Try.func40 f40_nm f40_lc f40_res f40_nt ?_
    rcases hk with rfl | rfl
    · simp only [go_sem, Int.reduceEq, Int.reduceLE, Int.reduceLT, Int.reduceToNat, Re.c_mk, Int.reduceBEq]
      exact Fin.ret (Cv.same (.agg (W_bl noneS)))
    · simp only [go_sem, Int.reduceEq, Int.reduceLE, Int.reduceLT, Int.reduceToNat, Re.c_mk, Int.reduceBEq]
      exact Fin.ret (Cv.same (.agg (W_bl noneS)))
  · intro a b c d _
    have e : (Re.mk 3 a b c d []).fst = [a, b, c, d] := by simp [Re.fst]
    rw [e]
    refine AC.lbody hT hm Try.func40 f40_nm f40_lc f40_res f40_nt ?_
    simp only [go_sem, Int.reduceEq, Int.reduceLE, Int.reduceLT, Int.reduceToNat, Re.c_mk, Int.reduceBEq]
    exact Fin.ret (Cv.same (.agg (W_bl [a, b, c, d])))
  · intro k x y hk hox hoy hx hy
    have hlx := fst_len x
    have hly := fst_len y
    have hj : (joinAll [x.fst, y.fst]).length = 4 := joinAll_len (by intro z hz; rcases List.mem_cons.1 hz with rfl | hz; exact hlx; rw [List.mem_singleton.1 hz]; exact hly)
    have sj := setJoin [x.fst, y.fst] (by simp) (by intro z hz; rcases List.mem_cons.1 hz with rfl | hz; exact hlx; rw [List.mem_singleton.1 hz]; exact hly)
    rcases hk with rfl | rfl
    · have hv := nVoid (.mk 4 0 0 0 0 [x, y]) (by rw [Re.nodesOk, Re.nodesOks, Re.nodesOks, Re.nodesOks, hox, hoy]; rfl)
      have ev : (Re.mk 4 0 0 0 0 [x, y]).fit = (x.fit && y.fit) := by simp [Re.fit]
      rw [ev] at hv
      have e : (Re.mk 4 0 0 0 0 [x, y]).fst = if x.fit && y.fit then (if x.nul then joinAll [x.fst, y.fst] else x.fst) else noneS := by simp [Re.fst]
      rw [e]
      refine AC.lbody hT hm Try.func40 f40_nm f40_lc f40_res f40_nt ?_
      simp only [go_sem, Int.reduceEq, Int.reduceLE, Int.reduceLT, Int.reduceToNat, Re.c_mk, Int.reduceBEq]
      refine hv.pv ⟨.eq (by simp [Re.c_mk, Re.cs_eq]) (by simp), trivial⟩ ?_
      cases x.fit && y.fit
      · simp only [go_sem, Int.reduceEq, Int.reduceLE, Int.reduceLT, Int.reduceToNat, Bool.not_false]
        exact Fin.ret (Cv.same (.agg (W_bl noneS)))
      simp only [go_sem, Int.reduceEq, Int.reduceLE, Int.reduceLT, Int.reduceToNat, Bool.not_true, Re.c_mk]
      refine (nNul x hox).pv ⟨.same (Re.d_bl _), trivial⟩ ?_
      cases x.nul
      · simp only [go_sem, Int.reduceEq, Int.reduceLE, Int.reduceLT, Int.reduceToNat, Re.c_mk]
        refine hx.pd ⟨.same (Re.d_bl _), trivial⟩ (.agg (W_bl _)) ?_
        simp only [go_sem, Int.reduceEq, Int.reduceLE, Int.reduceLT, Int.reduceToNat, hlx, W_take hlx, W_putE hlx, W_drop0]
        exact Fin.ret (Cv.same (.agg (W_bl _)))
      simp only [go_sem, Int.reduceEq, Int.reduceLE, Int.reduceLT, Int.reduceToNat, Re.c_mk]
      refine hx.qd ⟨.same (Re.d_bl _), trivial⟩ (.agg (W_bl _)) ?_
      simp only [go_sem, Int.reduceEq, Int.reduceLE, Int.reduceLT, Int.reduceToNat, Re.c_mk]
      refine hy.pd ⟨.same (Re.d_bl _), trivial⟩ (.agg (W_bl _)) ?_
      simp only [go_sem, Int.reduceEq, Int.reduceLE, Int.reduceLT, Int.reduceToNat, Re.c_mk, hlx, hly]
      refine sj.pd ⟨.same (.sl (Wss_bl [x.fst, y.fst])), trivial⟩ (.agg (W_bl _)) ?_
      simp only [go_sem, Int.reduceEq, Int.reduceLE, Int.reduceLT, Int.reduceToNat, hj, W_take hj, W_putE hj, W_drop0]
      exact Fin.ret (Cv.same (.agg (W_bl _)))
    · have e : (Re.mk 5 0 0 0 0 [x, y]).fst = joinAll [x.fst, y.fst] := by simp [Re.fst]
      rw [e]
      refine AC.lbody hT hm Try.func40 f40_nm f40_lc f40_res f40_nt ?_
      simp only [go_sem, Int.reduceEq, Int.reduceLE, Int.reduceLT, Int.reduceToNat, Re.c_mk, Int.reduceBEq]
      refine hx.qd ⟨.same (Re.d_bl _), trivial⟩ (.agg (W_bl _)) ?_
      simp only [go_sem, Int.reduceEq, Int.reduceLE, Int.reduceLT, Int.reduceToNat, Re.c_mk]
      refine hy.pd ⟨.same (Re.d_bl _), trivial⟩ (.agg (W_bl _)) ?_
      simp only [go_sem, Int.reduceEq, Int.reduceLE, Int.reduceLT, Int.reduceToNat, Re.c_mk, hlx, hly]
      refine sj.pd ⟨.same (.sl (Wss_bl [x.fst, y.fst])), trivial⟩ (.agg (W_bl _)) ?_
      simp only [go_sem, Int.reduceEq, Int.reduceLE, Int.reduceLT, Int.reduceToNat, hj, W_take hj, W_putE hj, W_drop0]
      exact Fin.ret (Cv.same (.agg (W_bl _)))
  · intro x _ hx
    have e : (Re.mk 6 0 0 0 0 [x]).fst = x.fst := by simp [Re.fst]
    rw [e]
    have hlx := fst_len x
    refine AC.lbody hT hm Try.func40 f40_nm f40_lc f40_res f40_nt ?_
    simp only [go_sem, Int.reduceEq, Int.reduceLE, Int.reduceLT, Int.reduceToNat, Re.c_mk, Int.reduceBEq]
    refine hx.pd ⟨.same (Re.d_bl _), trivial⟩ (.agg (W_bl _)) ?_
    simp only [go_sem, Int.reduceEq, Int.reduceLE, Int.reduceLT, Int.reduceToNat, hlx, W_take hlx, W_putE hlx, W_drop0]
    exact Fin.ret (Cv.same (.agg (W_bl _)))
end Go.Proofs.Ytfpfcokhnddddaa.W

set_option maxRecDepth 100000
/- First bytes; the document's example; whether any expressions are nullable, or one is void, is the document's. -/
namespace Go.Proofs.Ytfpfcokhnddddaa.W
open Go Go.Proofs Go.Proofs.Ytfpfcokhnddddaa.AWP
attribute [local irreducible] xl hide aop aops aopQ qops guardP condP

/-- First bytes of one that may be, or none. -/
def firB (r : Re) : List Int := if mayB r then r.fst else noneS
theorem firB_len (r : Re) : (firB r).length = 4 := by
  unfold firB
  split
  · exact fst_len r
  · rfl
theorem nullFirst (r : Re) (hz : r.sz ≤ 1099511627776) : AP Try.prog 20 [.agg r.c] (Ws (firB r)) := by
  unfold firB
  have hl := fst_len r
  refine AC.lbody hT hm Try.func20 f20_nm f20_lc f20_res f20_nt ?_
  simp only [go_sem, Int.reduceEq, Int.reduceLE, Int.reduceLT, Int.reduceToNat]
  refine (may r hz).pv ⟨.eq (resB r) (by simp), trivial⟩ ?_
  cases h : mayB r
  · simp only [go_sem, Int.reduceEq, Int.reduceLE, Int.reduceLT, Int.reduceToNat, Bool.not_false]
    exact Fin.ret (Cv.same (.agg (W_bl noneS)))
  · simp only [go_sem, Int.reduceEq, Int.reduceLE, Int.reduceLT, Int.reduceToNat, Bool.not_true]
    refine (nFirst r (mayB_ok h)).pd ⟨.same (Re.d_bl _), trivial⟩ (.agg (W_bl _)) ?_
    simp only [go_sem, Int.reduceEq, Int.reduceLE, Int.reduceLT, Int.reduceToNat, hl, W_take hl, W_putE hl, W_drop0]
    exact Fin.ret (Cv.same (.agg (W_bl _)))

def rAb : Re := .mk 4 0 0 0 0 [.mk 6 0 0 0 0 [reS (ofS [97])], reS (ofS [98])]
end Go.Proofs.Ytfpfcokhnddddaa.W
