/- How many bytes a set has: none just where it is empty. -/
import Derived.Test.YtfpfcokhnddddaaDoorWalkC
import Derived.Test.YtfpfcokhnddddaaDoorMath
set_option linter.unusedVariables false
set_option linter.unusedSimpArgs false
set_option linter.unusedSectionVars false
set_option maxRecDepth 100000
/- How many nodes, as far as some; which expressions are nullable, or void. -/
namespace Go.Proofs.YtfpfcokhnddddaaDoor.W
open Go Go.Proofs Go.Proofs.YtfpfcokhnddddaaDoor.AWP
attribute [local irreducible] xl hide aop aops aopQ qops guardP condP

def gAll (m : Int) (l : List Re) : Bool := decide (20 < l.length) || l.any fun x => decide (m < x.cnt m)

theorem gAll_len {m : Int} {l : List Re} (h : gAll m l = false) : l.length ≤ 20 := by
  simp only [gAll, Bool.or_eq_false_iff, decide_eq_false_iff_not] at h
  omega

theorem rNul (r : Re) : r.nodesOk = true → AP Tryd.prog 36 [.agg r.c] (.b r.nul) := by
  refine Re.indOk (p := fun r => AP Tryd.prog 36 [.agg r.c] (.b r.nul)) ?_ ?_ ?_ ?_ r
  · intro k hk
    refine AC.lbody hT hm Tryd.func36 f36_nm f36_lc f36_res f36_nt ?_
    rcases hk with rfl | rfl
    · simp only [go_sem, Int.reduceEq, Int.reduceLE, Int.reduceLT, Int.reduceToNat, Re.c_mk, Int.reduceBEq, Int.reduceBNe]
      exact Fin.v (by simp [Re.nul])
    · simp only [go_sem, Int.reduceEq, Int.reduceLE, Int.reduceLT, Int.reduceToNat, Re.c_mk, Int.reduceBEq, Int.reduceBNe]
      exact Fin.v (by simp [Re.nul])
  · intro a b c d _
    refine AC.lbody hT hm Tryd.func36 f36_nm f36_lc f36_res f36_nt ?_
    simp only [go_sem, Int.reduceEq, Int.reduceLE, Int.reduceLT, Int.reduceToNat, Re.c_mk, Int.reduceBEq, Int.reduceBNe]
    exact Fin.v (by simp [Re.nul])
  · intro k x y hk _ _ hx hy
    refine AC.lbody hT hm Tryd.func36 f36_nm f36_lc f36_res f36_nt ?_
    rcases hk with rfl | rfl
    · simp only [go_sem, Int.reduceEq, Int.reduceLE, Int.reduceLT, Int.reduceToNat, Re.c_mk, Int.reduceBEq]
      refine hx.pv ⟨.same (Re.d_bl _), trivial⟩ ?_
      have e : Re.nul (.mk 4 0 0 0 0 [x, y]) = (x.nul && y.nul) := by rw [Re.nul]; rfl
      rw [e]
      cases x.nul
      · simp only [go_sem, Int.reduceEq, Int.reduceLE, Int.reduceLT, Int.reduceToNat, Bool.not_false, Bool.not_true]
        exact Fin.v (by simp)
      · simp only [go_sem, Int.reduceEq, Int.reduceLE, Int.reduceLT, Int.reduceToNat, Re.c_mk, Bool.not_false, Bool.not_true]
        refine hy.pv ⟨.same (Re.d_bl _), trivial⟩ ?_
        simp only [go_sem, Int.reduceEq, Int.reduceLE, Int.reduceLT, Int.reduceToNat]
        exact Fin.v (by simp)
    · simp only [go_sem, Int.reduceEq, Int.reduceLE, Int.reduceLT, Int.reduceToNat, Re.c_mk, Int.reduceBEq]
      refine hx.pv ⟨.same (Re.d_bl _), trivial⟩ ?_
      have e : Re.nul (.mk 5 0 0 0 0 [x, y]) = (x.nul || y.nul) := by rw [Re.nul]; rfl
      rw [e]
      cases x.nul
      · simp only [go_sem, Int.reduceEq, Int.reduceLE, Int.reduceLT, Int.reduceToNat, Re.c_mk, Bool.not_false, Bool.not_true]
        refine hy.pv ⟨.same (Re.d_bl _), trivial⟩ ?_
        simp only [go_sem, Int.reduceEq, Int.reduceLE, Int.reduceLT, Int.reduceToNat]
        exact Fin.v (by simp)
      · simp only [go_sem, Int.reduceEq, Int.reduceLE, Int.reduceLT, Int.reduceToNat, Bool.not_false, Bool.not_true]
        exact Fin.v (by simp)
  · intro x _ hx
    refine AC.lbody hT hm Tryd.func36 f36_nm f36_lc f36_res f36_nt ?_
    simp only [go_sem, Int.reduceEq, Int.reduceLE, Int.reduceLT, Int.reduceToNat, Re.c_mk, Int.reduceBEq, Int.reduceBNe]
    exact Fin.v (by simp [Re.nul])
theorem rFit (r : Re) : r.nodesOk = true → AP Tryd.prog 60 [.agg r.c] (.b r.fit) := by
  refine Re.indOk (p := fun r => AP Tryd.prog 60 [.agg r.c] (.b r.fit)) ?_ ?_ ?_ ?_ r
  · intro k hk
    refine AC.lbody hT hm Tryd.func60 f60_nm f60_lc f60_res f60_nt ?_
    rcases hk with rfl | rfl
    · simp only [go_sem, Int.reduceEq, Int.reduceLE, Int.reduceLT, Int.reduceToNat, Re.c_mk, Int.reduceBEq, Int.reduceBNe]
      exact Fin.v (by simp [Re.fit])
    · simp only [go_sem, Int.reduceEq, Int.reduceLE, Int.reduceLT, Int.reduceToNat, Re.c_mk, Int.reduceBEq, Int.reduceBNe]
      exact Fin.v (by simp [Re.fit])
  · intro a b c d _
    refine AC.lbody hT hm Tryd.func60 f60_nm f60_lc f60_res f60_nt ?_
    simp only [go_sem, Int.reduceEq, Int.reduceLE, Int.reduceLT, Int.reduceToNat, Re.c_mk, Int.reduceBEq, Int.reduceBNe]
    exact Fin.v (by simp [Re.fit])
  · intro k x y hk _ _ hx hy
    refine AC.lbody hT hm Tryd.func60 f60_nm f60_lc f60_res f60_nt ?_
    rcases hk with rfl | rfl
    · simp only [go_sem, Int.reduceEq, Int.reduceLE, Int.reduceLT, Int.reduceToNat, Re.c_mk, Int.reduceBEq]
      refine hx.pv ⟨.same (Re.d_bl _), trivial⟩ ?_
      have e : Re.fit (.mk 4 0 0 0 0 [x, y]) = (x.fit && y.fit) := by rw [Re.fit]; rfl
      rw [e]
      cases x.fit
      · simp only [go_sem, Int.reduceEq, Int.reduceLE, Int.reduceLT, Int.reduceToNat, Bool.not_false, Bool.not_true]
        exact Fin.v (by simp)
      · simp only [go_sem, Int.reduceEq, Int.reduceLE, Int.reduceLT, Int.reduceToNat, Re.c_mk, Bool.not_false, Bool.not_true]
        refine hy.pv ⟨.same (Re.d_bl _), trivial⟩ ?_
        simp only [go_sem, Int.reduceEq, Int.reduceLE, Int.reduceLT, Int.reduceToNat]
        exact Fin.v (by simp)
    · simp only [go_sem, Int.reduceEq, Int.reduceLE, Int.reduceLT, Int.reduceToNat, Re.c_mk, Int.reduceBEq]
      refine hx.pv ⟨.same (Re.d_bl _), trivial⟩ ?_
      have e : Re.fit (.mk 5 0 0 0 0 [x, y]) = (x.fit || y.fit) := by rw [Re.fit]; rfl
      rw [e]
      cases x.fit
      · simp only [go_sem, Int.reduceEq, Int.reduceLE, Int.reduceLT, Int.reduceToNat, Re.c_mk, Bool.not_false, Bool.not_true]
        refine hy.pv ⟨.same (Re.d_bl _), trivial⟩ ?_
        simp only [go_sem, Int.reduceEq, Int.reduceLE, Int.reduceLT, Int.reduceToNat]
        exact Fin.v (by simp)
      · simp only [go_sem, Int.reduceEq, Int.reduceLE, Int.reduceLT, Int.reduceToNat, Bool.not_false, Bool.not_true]
        exact Fin.v (by simp)
  · intro x _ hx
    refine AC.lbody hT hm Tryd.func60 f60_nm f60_lc f60_res f60_nt ?_
    simp only [go_sem, Int.reduceEq, Int.reduceLE, Int.reduceLT, Int.reduceToNat, Re.c_mk, Int.reduceBEq, Int.reduceBNe]
    exact Fin.v (by simp [Re.fit])
theorem nNul (r : Re) : r.nodesOk = true → AP Tryd.prog 50 [.agg r.c] (.b r.nul) := by
  refine Re.indOk (p := fun r => AP Tryd.prog 50 [.agg r.c] (.b r.nul)) ?_ ?_ ?_ ?_ r
  · intro k hk
    refine AC.lbody hT hm Tryd.func50 f50_nm f50_lc f50_res f50_nt ?_
    rcases hk with rfl | rfl
    · simp only [go_sem, Int.reduceEq, Int.reduceLE, Int.reduceLT, Int.reduceToNat, Re.c_mk, Int.reduceBEq, Int.reduceBNe]
      exact Fin.v (by simp [Re.nul])
    · simp only [go_sem, Int.reduceEq, Int.reduceLE, Int.reduceLT, Int.reduceToNat, Re.c_mk, Int.reduceBEq, Int.reduceBNe]
      exact Fin.v (by simp [Re.nul])
  · intro a b c d _
    refine AC.lbody hT hm Tryd.func50 f50_nm f50_lc f50_res f50_nt ?_
    simp only [go_sem, Int.reduceEq, Int.reduceLE, Int.reduceLT, Int.reduceToNat, Re.c_mk, Int.reduceBEq, Int.reduceBNe]
    exact Fin.v (by simp [Re.nul])
  · intro k x y hk _ _ hx hy
    refine AC.lbody hT hm Tryd.func50 f50_nm f50_lc f50_res f50_nt ?_
    rcases hk with rfl | rfl
    · simp only [go_sem, Int.reduceEq, Int.reduceLE, Int.reduceLT, Int.reduceToNat, Re.c_mk, Int.reduceBEq]
      refine hx.pv ⟨.same (Re.d_bl _), trivial⟩ ?_
      have e : Re.nul (.mk 4 0 0 0 0 [x, y]) = (x.nul && y.nul) := by rw [Re.nul]; rfl
      rw [e]
      cases x.nul
      · simp only [go_sem, Int.reduceEq, Int.reduceLE, Int.reduceLT, Int.reduceToNat, Bool.not_false, Bool.not_true]
        exact Fin.v (by simp)
      · simp only [go_sem, Int.reduceEq, Int.reduceLE, Int.reduceLT, Int.reduceToNat, Re.c_mk, Bool.not_false, Bool.not_true]
        refine hy.pv ⟨.same (Re.d_bl _), trivial⟩ ?_
        simp only [go_sem, Int.reduceEq, Int.reduceLE, Int.reduceLT, Int.reduceToNat]
        exact Fin.v (by simp)
    · simp only [go_sem, Int.reduceEq, Int.reduceLE, Int.reduceLT, Int.reduceToNat, Re.c_mk, Int.reduceBEq]
      refine hx.pv ⟨.same (Re.d_bl _), trivial⟩ ?_
      have e : Re.nul (.mk 5 0 0 0 0 [x, y]) = (x.nul || y.nul) := by rw [Re.nul]; rfl
      rw [e]
      cases x.nul
      · simp only [go_sem, Int.reduceEq, Int.reduceLE, Int.reduceLT, Int.reduceToNat, Re.c_mk, Bool.not_false, Bool.not_true]
        refine hy.pv ⟨.same (Re.d_bl _), trivial⟩ ?_
        simp only [go_sem, Int.reduceEq, Int.reduceLE, Int.reduceLT, Int.reduceToNat]
        exact Fin.v (by simp)
      · simp only [go_sem, Int.reduceEq, Int.reduceLE, Int.reduceLT, Int.reduceToNat, Bool.not_false, Bool.not_true]
        exact Fin.v (by simp)
  · intro x _ hx
    refine AC.lbody hT hm Tryd.func50 f50_nm f50_lc f50_res f50_nt ?_
    simp only [go_sem, Int.reduceEq, Int.reduceLE, Int.reduceLT, Int.reduceToNat, Re.c_mk, Int.reduceBEq, Int.reduceBNe]
    exact Fin.v (by simp [Re.nul])
theorem nVoid (r : Re) : r.nodesOk = true → AP Tryd.prog 55 [.agg r.c] (.b (!r.fit)) := by
  refine Re.indOk (p := fun r => AP Tryd.prog 55 [.agg r.c] (.b (!r.fit))) ?_ ?_ ?_ ?_ r
  · intro k hk
    refine AC.lbody hT hm Tryd.func55 f55_nm f55_lc f55_res f55_nt ?_
    rcases hk with rfl | rfl
    · simp only [go_sem, Int.reduceEq, Int.reduceLE, Int.reduceLT, Int.reduceToNat, Re.c_mk, Int.reduceBEq, Int.reduceBNe]
      exact Fin.v (by simp [Re.fit])
    · simp only [go_sem, Int.reduceEq, Int.reduceLE, Int.reduceLT, Int.reduceToNat, Re.c_mk, Int.reduceBEq, Int.reduceBNe]
      exact Fin.v (by simp [Re.fit])
  · intro a b c d _
    refine AC.lbody hT hm Tryd.func55 f55_nm f55_lc f55_res f55_nt ?_
    simp only [go_sem, Int.reduceEq, Int.reduceLE, Int.reduceLT, Int.reduceToNat, Re.c_mk, Int.reduceBEq, Int.reduceBNe]
    exact Fin.v (by simp [Re.fit])
  · intro k x y hk _ _ hx hy
    refine AC.lbody hT hm Tryd.func55 f55_nm f55_lc f55_res f55_nt ?_
    rcases hk with rfl | rfl
    · simp only [go_sem, Int.reduceEq, Int.reduceLE, Int.reduceLT, Int.reduceToNat, Re.c_mk, Int.reduceBEq]
      refine hx.pv ⟨.same (Re.d_bl _), trivial⟩ ?_
      have e : Re.fit (.mk 4 0 0 0 0 [x, y]) = (x.fit && y.fit) := by rw [Re.fit]; rfl
      rw [e]
      cases x.fit
      · simp only [go_sem, Int.reduceEq, Int.reduceLE, Int.reduceLT, Int.reduceToNat, Bool.not_false, Bool.not_true]
        exact Fin.v (by simp)
      · simp only [go_sem, Int.reduceEq, Int.reduceLE, Int.reduceLT, Int.reduceToNat, Re.c_mk, Bool.not_false, Bool.not_true]
        refine hy.pv ⟨.same (Re.d_bl _), trivial⟩ ?_
        simp only [go_sem, Int.reduceEq, Int.reduceLE, Int.reduceLT, Int.reduceToNat]
        exact Fin.v (by simp)
    · simp only [go_sem, Int.reduceEq, Int.reduceLE, Int.reduceLT, Int.reduceToNat, Re.c_mk, Int.reduceBEq]
      refine hx.pv ⟨.same (Re.d_bl _), trivial⟩ ?_
      have e : Re.fit (.mk 5 0 0 0 0 [x, y]) = (x.fit || y.fit) := by rw [Re.fit]; rfl
      rw [e]
      cases x.fit
      · simp only [go_sem, Int.reduceEq, Int.reduceLE, Int.reduceLT, Int.reduceToNat, Re.c_mk, Bool.not_false, Bool.not_true]
        refine hy.pv ⟨.same (Re.d_bl _), trivial⟩ ?_
        simp only [go_sem, Int.reduceEq, Int.reduceLE, Int.reduceLT, Int.reduceToNat]
        exact Fin.v (by simp)
      · simp only [go_sem, Int.reduceEq, Int.reduceLE, Int.reduceLT, Int.reduceToNat, Bool.not_false, Bool.not_true]
        exact Fin.v (by simp)
  · intro x _ hx
    refine AC.lbody hT hm Tryd.func55 f55_nm f55_lc f55_res f55_nt ?_
    simp only [go_sem, Int.reduceEq, Int.reduceLE, Int.reduceLT, Int.reduceToNat, Re.c_mk, Int.reduceBEq, Int.reduceBNe]
    exact Fin.v (by simp [Re.fit])
end Go.Proofs.YtfpfcokhnddddaaDoor.W

set_option maxRecDepth 100000
/- Whether expressions are nullable, or void: the program's and the document's. -/
namespace Go.Proofs.YtfpfcokhnddddaaDoor.W
open Go Go.Proofs Go.Proofs.YtfpfcokhnddddaaDoor.AWP
attribute [local irreducible] xl hide aop aops aopQ qops guardP condP

theorem mayB_ok {r : Re} (h : mayB r = true) : r.nodesOk = true := by
  unfold mayB at h
  rw [Bool.and_eq_true] at h
  exact h.1
def nulB (r : Re) : Bool := mayB r && r.nul
def voidB (r : Re) : Bool := mayB r && !r.fit
theorem resB (r : Re) : D.sl 6 [r.c] = Res [r] := by show _ = D.sl 6 (Re.cs [r]); rw [Re.cs_eq]; rfl

theorem rNull (r : Re) (hz : r.sz ≤ 1099511627776) : AP Tryd.prog 14 [.agg r.c] (.b (nulB r)) := by
  unfold nulB
  refine AC.lbody hT hm Tryd.func14 f14_nm f14_lc f14_res f14_nt ?_
  simp only [go_sem, Int.reduceEq, Int.reduceLE, Int.reduceLT, Int.reduceToNat]
  refine (rMay r hz).pv ⟨.same (Re.d_bl _), trivial⟩ ?_
  cases h : mayB r
  · simp only [go_sem, Int.reduceEq, Int.reduceLE, Int.reduceLT, Int.reduceToNat]
    exact Fin.v rfl
  · simp only [go_sem, Int.reduceEq, Int.reduceLE, Int.reduceLT, Int.reduceToNat]
    refine (rNul r (mayB_ok h)).pv ⟨.same (Re.d_bl _), trivial⟩ ?_
    simp only [go_sem, Int.reduceEq, Int.reduceLE, Int.reduceLT, Int.reduceToNat]
    exact Fin.v (by simp)
theorem null1 (r : Re) (hz : r.sz ≤ 1099511627776) : AP Tryd.prog 49 [.agg r.c] (.b (!nulB r)) := by
  unfold nulB
  refine AC.lbody hT hm Tryd.func49 f49_nm f49_lc f49_res f49_nt ?_
  simp only [go_sem, Int.reduceEq, Int.reduceLE, Int.reduceLT, Int.reduceToNat]
  refine (may r hz).pv ⟨.eq (resB r) (by simp), trivial⟩ ?_
  cases h : mayB r
  · simp only [go_sem, Int.reduceEq, Int.reduceLE, Int.reduceLT, Int.reduceToNat, Bool.not_false]
    exact Fin.v rfl
  · simp only [go_sem, Int.reduceEq, Int.reduceLE, Int.reduceLT, Int.reduceToNat, Bool.not_true]
    refine (nNul r (mayB_ok h)).pv ⟨.same (Re.d_bl _), trivial⟩ ?_
    simp only [go_sem, Int.reduceEq, Int.reduceLE, Int.reduceLT, Int.reduceToNat]
    exact Fin.v (by simp)
theorem nullNull (l : List Re) (hl : l.length ≤ 9223372036854775807) (hz : ∀ x ∈ l, x.sz ≤ 1099511627776) : AP Tryd.prog 30 [Res l] (.b (l.all nulB)) := by
  have e : l.all nulB = !(l.any fun r => !nulB r) := by
    clear hl hz
    induction l with
    | nil => rfl
    | cons x l ih => rw [List.all_cons, List.any_cons, ih]; simp
  rw [e]
  refine AC.lbody hT hm Tryd.func30 f30_nm f30_lc f30_res f30_nt ?_
  simp only [go_sem, Int.reduceEq, Int.reduceLE, Int.reduceLT, Int.reduceToNat]
  refine (anyRe 49 (fun r => !nulB r) l hl fun x hx => null1 x (hz x hx)).pv ⟨.same (by simp), .same (by simp), trivial⟩ ?_
  simp only [go_sem, Int.reduceEq, Int.reduceLE, Int.reduceLT, Int.reduceToNat]
  exact Fin.v rfl
theorem nullNull1 (r : Re) (hz : r.sz ≤ 1099511627776) : AP Tryd.prog 30 [D.sl 6 [r.c]] (.b (nulB r)) := by
  have := nullNull [r] (by simp) (by intro x hx; rw [List.mem_singleton.1 hx]; exact hz)
  rw [← resB] at this
  simpa using this
/-! ### First bytes -/
theorem fst_len (r : Re) : r.fst.length = 4 := by
  refine Re.ind (p := fun r => r.fst.length = 4) ?_ r
  intro k a b c d ks ih
  match ks, ih with
  | [], _ => simp only [Re.fst]; split <;> rfl
  | [x], ih => rw [Re.fst]; exact ih x (by simp)
  | [x, y], ih =>
    rw [Re.fst]
    have hj : (joinAll [x.fst, y.fst]).length = 4 := joinAll_len (by intro z hz; rcases List.mem_cons.1 hz with rfl | hz; exact ih x (by simp); rw [List.mem_singleton.1 hz]; exact ih y (by simp))
    split
    · split
      · split
        · exact hj
        · exact ih x (by simp)
      · rfl
    · exact hj
  | x :: y :: z :: l, _ => simp only [Re.fst]; split <;> rfl
theorem W_putE {ty : Nat} {a b c d : Int} {ws : List Int} (h : ws.length = 4) : obPut (.var ty [.v (.int .u64 a), .v (.int .u64 b), .v (.int .u64 c), .v (.int .u64 d)]) 0 (ws.map wD) = some (.var ty (ws.map wD)) := W_put (a := [a, b, c, d]) rfl h

theorem nFirst (r : Re) : r.nodesOk = true → AP Tryd.prog 32 [.agg r.c] (Ws r.fst) := by
  refine Re.indOk (p := fun r => AP Tryd.prog 32 [.agg r.c] (Ws r.fst)) ?_ ?_ ?_ ?_ r
  · intro k hk
    have e : (Re.mk k 0 0 0 0 []).fst = noneS := by rcases hk with rfl | rfl <;> simp [Re.fst]
    rw [e]
    refine AC.lbody hT hm Tryd.func32 f32_nm f32_lc f32_res f32_nt ?_
    rcases hk with rfl | rfl
    · simp only [go_sem, Int.reduceEq, Int.reduceLE, Int.reduceLT, Int.reduceToNat, Re.c_mk, Int.reduceBEq]
      exact Fin.ret (Cv.same (.agg (W_bl noneS)))
    · simp only [go_sem, Int.reduceEq, Int.reduceLE, Int.reduceLT, Int.reduceToNat, Re.c_mk, Int.reduceBEq]
      exact Fin.ret (Cv.same (.agg (W_bl noneS)))
  · intro a b c d _
    have e : (Re.mk 3 a b c d []).fst = [a, b, c, d] := by simp [Re.fst]
    rw [e]
    refine AC.lbody hT hm Tryd.func32 f32_nm f32_lc f32_res f32_nt ?_
    simp only [go_sem, Int.reduceEq, Int.reduceLE, Int.reduceLT, Int.reduceToNat, Re.c_mk, Int.reduceBEq]
    exact Fin.ret (Cv.same (.agg (W_bl [a, b, c, d])))
  · intro k x y hk hox hoy hx hy
    have hlx := fst_len x
    have hly := fst_len y
    have hj : (joinAll [x.fst, y.fst]).length = 4 := joinAll_len (by intro z hz; rcases List.mem_cons.1 hz with rfl | hz; exact hlx; rw [List.mem_singleton.1 hz]; exact hly)
    have sj := setJoin [x.fst, y.fst] (by simp) (by intro z hz; rcases List.mem_cons.1 hz with rfl | hz; exact hlx; rw [List.mem_singleton.1 hz]; exact hly)
    rcases hk with rfl | rfl
    · have hv := nVoid (.mk 4 0 0 0 0 [x, y]) (by rw [Re.nodesOk, Re.nodesOks, Re.nodesOks, Re.nodesOks, hox, hoy]; rfl)
      have ev : (Re.mk 4 0 0 0 0 [x, y]).fit = (x.fit && y.fit) := by simp [Re.fit]
      rw [ev] at hv
      have e : (Re.mk 4 0 0 0 0 [x, y]).fst = if x.fit && y.fit then (if x.nul then joinAll [x.fst, y.fst] else x.fst) else noneS := by simp [Re.fst]
      rw [e]
      refine AC.lbody hT hm Tryd.func32 f32_nm f32_lc f32_res f32_nt ?_
      simp only [go_sem, Int.reduceEq, Int.reduceLE, Int.reduceLT, Int.reduceToNat, Re.c_mk, Int.reduceBEq]
      refine hv.pv ⟨.eq (by simp [Re.c_mk, Re.cs_eq]) (by simp), trivial⟩ ?_
      cases x.fit && y.fit
      · simp only [go_sem, Int.reduceEq, Int.reduceLE, Int.reduceLT, Int.reduceToNat, Bool.not_false]
        exact Fin.ret (Cv.same (.agg (W_bl noneS)))
      simp only [go_sem, Int.reduceEq, Int.reduceLE, Int.reduceLT, Int.reduceToNat, Bool.not_true, Re.c_mk]
      refine (nNul x hox).pv ⟨.same (Re.d_bl _), trivial⟩ ?_
      cases x.nul
      · simp only [go_sem, Int.reduceEq, Int.reduceLE, Int.reduceLT, Int.reduceToNat, Re.c_mk]
        refine hx.pd ⟨.same (Re.d_bl _), trivial⟩ (.agg (W_bl _)) ?_
        simp only [go_sem, Int.reduceEq, Int.reduceLE, Int.reduceLT, Int.reduceToNat, hlx, W_take hlx, W_putE hlx, W_drop0]
        exact Fin.ret (Cv.same (.agg (W_bl _)))
      simp only [go_sem, Int.reduceEq, Int.reduceLE, Int.reduceLT, Int.reduceToNat, Re.c_mk]
      refine hx.qd ⟨.same (Re.d_bl _), trivial⟩ (.agg (W_bl _)) ?_
      simp only [go_sem, Int.reduceEq, Int.reduceLE, Int.reduceLT, Int.reduceToNat, Re.c_mk]
      refine hy.pd ⟨.same (Re.d_bl _), trivial⟩ (.agg (W_bl _)) ?_
      simp only [go_sem, Int.reduceEq, Int.reduceLE, Int.reduceLT, Int.reduceToNat, Re.c_mk, hlx, hly]
      refine sj.pd ⟨.same (.sl (Wss_bl [x.fst, y.fst])), trivial⟩ (.agg (W_bl _)) ?_
      simp only [go_sem, Int.reduceEq, Int.reduceLE, Int.reduceLT, Int.reduceToNat, hj, W_take hj, W_putE hj, W_drop0]
      exact Fin.ret (Cv.same (.agg (W_bl _)))
    · have e : (Re.mk 5 0 0 0 0 [x, y]).fst = joinAll [x.fst, y.fst] := by simp [Re.fst]
      rw [e]
      refine AC.lbody hT hm Tryd.func32 f32_nm f32_lc f32_res f32_nt ?_
      simp only [go_sem, Int.reduceEq, Int.reduceLE, Int.reduceLT, Int.reduceToNat, Re.c_mk, Int.reduceBEq]
      refine hx.qd ⟨.same (Re.d_bl _), trivial⟩ (.agg (W_bl _)) ?_
      simp only [go_sem, Int.reduceEq, Int.reduceLE, Int.reduceLT, Int.reduceToNat, Re.c_mk]
      refine hy.pd ⟨.same (Re.d_bl _), trivial⟩ (.agg (W_bl _)) ?_
      simp only [go_sem, Int.reduceEq, Int.reduceLE, Int.reduceLT, Int.reduceToNat, Re.c_mk, hlx, hly]
      refine sj.pd ⟨.same (.sl (Wss_bl [x.fst, y.fst])), trivial⟩ (.agg (W_bl _)) ?_
      simp only [go_sem, Int.reduceEq, Int.reduceLE, Int.reduceLT, Int.reduceToNat, hj, W_take hj, W_putE hj, W_drop0]
      exact Fin.ret (Cv.same (.agg (W_bl _)))
  · intro x _ hx
    have e : (Re.mk 6 0 0 0 0 [x]).fst = x.fst := by simp [Re.fst]
    rw [e]
    have hlx := fst_len x
    refine AC.lbody hT hm Tryd.func32 f32_nm f32_lc f32_res f32_nt ?_
    simp only [go_sem, Int.reduceEq, Int.reduceLE, Int.reduceLT, Int.reduceToNat, Re.c_mk, Int.reduceBEq]
    refine hx.pd ⟨.same (Re.d_bl _), trivial⟩ (.agg (W_bl _)) ?_
    simp only [go_sem, Int.reduceEq, Int.reduceLE, Int.reduceLT, Int.reduceToNat, hlx, W_take hlx, W_putE hlx, W_drop0]
    exact Fin.ret (Cv.same (.agg (W_bl _)))
end Go.Proofs.YtfpfcokhnddddaaDoor.W

set_option maxRecDepth 100000
/- What may be: two cases. -/
namespace Go.Proofs.YtfpfcokhnddddaaDoor.W
open Go Go.Proofs Go.Proofs.YtfpfcokhnddddaaDoor.AWP

theorem mayCase (r : Re) : mayB r = false ∨ mayB r = true := by cases mayB r <;> simp
theorem mayZ {r : Re} (h : mayB r = true) : r.nodesOk = true ∧ r.sz ≤ 2000 := by
  unfold mayB at h
  simpa using h
theorem wdD_bl (x : Re × Nat × Nat) : Bl 0 (wdD x) := by
  refine .tup ?_
  simp
end Go.Proofs.YtfpfcokhnddddaaDoor.W

set_option maxRecDepth 100000
/- First bytes; the document's example; whether any expressions are nullable, or one is void, is the document's. -/
namespace Go.Proofs.YtfpfcokhnddddaaDoor.W
open Go Go.Proofs Go.Proofs.YtfpfcokhnddddaaDoor.AWP
attribute [local irreducible] xl hide aop aops aopQ qops guardP condP

/-- First bytes of one that may be, or none. -/
def firB (r : Re) : List Int := if mayB r then r.fst else noneS
theorem firB_len (r : Re) : (firB r).length = 4 := by
  unfold firB
  split
  · exact fst_len r
  · rfl
theorem nullFirst (r : Re) (hz : r.sz ≤ 1099511627776) : AP Tryd.prog 9 [.agg r.c] (Ws (firB r)) := by
  unfold firB
  have hl := fst_len r
  refine AC.lbody hT hm Tryd.func9 f9_nm f9_lc f9_res f9_nt ?_
  simp only [go_sem, Int.reduceEq, Int.reduceLE, Int.reduceLT, Int.reduceToNat]
  refine (may r hz).pv ⟨.eq (resB r) (by simp), trivial⟩ ?_
  cases h : mayB r
  · simp only [go_sem, Int.reduceEq, Int.reduceLE, Int.reduceLT, Int.reduceToNat, Bool.not_false]
    exact Fin.ret (Cv.same (.agg (W_bl noneS)))
  · simp only [go_sem, Int.reduceEq, Int.reduceLE, Int.reduceLT, Int.reduceToNat, Bool.not_true]
    refine (nFirst r (mayB_ok h)).pd ⟨.same (Re.d_bl _), trivial⟩ (.agg (W_bl _)) ?_
    simp only [go_sem, Int.reduceEq, Int.reduceLE, Int.reduceLT, Int.reduceToNat, hl, W_take hl, W_putE hl, W_drop0]
    exact Fin.ret (Cv.same (.agg (W_bl _)))

def rAb : Re := .mk 4 0 0 0 0 [.mk 6 0 0 0 0 [reS (ofS [97])], reS (ofS [98])]
theorem awake7 : AP Tryd.prog 8 [] (.b true) := by
  have e1 : (pRead ⟨#[97, 42, 98]⟩).2 = (0, 0) := by decide +kernel
  have e2 : (pRead ⟨#[97, 42, 98]⟩).1 = rAb := Re.same_eq _ _ (by decide +kernel)
  have z : rAb.sz ≤ 1099511627776 := by decide +kernel
  have ef : firB rAb = ofS [97, 98] := by decide +kernel
  have en : nulB rAb = false := by decide +kernel
  have h1 := nullFirst rAb z
  have h2 := nullNull1 rAb z
  rw [ef] at h1
  rw [en] at h2
  have h3 := setOf [97, 98] (by simp)
  have hs : byteRows [97, 98] = [[.v (.int .u8 97)], [.v (.int .u8 98)]] := rfl
  rw [show Bys [97, 98] = .sl 1 (byteRows [97, 98]) from rfl, hs] at h3
  refine AC.lbody hT hm Tryd.func8 f8_nm f8_lc f8_res f8_nt ?_
  simp only [go_sem, Int.reduceEq, Int.reduceLE, Int.reduceLT, Int.reduceToNat]
  refine (readN ⟨#[97, 42, 98]⟩).pd ⟨.v, trivial⟩ (wdD_bl _) ?_
  generalize pRead ⟨#[97, 42, 98]⟩ = x at e1 e2
  obtain ⟨r, p⟩ := x
  cases e1
  obtain rfl : r = rAb := e2
  have c0 : (((0 : Nat) : Int) == 0) = true := rfl
  simp only [go_sem, Int.reduceEq, Int.reduceLE, Int.reduceLT, Int.reduceToNat, c0]
  refine h1.pd ⟨.same (Re.d_bl _), trivial⟩ (.agg (W_bl _)) ?_
  simp only [go_sem, Int.reduceEq, Int.reduceLE, Int.reduceLT, Int.reduceToNat]
  refine h3.pd ⟨.same (by simp), trivial⟩ (.agg (W_bl _)) ?_
  have l4 := ofS_len [97, 98]
  have eq := intsEq_W (ofS [97, 98]) (ofS [97, 98]) rfl
  rw [decide_eq_true rfl] at eq
  simp only [go_sem, Int.reduceEq, Int.reduceLE, Int.reduceLT, Int.reduceToNat, l4, eq]
  refine h2.pv ⟨.same (by simp), trivial⟩ ?_
  simp only [go_sem, Int.reduceEq, Int.reduceLE, Int.reduceLT, Int.reduceToNat, Bool.not_false]
  exact Fin.v rfl

end Go.Proofs.YtfpfcokhnddddaaDoor.W

set_option maxRecDepth 100000
/- How many bytes a set has: none just where it is empty. -/
namespace Go.Proofs.YtfpfcokhnddddaaDoor.W
open Go Go.Proofs Go.Proofs.YtfpfcokhnddddaaDoor.AWP
attribute [local irreducible] xl hide aop aops aopQ qops guardP condP

/-- First bytes none, or some. -/
theorem nullOnly (r : Re) (hz : r.sz ≤ 1099511627776) (ho : r.nodesOk = true) : AP Tryd.prog 13 [.agg r.c] (.b (nulB r && decide (r.fst = noneS))) := by
  have hl := fst_len r
  refine AC.lbody hT hm Tryd.func13 f13_nm f13_lc f13_res f13_nt ?_
  simp only [go_sem, Int.reduceEq, Int.reduceLE, Int.reduceLT, Int.reduceToNat]
  refine (nullNull1 r hz).pv ⟨.same (by simp), trivial⟩ ?_
  cases nulB r
  · simp only [go_sem, Int.reduceEq, Int.reduceLE, Int.reduceLT, Int.reduceToNat]
    exact Fin.v (by simp)
  simp only [go_sem, Int.reduceEq, Int.reduceLE, Int.reduceLT, Int.reduceToNat]
  refine (nFirst r ho).pd ⟨.same (Re.d_bl _), trivial⟩ (.agg (W_bl _)) ?_
  have eq := intsEq_W r.fst noneS hl
  rw [show noneS.map wD = [D.v (Value.int IntKind.u64 0), D.v (Value.int IntKind.u64 0), D.v (Value.int IntKind.u64 0), D.v (Value.int IntKind.u64 0)] from rfl] at eq
  simp only [go_sem, Int.reduceEq, Int.reduceLE, Int.reduceLT, Int.reduceToNat, hl, eq]
  exact Fin.v (by simp)

end Go.Proofs.YtfpfcokhnddddaaDoor.W
