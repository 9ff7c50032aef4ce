/- How many bytes a set has: none just where it is empty. -/
import Derived.Test.YteifkcgokjmcjaaNullC
import Derived.Test.YteifkcgokjmcjaaPopMath
set_option linter.unusedVariables false
set_option linter.unusedSimpArgs false
set_option linter.unusedSectionVars false
set_option maxRecDepth 100000
/- How many bytes a set has: none just where it is empty. -/
namespace Go.Proofs.Yteifkcgokjmcjaa.W
open Go Go.Proofs Go.Proofs.Yteifkcgokjmcjaa.AWP
attribute [local irreducible] xl hide aop aops aopQ qops guardP condP

theorem ones (m : Nat) (hm0 : m < 2 ^ 64) : AP Try.prog 68 [.v (.int .u64 m)] (.i (popN m)) := by
  obtain ⟨w1, w2, w3, w4, n, hn, n1, n2⟩ := pop_ok m hm0
  obtain ⟨x1, x2, x3, x4⟩ := hn _ rfl
  have e : popN m = n := x4
  rw [e]
  refine AC.lbody hT hm Try.func68 f68_nm f68_lc f68_res f68_nt ?_
  simp only [go_sem, Int.reduceEq, Int.reduceLE, Int.reduceLT, Int.reduceToNat]
  refine Fin.v ?_
  have hx1 : popC (popB (popA m)) + popC (popB (popA m)) / 2 ^ 8 < 2 ^ 64 := x1
  rw [popA_w m hm0 w1, popB_w _ w1 w2, popC_w _ w2 w3]
  generalize popC (popB (popA m)) = x at x1 x2 x3 x4 w4 hx1 ⊢
  have y1 := addS_w x 8 (by omega) hx1
  have y2 := addS_w (x + x / 256) 16 (by omega) x2
  have y3 : IntKind.u64.wrap (((x + x / 256 + (x + x / 256) / 65536 : Nat) : Int) + ((x + x / 256 + (x + x / 256) / 65536 : Nat) : Int).fdiv (2 ^ min 32 64)) = ((x + x / 256 + (x + x / 256) / 65536 + (x + x / 256 + (x + x / 256) / 65536) / 4294967296 : Nat) : Int) :=
    addS_w (x + x / 256 + (x + x / 256) / 65536) 32 (by omega) (by show _ < _; have : (x + x / 256 + (x + x / 256) / 65536) / 2 ^ 32 = (x + x / 256 + (x + x / 256) / 65536) / 4294967296 := rfl; omega)
  have z1 : x + x / 2 ^ 8 = x + x / 256 := rfl
  have z2 : x + x / 256 + (x + x / 256) / 2 ^ 16 = x + x / 256 + (x + x / 256) / 65536 := rfl
  rw [z1] at y1
  rw [z2] at y2
  rw [y1, y2, y3, and127 _ x3, x4]

theorem setCount (ws : List Int) (hw : W64 ws) : AP Try.prog 43 [D.sl 4 [ws.map wD]] (.i (cntK ws 4)) := by
  have hl := hw.len
  have hle := cntK_le hw
  refine AC.lbody hT hm Try.func43 f43_nm f43_lc f43_res f43_nt ?_
  simp only [go_sem, Int.reduceEq, Int.reduceLE, Int.reduceLT, Int.reduceToNat]
  refine xl_loopM hT hm (fun i : Nat => ⟨f43_i12 (.i (cntK ws (4 * i))) (D.sl 4 [ws.map wD]) (.i 1) (.i i), []⟩)
    (fun i => i ≤ 1) (fun i => 1 - i) 0 (Nat.zero_le _) (Mv.none (by simp [f43_i12, cntK])) ?_
  intro i hi
  simp only [go_sem, Int.reduceEq, Int.reduceLE, Int.reduceLT, Int.reduceToNat]
  by_cases h : i < 1
  case neg =>
    obtain rfl : i = 1 := by omega
    have hf : decide (((1 : Nat) : Int) < 1) = false := rfl
    simp only [go_sem, Int.reduceEq, Int.reduceLE, Int.reduceLT, Int.reduceToNat, hf]
    exact Fin.v rfl
  obtain rfl : i = 0 := by omega
  have hf : decide (((0 : Nat) : Int) < 1) = true := rfl
  have h4w : (ws.map wD).length = 4 := by simp [hl]
  have g0 : [ws.map wD][0]? = some (ws.map wD) := rfl
  have tk := W_take hl
  simp only [go_sem, Int.reduceEq, Int.reduceLE, Int.reduceLT, Int.reduceToNat, hf, g0, h4w, W_take hl, W_drop0]
  refine xl_loopM hT hm (fun k : Nat => ⟨f43_i10 (.i (cntK ws k)) (D.sl 4 [ws.map wD]) (.i 1) (.i (0 : Nat)) (Ws ws) (.i k), []⟩)
    (fun k => k ≤ 4) (fun k => 4 - k) 0 (Nat.zero_le _) (Mv.of [] rfl trivial (by simp [f43_i10, cntK])) ?_
  intro k hk
  simp only [go_sem, Int.reduceEq, Int.reduceLE, Int.reduceLT, Int.reduceToNat]
  by_cases h4 : k < 4
  case neg =>
    obtain rfl : k = 4 := by omega
    have hf : decide (((4 : Nat) : Int) < 4) = false := rfl
    simp only [go_sem, Int.reduceEq, Int.reduceLE, Int.reduceLT, Int.reduceToNat, hf]
    have w1 : IntKind.i64.wrap 1 = 1 := by decide
    refine ⟨1, Nat.le_refl _, by omega, ?_⟩
    exact Mv.none (by simp [w1])
  have ht : decide ((k : Int) < 4) = true := by simp; omega
  obtain ⟨m, em, hm0⟩ := hw.getD h4
  have hg := ws_get (ws := ws) (i := k) (by rw [hl]; exact h4)
  have hst := cntK_step hg
  rw [em] at hg hst
  have hb := (popN_ok m hm0).1
  have hc := hle k
  have hwr : IntKind.i64.wrap ((cntK ws k : Int) + (popN m : Int)) = ((cntK ws (k + 1) : Nat) : Int) := by
    rw [hst, wrap_int _ (by omega) (by omega)]; simp
  simp only [go_sem, Int.reduceEq, Int.reduceLE, Int.reduceLT, Int.reduceToNat, ht, hg, h4, wD_eq]
  refine (ones m hm0).pv ⟨.v, trivial⟩ ?_
  simp only [go_sem, Int.reduceEq, Int.reduceLE, Int.reduceLT, Int.reduceToNat, hwr]
  refine ⟨k + 1, by omega, by omega, ?_⟩
  rw [wrap_succ k (by omega)]
  exact Mv.none (by simp)

/-- First bytes none, or some. -/
theorem nullOnly (r : Re) (hz : r.sz ≤ 1099511627776) (ho : r.nodesOk = true) : AP Try.prog 44 [.agg r.c] (.b (nulB r && decide (r.fst = noneS))) := by
  have hl := fst_len r
  refine AC.lbody hT hm Try.func44 f44_nm f44_lc f44_res f44_nt ?_
  simp only [go_sem, Int.reduceEq, Int.reduceLE, Int.reduceLT, Int.reduceToNat]
  refine (nullNull1 r hz).pv ⟨.same (by simp), trivial⟩ ?_
  cases nulB r
  · simp only [go_sem, Int.reduceEq, Int.reduceLE, Int.reduceLT, Int.reduceToNat]
    exact Fin.v (by simp)
  simp only [go_sem, Int.reduceEq, Int.reduceLE, Int.reduceLT, Int.reduceToNat]
  refine (nFirst r ho).pd ⟨.same (Re.d_bl _), trivial⟩ (.agg (W_bl _)) ?_
  have eq := intsEq_W r.fst noneS hl
  rw [show noneS.map wD = [D.v (Value.int IntKind.u64 0), D.v (Value.int IntKind.u64 0), D.v (Value.int IntKind.u64 0), D.v (Value.int IntKind.u64 0)] from rfl] at eq
  simp only [go_sem, Int.reduceEq, Int.reduceLE, Int.reduceLT, Int.reduceToNat, hl, eq]
  exact Fin.v (by simp)

theorem nullWays (r : Re) (hz : r.sz ≤ 1048576) (hw : r.wd) : AP Try.prog 13 [.agg r.c] (.b true) := by
  refine AC.lbody hT hm Try.func13 f13_nm f13_lc f13_res f13_nt ?_
  simp only [go_sem, Int.reduceEq, Int.reduceLE, Int.reduceLT, Int.reduceToNat]
  refine (great 200 r).pv ⟨.same (Re.d_bl _), .v, trivial⟩ ?_
  by_cases hg : 200 < r.cnt 200
  · simp only [go_sem, Int.reduceEq, Int.reduceLE, Int.reduceLT, Int.reduceToNat, hg]
    refine awake7.pv trivial ?_
    simp only [go_sem, Int.reduceEq, Int.reduceLE, Int.reduceLT, Int.reduceToNat]
    exact Fin.v rfl
  simp only [go_sem, Int.reduceEq, Int.reduceLE, Int.reduceLT, Int.reduceToNat, hg]
  refine (rMay r (by omega)).pv ⟨.same (Re.d_bl _), trivial⟩ ?_
  cases hm0 : mayB r
  · simp only [go_sem, Int.reduceEq, Int.reduceLE, Int.reduceLT, Int.reduceToNat, Bool.not_false]
    refine awake7.pv trivial ?_
    simp only [go_sem, Int.reduceEq, Int.reduceLE, Int.reduceLT, Int.reduceToNat]
    exact Fin.v rfl
  simp only [go_sem, Int.reduceEq, Int.reduceLE, Int.reduceLT, Int.reduceToNat, Bool.not_true]
  have ho := mayB_ok hm0
  have hn := nullNull1 r (by omega)
  have hv := nullVoid1 r (by omega)
  have hf := nullFirst r (by omega)
  have hc := setCount r.fst (fst_w r hw)
  have h0 := cntK_zero (fst_w r hw)
  have hy := nullOnly r (by omega) ho
  have l1 := void_none r ho
  have l2 := ways_some r ho hw
  have hl := fst_len r
  have ef : firB r = r.fst := by unfold firB; rw [if_pos hm0]
  have en : nulB r = r.nul := by unfold nulB; rw [hm0, Bool.true_and]
  have ev : voidB r = !r.fit := by unfold voidB; rw [hm0, Bool.true_and]
  rw [ef] at hf
  rw [ev] at hv
  rw [en] at hn hy
  generalize r.fit = p at hv l1 l2
  generalize r.nul = q at hn hy l1 l2
  generalize r.fst = w at hf hc h0 hy l1 l2 hl
  generalize cntK w 4 = n at hc h0
  refine hv.qv ⟨.same (by simp), trivial⟩ ?_
  simp only [go_sem, Int.reduceEq, Int.reduceLE, Int.reduceLT, Int.reduceToNat]
  refine hn.qv ⟨.same (by simp), trivial⟩ ?_
  simp only [go_sem, Int.reduceEq, Int.reduceLE, Int.reduceLT, Int.reduceToNat]
  refine hf.pd ⟨.same (Re.d_bl _), trivial⟩ (.agg (W_bl _)) ?_
  simp only [go_sem, Int.reduceEq, Int.reduceLE, Int.reduceLT, Int.reduceToNat, hl]
  refine hc.pv ⟨.same (by simp), trivial⟩ ?_
  simp only [go_sem, Int.reduceEq, Int.reduceLE, Int.reduceLT, Int.reduceToNat]
  cases p
  · obtain ⟨rfl, rfl⟩ := l1 rfl
    obtain rfl : n = 0 := h0.2 rfl
    have c0 : (((0 : Nat) : Int) == 0) = true := rfl
    simp only [go_sem, Int.reduceEq, Int.reduceLE, Int.reduceLT, Int.reduceToNat, Bool.not_false, Bool.not_true, c0]
    refine hy.pv ⟨.same (Re.d_bl _), trivial⟩ ?_
    simp only [go_sem, Int.reduceEq, Int.reduceLE, Int.reduceLT, Int.reduceToNat, Bool.not_false, Bool.not_true, c0, Bool.false_and, beq_self_eq_true]
    refine awake7.pv trivial ?_
    simp only [go_sem, Int.reduceEq, Int.reduceLE, Int.reduceLT, Int.reduceToNat]
    exact Fin.v rfl
  cases q
  · have hn0 : n ≠ 0 := fun h => l2 rfl rfl (h0.1 h)
    have c1 : decide ((0 : Int) < (n : Int)) = true := by simp; omega
    have c0 : ((n : Int) == 0) = false := by rw [beq_eq_false_iff_ne]; omega
    simp only [go_sem, Int.reduceEq, Int.reduceLE, Int.reduceLT, Int.reduceToNat, Bool.not_false, Bool.not_true, c0, c1]
    refine hy.pv ⟨.same (Re.d_bl _), trivial⟩ ?_
    simp only [go_sem, Int.reduceEq, Int.reduceLE, Int.reduceLT, Int.reduceToNat, Bool.not_false, Bool.not_true, c0, c1, Bool.false_and, beq_self_eq_true]
    refine awake7.pv trivial ?_
    simp only [go_sem, Int.reduceEq, Int.reduceLE, Int.reduceLT, Int.reduceToNat]
    exact Fin.v rfl
  · have c0 : ((n : Int) == 0) = decide (w = noneS) := by
      rw [Bool.eq_iff_iff]; simp only [beq_iff_eq, decide_eq_true_eq, ← h0]; omega
    simp only [go_sem, Int.reduceEq, Int.reduceLE, Int.reduceLT, Int.reduceToNat, Bool.not_false, Bool.not_true, c0, Bool.true_and] at hy ⊢
    refine hy.pv ⟨.same (Re.d_bl _), trivial⟩ ?_
    simp only [go_sem, Int.reduceEq, Int.reduceLE, Int.reduceLT, Int.reduceToNat, Bool.not_false, Bool.not_true, c0, Bool.true_and, beq_self_eq_true]
    refine awake7.pv trivial ?_
    simp only [go_sem, Int.reduceEq, Int.reduceLE, Int.reduceLT, Int.reduceToNat]
    exact Fin.v rfl
end Go.Proofs.Yteifkcgokjmcjaa.W
