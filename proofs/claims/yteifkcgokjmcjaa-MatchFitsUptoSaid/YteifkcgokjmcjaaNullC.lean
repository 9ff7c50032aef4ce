/- First bytes; the document's example; whether any expressions are nullable, or one is void, is the document's. -/
import Derived.Test.YteifkcgokjmcjaaNullB
set_option linter.unusedVariables false
set_option linter.unusedSimpArgs false
set_option linter.unusedSectionVars false
set_option maxRecDepth 100000
/- First bytes; the document's example; whether any expressions are nullable, or one is void, is the document's. -/
namespace Go.Proofs.Yteifkcgokjmcjaa.W
open Go Go.Proofs Go.Proofs.Yteifkcgokjmcjaa.AWP
attribute [local irreducible] xl hide aop aops aopQ qops guardP condP

/-- First bytes of one that may be, or none. -/
def firB (r : Re) : List Int := if mayB r then r.fst else noneS
theorem firB_len (r : Re) : (firB r).length = 4 := by
  unfold firB
  split
  · exact fst_len r
  · rfl
theorem nullFirst (r : Re) (hz : r.sz ≤ 1099511627776) : AP Try.prog 32 [.agg r.c] (Ws (firB r)) := by
  unfold firB
  have hl := fst_len r
  refine AC.lbody hT hm Try.func32 f32_nm f32_lc f32_res f32_nt ?_
  simp only [go_sem, Int.reduceEq, Int.reduceLE, Int.reduceLT, Int.reduceToNat]
  refine (may r hz).pv ⟨.eq (resB r) (by simp), trivial⟩ ?_
  cases h : mayB r
  · simp only [go_sem, Int.reduceEq, Int.reduceLE, Int.reduceLT, Int.reduceToNat, Bool.not_false]
    exact Fin.ret (Cv.same (.agg (W_bl noneS)))
  · simp only [go_sem, Int.reduceEq, Int.reduceLE, Int.reduceLT, Int.reduceToNat, Bool.not_true]
    refine (nFirst r (mayB_ok h)).pd ⟨.same (Re.d_bl _), trivial⟩ (.agg (W_bl _)) ?_
    simp only [go_sem, Int.reduceEq, Int.reduceLE, Int.reduceLT, Int.reduceToNat, hl, W_take hl, W_putE hl, W_drop0]
    exact Fin.ret (Cv.same (.agg (W_bl _)))

def rAb : Re := .mk 4 0 0 0 0 [.mk 6 0 0 0 0 [reS (ofS [97])], reS (ofS [98])]
theorem awake7 : AP Try.prog 25 [] (.b true) := by
  have e1 : (pRead ⟨#[97, 42, 98]⟩).2 = (0, 0) := by decide +kernel
  have e2 : (pRead ⟨#[97, 42, 98]⟩).1 = rAb := Re.same_eq _ _ (by decide +kernel)
  have z : rAb.sz ≤ 1099511627776 := by decide +kernel
  have ef : firB rAb = ofS [97, 98] := by decide +kernel
  have en : nulB rAb = false := by decide +kernel
  have h1 := nullFirst rAb z
  have h2 := nullNull1 rAb z
  rw [ef] at h1
  rw [en] at h2
  have h3 := setOf [97, 98] (by simp)
  have hs : byteRows [97, 98] = [[.v (.int .u8 97)], [.v (.int .u8 98)]] := rfl
  rw [show Bys [97, 98] = .sl 1 (byteRows [97, 98]) from rfl, hs] at h3
  refine AC.lbody hT hm Try.func25 f25_nm f25_lc f25_res f25_nt ?_
  simp only [go_sem, Int.reduceEq, Int.reduceLE, Int.reduceLT, Int.reduceToNat]
  refine (readN ⟨#[97, 42, 98]⟩).pd ⟨.v, trivial⟩ (wdD_bl _) ?_
  generalize pRead ⟨#[97, 42, 98]⟩ = x at e1 e2
  obtain ⟨r, p⟩ := x
  cases e1
  obtain rfl : r = rAb := e2
  have c0 : (((0 : Nat) : Int) == 0) = true := rfl
  simp only [go_sem, Int.reduceEq, Int.reduceLE, Int.reduceLT, Int.reduceToNat, c0]
  refine h1.pd ⟨.same (Re.d_bl _), trivial⟩ (.agg (W_bl _)) ?_
  simp only [go_sem, Int.reduceEq, Int.reduceLE, Int.reduceLT, Int.reduceToNat]
  refine h3.pd ⟨.same (by simp), trivial⟩ (.agg (W_bl _)) ?_
  have l4 := ofS_len [97, 98]
  have eq := intsEq_W (ofS [97, 98]) (ofS [97, 98]) rfl
  rw [decide_eq_true rfl] at eq
  simp only [go_sem, Int.reduceEq, Int.reduceLE, Int.reduceLT, Int.reduceToNat, l4, eq]
  refine h2.pv ⟨.same (by simp), trivial⟩ ?_
  simp only [go_sem, Int.reduceEq, Int.reduceLE, Int.reduceLT, Int.reduceToNat, Bool.not_false]
  exact Fin.v rfl

theorem nullIs (l : List Re) (hz : ∀ x ∈ l, x.sz ≤ 1099511627776) : AP Try.prog 8 [Res l] (.b true) := by
  refine AC.lbody hT hm Try.func8 f8_nm f8_lc f8_res f8_nt ?_
  simp only [go_sem, Int.reduceEq, Int.reduceLE, Int.reduceLT, Int.reduceToNat]
  refine (greatAll 200 l).pv (by simp) ?_
  cases hg : gAll 200 l
  case true =>
    simp only [go_sem, Int.reduceEq, Int.reduceLE, Int.reduceLT, Int.reduceToNat]
    refine awake7.pv trivial ?_
    simp only [go_sem, Int.reduceEq, Int.reduceLE, Int.reduceLT, Int.reduceToNat]
    exact Fin.v rfl
  have hl := gAll_len hg
  simp only [go_sem, Int.reduceEq, Int.reduceLE, Int.reduceLT, Int.reduceToNat]
  refine xl_loopM hT hm (fun i : Nat => ⟨f8_i9 (Res l) (.b ((l.take i).all nulB)) (.b ((l.take i).any voidB)) (.i i), []⟩)
    (fun i => i ≤ l.length) (fun i => l.length - i) 0 (Nat.zero_le _) (Mv.none (by simp [f8_i9])) ?_
  intro i hi
  simp only [go_sem, Int.reduceEq, Int.reduceLE, Int.reduceLT, Int.reduceToNat]
  by_cases h : i < l.length
  case neg =>
    have ht : l.take i = l := List.take_of_length_le (by omega)
    simp only [go_sem, Int.reduceEq, Int.reduceLE, Int.reduceLT, Int.reduceToNat, h]
    rw [ht]
    refine (nullNull l (by omega) hz).pv ⟨.same (by simp), trivial⟩ ?_
    simp only [go_sem, Int.reduceEq, Int.reduceLE, Int.reduceLT, Int.reduceToNat, beq_self_eq_true]
    refine (nullVoid l (by omega) hz).pv ⟨.same (by simp), trivial⟩ ?_
    simp only [go_sem, Int.reduceEq, Int.reduceLE, Int.reduceLT, Int.reduceToNat, beq_self_eq_true]
    refine awake7.pv trivial ?_
    simp only [go_sem, Int.reduceEq, Int.reduceLE, Int.reduceLT, Int.reduceToNat]
    exact Fin.v rfl
  obtain ⟨x, hx⟩ := get_ex h
  have hxz := hz x (List.mem_of_getElem? hx)
  have ea : (l.take (i + 1)).all nulB = ((l.take i).all nulB && nulB x) := by rw [List.take_add_one, hx]; simp
  have ev : (l.take (i + 1)).any voidB = ((l.take i).any voidB || voidB x) := by rw [List.take_add_one, hx]; simp
  generalize (l.take i).all nulB = aa at ea
  generalize (l.take i).any voidB = vv at ev
  cases aa <;> cases vv
  case false.false =>
    simp only [go_sem, Int.reduceEq, Int.reduceLE, Int.reduceLT, Int.reduceToNat, h, hx]
    refine (rVoid x hxz).pv ⟨.same (Re.d_bl _), trivial⟩ ?_
    simp only [go_sem, Int.reduceEq, Int.reduceLE, Int.reduceLT, Int.reduceToNat, h, hx]
    refine ⟨i + 1, h, by omega, ?_⟩
    rw [wrap_succ i (by omega), ea, ev]
    exact Mv.none (by simp)
  case false.true =>
    simp only [go_sem, Int.reduceEq, Int.reduceLE, Int.reduceLT, Int.reduceToNat, h, hx]
    refine ⟨i + 1, h, by omega, ?_⟩
    rw [wrap_succ i (by omega), ea, ev]
    exact Mv.none (by simp)
  case true.false =>
    simp only [go_sem, Int.reduceEq, Int.reduceLE, Int.reduceLT, Int.reduceToNat, h, hx]
    refine (rNull x hxz).pv ⟨.same (Re.d_bl _), trivial⟩ ?_
    simp only [go_sem, Int.reduceEq, Int.reduceLE, Int.reduceLT, Int.reduceToNat, h, hx]
    refine (rVoid x hxz).pv ⟨.same (Re.d_bl _), trivial⟩ ?_
    simp only [go_sem, Int.reduceEq, Int.reduceLE, Int.reduceLT, Int.reduceToNat, h, hx]
    refine ⟨i + 1, h, by omega, ?_⟩
    rw [wrap_succ i (by omega), ea, ev]
    exact Mv.none (by simp)
  case true.true =>
    simp only [go_sem, Int.reduceEq, Int.reduceLE, Int.reduceLT, Int.reduceToNat, h, hx]
    refine (rNull x hxz).pv ⟨.same (Re.d_bl _), trivial⟩ ?_
    simp only [go_sem, Int.reduceEq, Int.reduceLE, Int.reduceLT, Int.reduceToNat, h, hx]
    refine ⟨i + 1, h, by omega, ?_⟩
    rw [wrap_succ i (by omega), ea, ev]
    exact Mv.none (by simp)
end Go.Proofs.Yteifkcgokjmcjaa.W
