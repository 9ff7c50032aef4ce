/- The expressions of any texts, or the first one with an error, are the document's: the law. -/
import Derived.Test.YteifkcgokjmcjaaReadV
set_option linter.unusedVariables false
set_option linter.unusedSimpArgs false
set_option linter.unusedSectionVars false
set_option maxRecDepth 100000
/- The expressions of any texts, or the first one with an error, are the document's: the law. -/
namespace Go.Proofs.Yteifkcgokjmcjaa.W
open Go Go.Proofs Go.Proofs.Yteifkcgokjmcjaa.AWP
attribute [local irreducible] xl hide aop aops aopQ qops guardP condP

def badN (l : List ByteArray) : Nat × Nat := (firstBad l 0).getD (0, 0)
theorem badN_take {l : List ByteArray} {i : Nat} {x : ByteArray} (h : l[i]? = some x) : badN (l.take (i + 1)) = if (badN (l.take i)).2 = 0 ∧ (pRead x).2.2 ≠ 0 then (i, (pRead x).2.2) else badN (l.take i) := by
  have hlen : (l.take i).length = i := by
    have := (List.getElem?_eq_some_iff.1 h).1
    simp; omega
  unfold badN
  rw [List.take_add_one, h]
  show (firstBad (l.take i ++ [x]) 0).getD (0, 0) = _
  rw [firstBad_app]
  cases hf : firstBad (l.take i) 0 with
  | some y =>
    obtain ⟨a, b⟩ := y
    have := firstBad_nz _ _ hf
    simp [this]
  | none =>
    dsimp only
    by_cases he : (pRead x).2.2 = 0
    · simp [he]
    · rw [if_pos he, hlen, if_pos ⟨rfl, he⟩, Nat.zero_add]; rfl

set_option maxHeartbeats 1000000 in
theorem readAll (l : List ByteArray) : AP Try.prog 6 [Strs l] (.b true) := by
  refine AC.lbody hT hm Try.func6 f6_nm f6_lc f6_res f6_nt ?_
  simp only [go_sem, Int.reduceEq, Int.reduceLE, Int.reduceLT, Int.reduceToNat]
  by_cases h20 : (20 : Int) < l.length
  · simp only [go_sem, Int.reduceEq, Int.reduceLE, Int.reduceLT, Int.reduceToNat, h20, List.length_map]
    refine awake.pv trivial ?_
    simp only [go_sem, Int.reduceEq, Int.reduceLE, Int.reduceLT, Int.reduceToNat]
    exact Fin.v rfl
  have hl : l.length ≤ 20 := by omega
  simp only [go_sem, Int.reduceEq, Int.reduceLE, Int.reduceLT, Int.reduceToNat, h20, List.length_map]
  refine xl_loopM hT hm (fun i : Nat => ⟨f6_i14 (Strs l) (.own 0) (.i (badN (l.take i)).1) (.i (badN (l.take i)).2) (.i i), [lsOb (reads (l.take i))]⟩)
    (fun i => i ≤ l.length) (fun i => l.length - i) 0 (Nat.zero_le _) ?_ ?_
  · exact Mv.of [some 0] rfl ⟨.slcS rfl (Re.map_bl _), trivial⟩ (by simp [f6_i14, badN, firstBad])
  intro i hi
  simp only [go_sem, Int.reduceEq, Int.reduceLE, Int.reduceLT, Int.reduceToNat, List.length_map]
  by_cases h : i < l.length
  case pos =>
    obtain ⟨x, hx⟩ := get_ex h
    have hr := reads_take hx
    have hbp := badN_take hx
    simp only [go_sem, Int.reduceEq, Int.reduceLE, Int.reduceLT, Int.reduceToNat, h, hx, List.length_map]
    by_cases h200 : (200 : Int) < x.size
    · simp only [go_sem, Int.reduceEq, Int.reduceLE, Int.reduceLT, Int.reduceToNat, h, hx, h200]
      refine awake.pv trivial ?_
      simp only [go_sem, Int.reduceEq, Int.reduceLE, Int.reduceLT, Int.reduceToNat]
      exact Fin.v rfl
    simp only [go_sem, Int.reduceEq, Int.reduceLE, Int.reduceLT, Int.reduceToNat, h, hx, h200]
    refine (rRead x).pd ⟨.v, trivial⟩ (wdD_bl _) ?_
    generalize pRead x = y at hr hbp ⊢
    obtain ⟨r, p, e⟩ := y
    dsimp only at hr hbp
    generalize badN (l.take i) = bp at hbp ⊢
    obtain ⟨bi, be⟩ := bp
    simp only [go_sem, Int.reduceEq, Int.reduceLE, Int.reduceLT, Int.reduceToNat]
    by_cases hb : be = 0
    case neg =>
      have e1 : ((be : Int) == 0) = false := AWP.beq_false (by omega)
      rw [if_neg (fun h => hb h.1)] at hbp
      simp only [go_sem, Int.reduceEq, Int.reduceLE, Int.reduceLT, Int.reduceToNat, e1]
      refine ⟨by rw [List.length_take]; omega, i + 1, h, by omega, ?_⟩
      rw [wrap_succ i (by omega), hr, hbp]
      exact Mv.of [some 2] rfl ⟨.slcS (by simp) (Re.map_bl _), trivial⟩ (by simp [f6_i14])
    have e1 : ((be : Int) == 0) = true := by simp [hb]
    by_cases he : e = 0
    · have e2 : ((e : Int) != 0) = false := by simp [he]
      rw [if_neg (fun h => h.2 he)] at hbp
      simp only [go_sem, Int.reduceEq, Int.reduceLE, Int.reduceLT, Int.reduceToNat, e1, e2]
      refine ⟨by rw [List.length_take]; omega, i + 1, h, by omega, ?_⟩
      rw [wrap_succ i (by omega), hr, hbp]
      exact Mv.of [some 2] rfl ⟨.slcS (by simp) (Re.map_bl _), trivial⟩ (by simp [f6_i14])
    have e2 : ((e : Int) != 0) = true := bne_true (by omega)
    rw [if_pos ⟨hb, he⟩] at hbp
    simp only [go_sem, Int.reduceEq, Int.reduceLE, Int.reduceLT, Int.reduceToNat, e1, e2]
    refine ⟨by rw [List.length_take]; omega, i + 1, h, by omega, ?_⟩
    rw [wrap_succ i (by omega), hr, hbp]
    exact Mv.of [some 2] rfl ⟨.slcS (by simp) (Re.map_bl _), trivial⟩ (by simp [f6_i14])
  have ht : l.take i = l := List.take_of_length_le (by omega)
  rw [ht]
  have hbl : Bl 0 (.tup [Res (pAll l).1, .i (pAll l).2.1, .i (pAll l).2.2]) := by
    refine .tup ?_
    simp
  have hfa := firstBad_all l 0
  have hfm := form l (by omega)
  have hal := allN l hl
  unfold pAll at hal hbl
  unfold badN
  cases hf : firstBad l 0 with
  | some y =>
    obtain ⟨i0, e0⟩ := y
    have hnz := firstBad_nz _ _ hf
    rw [hf] at hfa hal hbl
    rw [hfa] at hfm
    dsimp only at hal hbl
    have e1 : ((e0 : Int) != 0) = true := bne_true (by omega)
    have e2 : ((e0 : Int) == 0) = false := AWP.beq_false (by omega)
    simp only [go_sem, Int.reduceEq, Int.reduceLE, Int.reduceLT, Int.reduceToNat, h, List.length_map]
    refine hal.pd ⟨.same (by simp), trivial⟩ hbl ?_
    simp only [go_sem, Int.reduceEq, Int.reduceLE, Int.reduceLT, Int.reduceToNat, bne_self_eq_false, Option.getD_some]
    refine hfm.pv ⟨.same (by simp), trivial⟩ ?_
    simp only [go_sem, Int.reduceEq, Int.reduceLE, Int.reduceLT, Int.reduceToNat, e1, e2, Option.isNone_some, bne_self_eq_false, Option.getD_some]
    have z2 : (((0 : Nat) : Int) == 0) = true := rfl
    simp only [go_sem, Int.reduceEq, Int.reduceLE, Int.reduceLT, Int.reduceToNat, z2]
    refine awake.pv trivial ?_
    simp only [go_sem, Int.reduceEq, Int.reduceLE, Int.reduceLT, Int.reduceToNat]
    exact Fin.v rfl
  | none =>
    rw [hf] at hfa hal hbl
    rw [hfa] at hfm
    dsimp only at hal hbl
    simp only [go_sem, Int.reduceEq, Int.reduceLE, Int.reduceLT, Int.reduceToNat, h, List.length_map]
    refine hal.pd ⟨.same (by simp), trivial⟩ hbl ?_
    simp only [go_sem, Int.reduceEq, Int.reduceLE, Int.reduceLT, Int.reduceToNat, bne_self_eq_false, Option.getD_none]
    refine hfm.pv ⟨.same (by simp), trivial⟩ ?_
    have z1 : (((0 : Nat) : Int) != 0) = false := rfl
    have z2 : (((0 : Nat) : Int) == 0) = true := rfl
    simp only [go_sem, Int.reduceEq, Int.reduceLE, Int.reduceLT, Int.reduceToNat, Option.isNone_none, z1, z2, bne_self_eq_false, List.length_map]
    refine xl_loopM hT hm (fun i : Nat => ⟨f6_i27 (.own 0) (Res (reads l)) (.i i), [lsOb (reads l)]⟩)
      (fun i => i ≤ l.length) (fun i => l.length - i) 0 (Nat.zero_le _) ?_ ?_
    · exact Mv.of [some 0] rfl ⟨.slcS rfl (Re.map_bl _), trivial⟩ (by simp [f6_i27])
    intro i hi
    simp only [go_sem, Int.reduceEq, Int.reduceLE, Int.reduceLT, Int.reduceToNat, List.length_map]
    by_cases h : i < l.length
    case neg =>
      simp only [go_sem, Int.reduceEq, Int.reduceLE, Int.reduceLT, Int.reduceToNat, h]
      refine awake.pv trivial ?_
      simp only [go_sem, Int.reduceEq, Int.reduceLE, Int.reduceLT, Int.reduceToNat]
      exact Fin.v rfl
    obtain ⟨x, hx⟩ := get_ex (l := reads l) (show i < (reads l).length by simpa using h)
    simp only [go_sem, Int.reduceEq, Int.reduceLE, Int.reduceLT, Int.reduceToNat, h, hx, List.length_map]
    refine (same x x).pv ⟨.same (Re.d_bl _), .same (Re.d_bl _), trivial⟩ ?_
    simp only [go_sem, Int.reduceEq, Int.reduceLE, Int.reduceLT, Int.reduceToNat, same_self]
    refine ⟨i + 1, h, by omega, ?_⟩
    rw [wrap_succ i (by omega)]
    exact Mv.of [some 0] rfl ⟨.slcS rfl (Re.map_bl _), trivial⟩ (by simp [f6_i27])
end Go.Proofs.Yteifkcgokjmcjaa.W
