/- How long the longest text is; the ends of any expression in any text are the document's. -/
import Derived.Test.YteifkcgokjmcjaaMatchK
set_option linter.unusedVariables false
set_option linter.unusedSimpArgs false
set_option linter.unusedSectionVars false
set_option maxRecDepth 100000
/- How long the longest text is; the ends of any expression in any text are the document's. -/
namespace Go.Proofs.Yteifkcgokjmcjaa.W
open Go Go.Proofs Go.Proofs.Yteifkcgokjmcjaa.AWP
attribute [local irreducible] xl hide aop aops aopQ qops guardP condP

theorem posA_mem : ∀ (l : List Bool) (i j : Nat), j ∈ posA l i → i ≤ j ∧ On l (j - i)
  | [], i, j, h => by simp [posA] at h
  | b :: l, i, j, h => by
    rw [posA, List.mem_append] at h
    rcases h with h | h
    · cases b
      · simp at h
      · simp at h
        subst h
        exact ⟨Nat.le_refl _, by rw [Nat.sub_self]; rfl⟩
    · obtain ⟨h1, h2⟩ := posA_mem l (i + 1) j h
      refine ⟨by omega, ?_⟩
      rw [show j - i = (j - (i + 1)) + 1 from by omega]
      exact h2
/-- The ends lie behind the place. -/
theorem endsI_mem {r : Re} {s : ByteArray} {k : Int} {n : Nat} (h : n ∈ endsI r s k) : 0 ≤ k ∧ k ≤ n ∧ n ≤ s.size := by
  unfold endsI at h
  split at h
  · rename_i hc
    obtain ⟨h1, h2, h3⟩ := hc
    obtain ⟨_, h⟩ := posA_mem _ _ _ h
    rw [Nat.sub_zero] at h
    obtain ⟨h4, h5⟩ := (on_ends (by omega)).1 h
    have := (mt_le r (mayB_ok h1) _ _ h5).1
    omega
  · cases h
def longI (l : List Nat) (k : Int) : Int × Bool := match l.getLast? with
  | none => (0, false)
  | some n => if (n : Int) = k then (0, false) else ((n : Int) - k, true)
theorem last_get {l : List Nat} {n : Nat} (h : l.getLast? = some n) : 0 < l.length ∧ l[l.length - 1]? = some n := by
  rw [List.getLast?_eq_getElem?] at h
  exact ⟨by have := (List.getElem?_eq_some_iff.1 h).1; omega, h⟩
theorem endsI_len (r : Re) (s : ByteArray) (k : Int) : (endsI r s k).length ≤ s.size + 1 := by
  unfold endsI
  split
  · have := posA_len (endsG r s k.toNat) 0
    rw [endsG_len] at this
    exact this
  · exact Nat.zero_le _

theorem tupIB (n : Int) (b : Bool) : Bl 0 (.tup [.i n, .b b]) := .tup (by simp)
theorem mLong (r : Re) (hz : r.sz ≤ 1099511627776) (hw : r.wd) (s : ByteArray) (hs : s.size ≤ 1000) (k : Int) : AP Try.prog 34 [.agg r.c, .s s, .i k] (.tup [.i (longI (endsI r s k) k).1, .b (longI (endsI r s k) k).2]) := by
  have c1 := mEndsI r hz hw s hs k
  have hmem := fun n h => endsI_mem (r := r) (s := s) (k := k) (n := n) h
  have hl := endsI_len r s k
  generalize endsI r s k = l at c1 hmem hl ⊢
  unfold longI
  refine AC.lbody hT hm Try.func34 f34_nm f34_lc f34_res f34_nt ?_
  simp only [go_sem, Int.reduceEq, Int.reduceLE, Int.reduceLT, Int.reduceToNat]
  refine c1.pd ⟨.same (Re.d_bl _), .v, .v, trivial⟩ (Its_bl _) ?_
  simp only [go_sem, Int.reduceEq, Int.reduceLE, Int.reduceLT, Int.reduceToNat, List.length_map]
  cases hla : l.getLast? with
  | none =>
    rw [List.getLast?_eq_none_iff] at hla
    subst hla
    simp only [go_sem, Int.reduceEq, Int.reduceLE, Int.reduceLT, Int.reduceToNat, List.length_nil, Int.natCast_zero, beq_self_eq_true]
    exact Fin.ret (.same (tupIB _ _))
  | some n =>
    obtain ⟨h0, hg⟩ := last_get hla
    have hgi := its_get hg
    have hn := hmem n (List.mem_of_getElem? hg)
    have b0 : ((l.length : Int) == 0) = false := by rw [beq_eq_false_iff_ne]; omega
    have hw1 : IntKind.i64.wrap ((l.length : Int) - 1) = ((l.length - 1 : Nat) : Int) := by rw [wrap_int _ (by omega) (by omega)]; omega
    have hw2 : IntKind.i64.wrap ((n : Int) - k) = (n : Int) - k := wrap_int _ (by omega) (by omega)
    have b1 : ((n : Int) == k) = decide ((n : Int) = k) := rfl
    by_cases he : (n : Int) = k
    · simp only [go_sem, Int.reduceEq, Int.reduceLE, Int.reduceLT, Int.reduceToNat, b0, hw1, hw2, hg, hgi, b1, he]
      exact Fin.ret (.same (tupIB _ _))
    · simp only [go_sem, Int.reduceEq, Int.reduceLE, Int.reduceLT, Int.reduceToNat, b0, hw1, hw2, hg, hgi, b1, he]
      exact Fin.ret (.same (tupIB _ _))
theorem rLong (r : Re) (hz : r.sz ≤ 1099511627776) (hw : r.wd) (s : ByteArray) (hs : s.size ≤ 1000) (k : Int) : AP Try.prog 35 [.agg r.c, .s s, .i k] (.tup [.i (longI (endsI r s k) k).1, .b (longI (endsI r s k) k).2]) := by
  have c1 := rEndsI r hz hw s hs k
  have hmem := fun n h => endsI_mem (r := r) (s := s) (k := k) (n := n) h
  have hl := endsI_len r s k
  generalize endsI r s k = l at c1 hmem hl ⊢
  unfold longI
  refine AC.lbody hT hm Try.func35 f35_nm f35_lc f35_res f35_nt ?_
  simp only [go_sem, Int.reduceEq, Int.reduceLE, Int.reduceLT, Int.reduceToNat]
  refine c1.pd ⟨.same (Re.d_bl _), .v, .v, trivial⟩ (Its_bl _) ?_
  simp only [go_sem, Int.reduceEq, Int.reduceLE, Int.reduceLT, Int.reduceToNat, List.length_map]
  cases hla : l.getLast? with
  | none =>
    rw [List.getLast?_eq_none_iff] at hla
    subst hla
    simp only [go_sem, Int.reduceEq, Int.reduceLE, Int.reduceLT, Int.reduceToNat, List.length_nil, Int.natCast_zero, beq_self_eq_true]
    exact Fin.ret (.same (tupIB _ _))
  | some n =>
    obtain ⟨h0, hg⟩ := last_get hla
    have hgi := its_get hg
    have hn := hmem n (List.mem_of_getElem? hg)
    have b0 : ((l.length : Int) == 0) = false := by rw [beq_eq_false_iff_ne]; omega
    have hw1 : IntKind.i64.wrap ((l.length : Int) - 1) = ((l.length - 1 : Nat) : Int) := by rw [wrap_int _ (by omega) (by omega)]; omega
    have hw2 : IntKind.i64.wrap ((n : Int) - k) = (n : Int) - k := wrap_int _ (by omega) (by omega)
    have e : (if (n : Int) = k then ((0 : Int), false) else ((n : Int) - k, true)) = ((n : Int) - k, decide (0 < (n : Int) - k)) := by
      split
      · rename_i h; rw [h, Int.sub_self]; rfl
      · rename_i h; rw [decide_eq_true (by omega)]
    simp only [go_sem, Int.reduceEq, Int.reduceLE, Int.reduceLT, Int.reduceToNat, b0, hw1, hw2, hg, hgi]
    refine Fin.ret ?_
    rw [e]
    exact .same (tupIB _ _)

theorem matchEnds (r : Re) (hz : r.sz ≤ 1048576) (hw : r.wd) (s : ByteArray) (k : Int) : AP Try.prog 10 [.agg r.c, .s s, .i k] (.b true) := by
  refine AC.lbody hT hm Try.func10 f10_nm f10_lc f10_res f10_nt ?_
  simp only [go_sem, Int.reduceEq, Int.reduceLE, Int.reduceLT, Int.reduceToNat]
  refine (great 60 r).pv ⟨.same (Re.d_bl _), .v, trivial⟩ ?_
  by_cases hg : 60 < r.cnt 60
  · simp only [go_sem, Int.reduceEq, Int.reduceLE, Int.reduceLT, Int.reduceToNat, hg]
    refine awake10.pv trivial ?_
    simp only [go_sem, Int.reduceEq, Int.reduceLE, Int.reduceLT, Int.reduceToNat]
    exact Fin.v rfl
  simp only [go_sem, Int.reduceEq, Int.reduceLE, Int.reduceLT, Int.reduceToNat, hg]
  by_cases hs : (20 : Int) < s.size
  · simp only [go_sem, Int.reduceEq, Int.reduceLE, Int.reduceLT, Int.reduceToNat, hs]
    refine awake10.pv trivial ?_
    simp only [go_sem, Int.reduceEq, Int.reduceLE, Int.reduceLT, Int.reduceToNat]
    exact Fin.v rfl
  have c1 := mLong r (by omega) hw s (by omega) k
  have c2 := rLong r (by omega) hw s (by omega) k
  have c3 := mEndsI r (by omega) hw s (by omega) k
  have c4 := rEndsI r (by omega) hw s (by omega) k
  have hl := endsI_len r s k
  have c5 := ints (endsI r s k) (by omega)
  generalize endsI r s k = l at c1 c2 c3 c4 c5
  generalize longI l k = x at c1 c2
  obtain ⟨n, b⟩ := x
  simp only [go_sem, Int.reduceEq, Int.reduceLE, Int.reduceLT, Int.reduceToNat, hs]
  refine c1.pd ⟨.same (Re.d_bl _), .v, .v, trivial⟩ (tupIB _ _) ?_
  simp only [go_sem, Int.reduceEq, Int.reduceLE, Int.reduceLT, Int.reduceToNat]
  refine c2.pd ⟨.same (Re.d_bl _), .v, .v, trivial⟩ (tupIB _ _) ?_
  simp only [go_sem, Int.reduceEq, Int.reduceLE, Int.reduceLT, Int.reduceToNat]
  refine c3.qd ⟨.same (Re.d_bl _), .v, .v, trivial⟩ (Its_bl _) ?_
  simp only [go_sem, Int.reduceEq, Int.reduceLE, Int.reduceLT, Int.reduceToNat]
  refine c4.qd ⟨.same (Re.d_bl _), .v, .v, trivial⟩ (Its_bl _) ?_
  simp only [go_sem, Int.reduceEq, Int.reduceLE, Int.reduceLT, Int.reduceToNat]
  refine c5.qv ⟨.same (Its_bl _), .same (Its_bl _), trivial⟩ ?_
  simp only [go_sem, Int.reduceEq, Int.reduceLE, Int.reduceLT, Int.reduceToNat, beq_self_eq_true]
  refine awake10.pv trivial ?_
  simp only [go_sem, Int.reduceEq, Int.reduceLE, Int.reduceLT, Int.reduceToNat]
  exact Fin.v rfl
end Go.Proofs.Yteifkcgokjmcjaa.W
