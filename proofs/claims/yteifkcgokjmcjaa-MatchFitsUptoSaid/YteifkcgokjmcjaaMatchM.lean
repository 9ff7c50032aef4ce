/- Whether an expression fits texts: the program's and the document's. -/
import Derived.Test.YteifkcgokjmcjaaMatchL
set_option linter.unusedVariables false
set_option linter.unusedSimpArgs false
set_option linter.unusedSectionVars false
set_option maxRecDepth 100000
/- Whether an expression fits texts: the program's and the document's. -/
namespace Go.Proofs.Yteifkcgokjmcjaa.W
open Go Go.Proofs Go.Proofs.Yteifkcgokjmcjaa.AWP
attribute [local irreducible] xl hide aop aops aopQ qops guardP condP

theorem posA_of : ∀ (l : List Bool) (i j : Nat), On l j → i + j ∈ posA l i
  | [], i, j, h => by simp [On] at h
  | b :: l, i, 0, h => by
    have : b = true := by simpa [On] using h
    subst this
    simp [posA]
  | b :: l, i, j + 1, h => by
    rw [posA, List.mem_append]
    right
    have := posA_of l (i + 1) j (by simpa [On] using h)
    rw [show i + (j + 1) = i + 1 + j from by omega]
    exact this
/-- Does it fit the whole text? -/
noncomputable def fitB (r : Re) (s : ByteArray) : Bool := (endsB r s 0).getD s.size false
theorem fitB_get (r : Re) (s : ByteArray) : (endsB r s 0)[s.size]? = some (fitB r s) := by
  have hl := endsB_len r s 0
  have : s.size < (endsB r s 0).length := by omega
  unfold fitB
  rw [List.getD_eq_getElem?_getD, List.getElem?_eq_getElem this]
  rfl
theorem fitB_mem (r : Re) (s : ByteArray) : s.size ∈ endsI r s 0 ↔ fitB r s = true := by
  have hg := fitB_get r s
  rw [← endsB_pos]
  constructor
  · intro h
    have := (posA_mem _ _ _ h).2
    rw [Nat.sub_zero] at this
    unfold On at this
    rw [hg] at this
    simpa using this
  · intro h
    rw [h] at hg
    have := posA_of _ 0 _ hg
    rwa [Nat.zero_add] at this
theorem fitB_iff (r : Re) (s : ByteArray) : fitB r s = true ↔ mayB r = true ∧ r.mt s 0 s.size := by
  have hg := fitB_get r s
  have : fitB r s = true ↔ On (endsB r s 0) s.size := by
    unfold On
    rw [hg]; simp
  rw [this]
  unfold endsB
  by_cases hm : mayB r = true
  · rw [if_pos ⟨hm, by omega, by omega⟩, Int.toNat_zero, on_ends (Nat.zero_le _)]
    simp [hm]
  · rw [if_neg (fun h => hm h.1)]
    simp only [hm, false_and, iff_false]
    unfold On
    rw [List.getElem?_replicate_of_lt (by omega)]
    simp
theorem rFits (r : Re) (hz : r.sz ≤ 1099511627776) (hw : r.wd) (s : ByteArray) (hs : s.size ≤ 1000) : AP Try.prog 38 [.agg r.c, .s s] (.b (fitB r s)) := by
  have c1 := rEndsB r hz hw s hs 0
  have hg := bls_get (fitB_get r s)
  refine AC.lbody hT hm Try.func38 f38_nm f38_lc f38_res f38_nt ?_
  simp only [go_sem, Int.reduceEq, Int.reduceLE, Int.reduceLT, Int.reduceToNat]
  refine c1.pd ⟨.same (Re.d_bl _), .v, .v, trivial⟩ (Bls_bl _) ?_
  simp only [go_sem, Int.reduceEq, Int.reduceLE, Int.reduceLT, Int.reduceToNat, hg]
  exact Fin.v rfl

theorem idxN (l : List Nat) (hl : l.length ≤ 1000000) (n : Nat) : AP Try.prog 92 [Its l, .i n] (.i (idxI (fun x => decide (x = n)) l)) := by
  have hq : ∀ om (ks : List (Option Nat)), Cv om (fun _ => true) ks (Its l) (Its l) := fun om ks => .same (Its_bl l)
  refine AC.lbody hT hm Try.func92 f92_nm f92_lc f92_res f92_nt ?_
  simp only [go_sem, Int.reduceEq, Int.reduceLE, Int.reduceLT, Int.reduceToNat, List.length_map]
  refine xl_loopM hT hm (fun i : Nat => ⟨f92_i7 (Its l) (.i n) (.i l.length) (.i i), []⟩)
    (fun i => i ≤ l.length ∧ ∀ j x, j < i → l[j]? = some x → x ≠ n) (fun i => l.length - i) 0 ⟨Nat.zero_le _, fun j x h => absurd h (Nat.not_lt_zero _)⟩ (Mv.none (by simp [f92_i7, hq])) ?_
  rintro i ⟨hi, hn⟩
  simp only [go_sem, Int.reduceEq, Int.reduceLE, Int.reduceLT, Int.reduceToNat, List.length_map]
  by_cases h : i < l.length
  case neg =>
    simp only [go_sem, Int.reduceEq, Int.reduceLE, Int.reduceLT, Int.reduceToNat, h]
    refine Fin.v ?_
    have : l.findIdx? (fun x => decide (x = n)) = none := by
      rw [List.findIdx?_eq_none_iff]
      intro x hx
      obtain ⟨j, hj⟩ := List.getElem?_of_mem hx
      exact decide_eq_false (hn j x (by have := (List.getElem?_eq_some_iff.1 hj).1; omega) hj)
    unfold idxI
    rw [this]
  obtain ⟨x, hx⟩ := get_ex h
  have hg := its_get hx
  by_cases hp : x = n
  · subst hp
    simp only [go_sem, Int.reduceEq, Int.reduceLE, Int.reduceLT, Int.reduceToNat, h, hg, beq_self_eq_true]
    refine Fin.v ?_
    have : l.findIdx? (fun y => decide (y = x)) = some i := by
      rw [List.findIdx?_eq_some_iff_getElem]
      obtain ⟨hlt, hxe⟩ := List.getElem?_eq_some_iff.1 hx
      refine ⟨hlt, by rw [hxe]; simp, fun j hji => ?_⟩
      have := hn j l[j] hji (List.getElem?_eq_getElem (by omega))
      simp [this]
    unfold idxI
    rw [this]
  · have hb : ((n : Int) == (x : Int)) = false := by rw [beq_eq_false_iff_ne]; omega
    simp only [go_sem, Int.reduceEq, Int.reduceLE, Int.reduceLT, Int.reduceToNat, h, hg, hb]
    rw [wrap_succ i (by omega)]
    refine ⟨i + 1, ⟨h, fun j y hj hy => ?_⟩, by omega, Mv.none (by simp [hq])⟩
    by_cases e : j = i
    · subst e; rw [hx] at hy; cases hy; exact hp
    · exact hn j y (by omega) hy
theorem conN (l : List Nat) (hl : l.length ≤ 1000000) (n : Nat) : AP Try.prog 82 [Its l, .i n] (.b (l.any fun x => decide (x = n))) := by
  refine AC.lbody hT hm Try.func82 f82_nm f82_lc f82_res f82_nt ?_
  simp only [go_sem, Int.reduceEq, Int.reduceLE, Int.reduceLT, Int.reduceToNat]
  refine (idxN l hl n).pv ⟨.same (Its_bl l), .v, trivial⟩ ?_
  simp only [go_sem, Int.reduceEq, Int.reduceLE, Int.reduceLT, Int.reduceToNat]
  exact Fin.v (by rw [idxI_nn])
theorem mFits1 (r : Re) (hz : r.sz ≤ 1099511627776) (hw : r.wd) (s : ByteArray) (hs : s.size ≤ 1000) : AP Try.prog 65 [.agg r.c, .s s] (.b (fitB r s)) := by
  have c1 := mEndsI r hz hw s hs 0
  have hl := endsI_len r s 0
  have c2 := conN (endsI r s 0) (by omega) s.size
  have e : ((endsI r s 0).any fun x => decide (x = s.size)) = fitB r s := by
    rw [Bool.eq_iff_iff, ← fitB_mem, List.any_eq_true]
    constructor
    · rintro ⟨x, h1, h2⟩; rw [← of_decide_eq_true h2]; exact h1
    · intro h; exact ⟨_, h, by simp⟩
  rw [e] at c2
  generalize endsI r s 0 = l at c1 c2
  refine AC.lbody hT hm Try.func65 f65_nm f65_lc f65_res f65_nt ?_
  simp only [go_sem, Int.reduceEq, Int.reduceLE, Int.reduceLT, Int.reduceToNat]
  refine c1.pd ⟨.same (Re.d_bl _), .v, .v, trivial⟩ (Its_bl _) ?_
  simp only [go_sem, Int.reduceEq, Int.reduceLE, Int.reduceLT, Int.reduceToNat]
  refine c2.pv ⟨.same (Its_bl _), .v, trivial⟩ ?_
  simp only [go_sem, Int.reduceEq, Int.reduceLE, Int.reduceLT, Int.reduceToNat]
  exact Fin.v rfl
theorem fits_1 (r : Re) (hz : r.sz ≤ 1099511627776) (hw : r.wd) (s : ByteArray) (hs : s.size ≤ 1000) : AP Try.prog 64 [.s s, .pel r.c] (.b (!fitB r s)) := by
  refine AC.lbody hT hm Try.func64 f64_nm f64_lc f64_res f64_nt ?_
  simp only [go_sem, Int.reduceEq, Int.reduceLE, Int.reduceLT, Int.reduceToNat]
  refine (mFits1 r hz hw s hs).pv ⟨.same (Re.d_bl _), .v, trivial⟩ ?_
  simp only [go_sem, Int.reduceEq, Int.reduceLE, Int.reduceLT, Int.reduceToNat]
  exact Fin.v rfl
end Go.Proofs.Yteifkcgokjmcjaa.W
