/- The document's sorting; the first one in order. -/
import Derived.Test.YtbpkppidbdhopaaOrderI
set_option linter.unusedSectionVars false
set_option linter.unusedVariables false
set_option linter.unusedSimpArgs false
set_option maxRecDepth 100000
/- The document's sorting; the first one in order. -/
namespace Go.Proofs.Ytbpkppidbdhopaa.W
open Go Go.Proofs Go.Proofs.Ytbpkppidbdhopaa.AWP

theorem first (l : List Re) (hl : l.length ≤ 1000) : AP Try.prog 16 [Res l] (.tup [.i (firstR l l.length), .b (decide (0 < l.length))]) := by
  refine AC.lbody hT hm Try.func16 f16_nm f16_lc f16_res f16_nt ?_
  simp only [go_sem]
  by_cases h0 : (l.length : Int) = 0
  case pos =>
    have e : l = [] := List.eq_nil_of_length_eq_zero (by omega)
    simp only [go_sem, h0]
    refine Fin.ret (.tupL ⟨.eq ?_ Bl_v, .eq ?_ Bl_v, trivial⟩)
    · rw [e]; rfl
    · rw [e]; rfl
  simp only [go_sem, beq_false h0]
  have hne : l ≠ [] := by intro e; subst e; exact h0 rfl
  refine xl_loopM hT hm (fun i : Nat => ⟨f16_i10 (Res l) (.i (firstR l i)) (Res l) (.i l.length) (.i i), []⟩)
    (fun i => i ≤ l.length) (fun i => l.length - i) 0 (Nat.zero_le _) (Mv.none (by simp [f16_i10, firstR])) ?_
  intro i hi
  simp only [go_sem]
  by_cases h : i < l.length
  case neg =>
    simp only [go_sem, h]
    refine Fin.ret (.tupL ⟨.eq ?_ Bl_v, .eq ?_ Bl_v, trivial⟩)
    · rw [show i = l.length by omega]
    · rw [decide_eq_true (by omega)]
  obtain ⟨x, hx⟩ := get_ex h
  obtain ⟨y, hy⟩ := get_ex (l := l) (firstR_lt hne i hi)
  simp only [go_sem, h, hx, hy]
  refine (two x y).pv (by simp) ?_
  simp only [go_sem]
  have e : firstR l (i + 1) = if x.cmp y < 0 then i else firstR l i := by rw [firstR, hx, hy]
  by_cases hc : x.cmp y < 0
  · simp only [go_sem, hc]
    refine ⟨i + 1, h, by omega, ?_⟩
    rw [wrap_succ i (by omega), e, if_pos hc]
    exact Mv.none (by simp)
  · simp only [go_sem, hc]
    refine ⟨i + 1, h, by omega, ?_⟩
    rw [wrap_succ i (by omega), e, if_neg hc]
    exact Mv.none (by simp)

theorem mv2 {a b : List Re} {k j : Nat} {om : List Ob} {F : Nat → Bool} (h : om[k]? = some (reOb a)) (h' : om[j]? = some (reOb b)) : MvL om F [some k, some j] [some k, some j] [reOb a, reOb b] := ⟨.slcS h (Re.map_bl _), .slcS h' (Re.map_bl _), trivial⟩

theorem rSort (l : List Re) (hl : l.length ≤ 1000) : AP Try.prog 17 [Res l] (Res (sortR l)) := by
  refine AC.lbody hT hm Try.func17 f17_nm f17_lc f17_res f17_nt ?_
  simp only [go_sem]
  refine xl_loopM hT hm (fun i : Nat => ⟨f17_i20 (Res l) (.own 0) (.i l.length) (.i i), [reOb (sortR (l.take i))]⟩)
    (fun i => i ≤ l.length) (fun i => l.length - i) 0 (Nat.zero_le _) (Mv.of [some 0] rfl (mv1 rfl) (by simp [f17_i20])) ?_
  intro i hi
  simp only [go_sem]
  by_cases h : i < l.length
  case neg =>
    simp only [go_sem, h]
    rw [List.take_of_length_le (by omega)]
    exact Fin.ret (frzR rfl)
  obtain ⟨x, hx⟩ := get_ex h
  have hSl : (sortR (l.take i)).length = i := by rw [sortR_len]; simp; omega
  have e : sortR (l.take (i + 1)) = insR x (sortR (l.take i)) := sortR_take hx
  generalize sortR (l.take i) = S at hSl e
  simp only [go_sem, h]
  refine xl_loopM hT hm (fun k : Nat => ⟨f17_i15 (Res l) (.own 0) (.i i) (.own 1) (.b (putR x (S.take k)).1) (.i l.length) (.i i) (.i S.length) (.i k), [reOb S, reOb (putR x (S.take k)).2]⟩)
    (fun k => k ≤ S.length) (fun k => S.length - k) 0 (Nat.zero_le _) (Mv.of [some 0, some 1] rfl (mv2 rfl rfl) (by simp [f17_i15, putR])) ?_
  intro k hk
  have hN := putR_len x (S.take k)
  have hmin := List.length_take_le k S
  by_cases hkl : k < S.length
  case neg =>
    have ek : S.take k = S := List.take_of_length_le (by omega)
    have e2 := putR_end x S
    rw [ek] at hN ⊢
    generalize putR x S = p at hN e2 ⊢
    obtain ⟨d, N⟩ := p
    simp only at hN e2
    simp only [go_sem, hkl]
    cases d with
    | true =>
      simp only [go_sem]
      refine ⟨i + 1, h, by omega, ?_⟩
      rw [wrap_succ i (by omega), e, ← e2]
      exact Mv.of [some 1] rfl (mv1 rfl) (by simp)
    | false =>
      simp only [go_sem, hx]
      refine ⟨by omega, i + 1, h, by omega, ?_⟩
      rw [wrap_succ i (by omega), e, ← e2]
      exact Mv.of [some 2] rfl (mv1 (by simp)) (by simp)
  obtain ⟨y, hy⟩ := get_ex hkl
  have e2 := putR_take (x := x) hy
  generalize putR x (S.take k) = p at hN e2 ⊢
  obtain ⟨d, N⟩ := p
  simp only at hN e2
  simp only [go_sem, hkl]
  cases d with
  | true =>
    simp only [go_sem, hy]
    refine ⟨by omega, k + 1, hkl, by omega, ?_⟩
    rw [wrap_succ k (by omega), e2]
    exact Mv.of [some 0, some 2] rfl (mv2 rfl (by simp)) (by simp)
  | false =>
    simp only [go_sem, hx, hy]
    refine (rtwo x y).pv (by simp) ?_
    simp only [go_sem]
    by_cases hc : x.cmp y < 0
    · simp only [go_sem, hc, hx, hy]
      refine ⟨by omega, by omega, k + 1, hkl, by omega, ?_⟩
      rw [wrap_succ k (by omega), e2]
      exact Mv.of [some 0, some 3] rfl (mv2 rfl (by simp [hc])) (by simp [hc])
    · simp only [go_sem, hc, hx, hy]
      refine ⟨by omega, k + 1, hkl, by omega, ?_⟩
      rw [wrap_succ k (by omega), e2]
      exact Mv.of [some 0, some 2] rfl (mv2 rfl (by simp [hc])) (by simp [hc])
end Go.Proofs.Ytbpkppidbdhopaa.W
