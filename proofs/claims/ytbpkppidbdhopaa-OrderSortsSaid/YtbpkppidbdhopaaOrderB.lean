/- Part of a program logic over data: rules of the walk, each proved. -/
import Derived.Test.YtbpkppidbdhopaaOrderA
set_option linter.unusedSectionVars false
set_option linter.unusedVariables false
set_option linter.unusedSimpArgs false
set_option maxRecDepth 100000
namespace Go.Proofs.Ytbpkppidbdhopaa.W
open Go Go.Proofs Go.Proofs.Ytbpkppidbdhopaa.AWP

theorem isNaN_u64 (x : Int) : AP Try.prog 39 [.v (.int .u64 x)] (.b false) := by
  refine AC.lbody hT hm Try.func39 f39_nm f39_lc f39_res f39_nt ?_
  simp only [go_sem]
  exact Fin.v rfl

theorem cmp_u64 (x y : Int) : AP Try.prog 34 [.v (.int .u64 x), .v (.int .u64 y)] (.i (cmpI x y)) := by
  refine AC.lbody hT hm Try.func34 f34_nm f34_lc f34_res f34_nt ?_
  simp only [go_sem]
  refine (isNaN_u64 x).pv ⟨.v, trivial⟩ ?_
  simp only [go_sem]
  refine (isNaN_u64 y).pv ⟨.v, trivial⟩ ?_
  simp only [go_sem, cmpI]
  by_cases h1 : x < y
  · simp only [go_sem, h1]
    exact Fin.v rfl
  · by_cases h2 : y < x
    · simp only [go_sem, h1, h2]
      exact Fin.v rfl
    · simp only [go_sem, h1, h2]
      exact Fin.v rfl

theorem cf_u64 (xs ys : List Int) (hx : xs.length < 1000) : AP Try.prog 33 [.sl 1 (xs.map fun x => [.v (.int .u64 x)]), .sl 1 (ys.map fun x => [.v (.int .u64 x)]), .fn 34 []] (.i (cmpsI xs ys)) := by
  refine AC.lbody hT hm Try.func33 f33_nm f33_lc f33_res f33_nt ?_
  simp only [go_sem]
  refine xl_loopM hT hm (fun i : Nat => ⟨f33_i11 (.sl 1 (xs.map fun x => [.v (.int .u64 x)])) (.sl 1 (ys.map fun x => [.v (.int .u64 x)])) (.fn 34 []) (.sl 1 (xs.map fun x => [.v (.int .u64 x)])) (.i xs.length) (.i i), []⟩)
    (fun i : Nat => i ≤ xs.length ∧ i ≤ ys.length ∧ cmpsI xs ys = cmpsI (xs.drop i) (ys.drop i)) (fun i => xs.length - i) 0 ⟨Nat.zero_le _, Nat.zero_le _, rfl⟩ (Mv.none (by simp [f33_i11])) ?_
  rintro i ⟨h1, h2, h3⟩
  simp only [go_sem]
  by_cases hi : i < xs.length
  · obtain ⟨x, hxi⟩ : ∃ x, xs[i]? = some x := ⟨_, List.getElem?_eq_getElem hi⟩
    simp only [go_sem, hi, hxi]
    by_cases hj : i < ys.length
    · obtain ⟨y, hyi⟩ : ∃ y, ys[i]? = some y := ⟨_, List.getElem?_eq_getElem hj⟩
      simp only [go_sem, hj, hyi, Nat.not_le.2 hj]
      refine (cmp_u64 x y).pv ⟨.v, .v, trivial⟩ ?_
      simp only [go_sem]
      by_cases hc : cmpI x y = 0
      · simp only [go_sem, hc]
        refine ⟨i + 1, ⟨hi, hj, ?_⟩, by omega, ?_⟩
        · rw [h3, drop_get hxi, drop_get hyi, cmpsI, hc]; rfl
        · rw [wrap_succ i (by omega)]
          exact Mv.none (by simp)
      · simp only [go_sem, bne_true hc]
        refine Fin.v ?_
        rw [h3, drop_get hxi, drop_get hyi, cmpsI, orI, if_neg hc]
    · simp only [go_sem, hj, Nat.not_lt.1 hj]
      refine Fin.v ?_
      rw [h3, drop_get hxi, drop_end hj, cmpsI]
  · simp only [go_sem, hi]
    by_cases hl : xs.length < ys.length
    · simp only [go_sem, hl]
      obtain ⟨y, hyi⟩ := get_ex (show i < ys.length by omega)
      refine Fin.v ?_
      rw [h3, drop_end hi, drop_get hyi, cmpsI]
    · simp only [go_sem, hl]
      refine Fin.v ?_
      rw [h3, drop_end hi, drop_end (show ¬ i < ys.length by omega), cmpsI]

theorem setOrder (a b c d a' b' c' d' : Int) : AP Try.prog 24 [.agg [.v (.int .u64 a), .v (.int .u64 b), .v (.int .u64 c), .v (.int .u64 d)], .agg [.v (.int .u64 a'), .v (.int .u64 b'), .v (.int .u64 c'), .v (.int .u64 d')]] (.i (setCmp a b c d a' b' c' d')) := by
  refine AC.lbody hT hm Try.func24 f24_nm f24_lc f24_res f24_nt ?_
  simp only [go_sem]
  refine (cf_u64 [a, b, c, d] [a', b', c', d'] (by simp)).pv (by simp) ?_
  simp only [go_sem]
  refine Fin.v ?_
  simp [cmpsI, setCmp]
end Go.Proofs.Ytbpkppidbdhopaa.W
