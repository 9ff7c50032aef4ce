/- Part of a program logic over data: rules of the walk, each proved. -/
import Derived.Test.YtbpkppidbdhopaaOrderB
set_option linter.unusedSectionVars false
set_option linter.unusedVariables false
set_option linter.unusedSimpArgs false
set_option maxRecDepth 100000
namespace Go.Proofs.Ytbpkppidbdhopaa.W
open Go Go.Proofs Go.Proofs.Ytbpkppidbdhopaa.AWP

theorem cf_re (xs ys : List Re) (ih : ∀ x ∈ xs, ∀ y, AP Try.prog 9 [.agg x.c, .agg y.c] (.i (x.cmp y))) :
    AP Try.prog 25 [.sl 6 (xs.map Re.c), .sl 6 (ys.map Re.c), .fn 9 []] (.i (Re.cmps xs ys)) := by
  refine AC.wf rfl fun hw => ?_
  have hlen : xs.length ≤ 9223372036854775807 := by simpa using (hw _ (List.mem_cons_self ..)).sl_len
  refine AC.lbody hT hm Try.func25 f25_nm f25_lc f25_res f25_nt ?_
  simp only [go_sem]
  refine xl_loopM hT hm (fun i : Nat => ⟨f25_i11 (.sl 6 (xs.map Re.c)) (.sl 6 (ys.map Re.c)) (.fn 9 []) (.sl 6 (xs.map Re.c)) (.i xs.length) (.i i), []⟩)
    (fun i : Nat => i ≤ xs.length ∧ i ≤ ys.length ∧ Re.cmps xs ys = Re.cmps (xs.drop i) (ys.drop i)) (fun i => xs.length - i) 0 ⟨Nat.zero_le _, Nat.zero_le _, rfl⟩ (Mv.none (by simp [f25_i11])) ?_
  rintro i ⟨h1, h2, h3⟩
  simp only [go_sem]
  by_cases hi : i < xs.length
  · obtain ⟨x, hxi⟩ := get_ex hi
    simp only [go_sem, hi, hxi]
    by_cases hj : i < ys.length
    · obtain ⟨y, hyi⟩ := get_ex hj
      simp only [go_sem, hj, hyi, Nat.not_le.2 hj]
      refine (ih x (List.mem_of_getElem? hxi) y).pv (by simp) ?_
      simp only [go_sem]
      by_cases hc : x.cmp y = 0
      · simp only [go_sem, hc]
        refine ⟨i + 1, ⟨hi, hj, ?_⟩, by omega, ?_⟩
        · rw [h3, drop_get hxi, drop_get hyi, Re.cmps, hc, zero_orI]
        · rw [wrap_succ i (by omega)]
          exact Mv.none (by simp)
      · simp only [go_sem, bne_true hc]
        refine Fin.v ?_
        rw [h3, drop_get hxi, drop_get hyi, Re.cmps, orI_ne hc]
    · simp only [go_sem, hj, Nat.not_lt.1 hj]
      refine Fin.v ?_
      rw [h3, drop_get hxi, drop_end hj, Re.cmps]
  · simp only [go_sem, hi]
    by_cases hl : xs.length < ys.length
    · simp only [go_sem, hl]
      obtain ⟨y, hyi⟩ := get_ex (show i < ys.length by omega)
      refine Fin.v ?_
      rw [h3, drop_end hi, drop_get hyi, Re.cmps]
    · simp only [go_sem, hl]
      refine Fin.v ?_
      rw [h3, drop_end hi, drop_end (show ¬ i < ys.length by omega), Re.cmps]

theorem or_int (xs : List Int) (h : xs.length < 1000) : AP Try.prog 22 [.sl 1 (xs.map fun x => [.i x])] (.i (xs.foldr orI 0)) := by
  refine AC.lbody hT hm Try.func22 f22_nm f22_lc f22_res f22_nt ?_
  simp only [go_sem]
  refine xl_loopM hT hm (fun i : Nat => ⟨f22_i8 (.i 0) (.sl 1 (xs.map fun x => [.i x])) (.i xs.length) (.i i), []⟩)
    (fun i : Nat => i ≤ xs.length ∧ xs.foldr orI 0 = (xs.drop i).foldr orI 0) (fun i => xs.length - i) 0 ⟨Nat.zero_le _, rfl⟩ (Mv.none (by simp [f22_i8])) ?_
  rintro i ⟨h1, h3⟩
  simp only [go_sem]
  by_cases hi : i < xs.length
  · obtain ⟨x, hxi⟩ := get_ex hi
    simp only [go_sem, hi, hxi]
    by_cases hc : x = 0
    · simp only [go_sem, hc]
      refine ⟨i + 1, ⟨hi, ?_⟩, by omega, ?_⟩
      · rw [h3, drop_get hxi, hc, List.foldr_cons, zero_orI]
      · rw [wrap_succ i (by omega)]
        exact Mv.none (by simp)
    · simp only [go_sem, bne_true hc]
      refine Fin.v ?_
      rw [h3, drop_get hxi, List.foldr_cons, orI_ne hc]
  · simp only [go_sem, hi]
    refine Fin.v ?_
    rw [h3, drop_end hi]; rfl

theorem two (x : Re) : ∀ y : Re, AP Try.prog 9 [.agg x.c, .agg y.c] (.i (x.cmp y)) := by
  refine Re.ind (p := fun x => ∀ y : Re, AP Try.prog 9 [.agg x.c, .agg y.c] (.i (x.cmp y))) ?_ x
  rintro k a b c d ks ih ⟨k', a', b', c', d', ks'⟩
  refine AC.lbody hT hm Try.func9 f9_nm f9_lc f9_res f9_nt ?_
  simp only [go_sem]
  refine (cmp_u8 k k').qv (by simp) ?_
  simp only [go_sem]
  refine (setOrder a b c d a' b' c' d').qv (by simp) ?_
  simp only [go_sem]
  refine (cf_re ks ks' ih).pv (by simp) ?_
  simp only [go_sem]
  refine (or_int [cmpI k k', setCmp a b c d a' b' c' d', Re.cmps ks ks'] (by simp)).pv (by simp) ?_
  simp only [go_sem]
  refine Fin.v ?_
  simp [Re.cmp]
end Go.Proofs.Ytbpkppidbdhopaa.W
