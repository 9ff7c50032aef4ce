/- Part of a program logic over data: rules of the walk, each proved. -/
import Derived.Test.YtbpkppidbdhopaaOrderC
set_option linter.unusedSectionVars false
set_option linter.unusedVariables false
set_option linter.unusedSimpArgs false
set_option maxRecDepth 100000
namespace Go.Proofs.Ytbpkppidbdhopaa.W
open Go Go.Proofs Go.Proofs.Ytbpkppidbdhopaa.AWP

theorem refOrder (xs ys : List Int) (hx : xs.length = 4) (hy : ys.length = 4) : AP Try.prog 26 [.agg (xs.map fun x => .v (.int .u64 x)), .agg (ys.map fun x => .v (.int .u64 x))] (.i (cmpsI xs ys)) := by
  refine AC.lbody hT hm Try.func26 f26_nm f26_lc f26_res f26_nt ?_
  simp only [go_sem]
  refine xl_loopM hT hm (fun i : Nat => ⟨f26_i8 (.pel (xs.map fun x => .v (.int .u64 x))) (.pel (ys.map fun x => .v (.int .u64 x))) (.i i), []⟩)
    (fun i : Nat => i ≤ 4 ∧ cmpsI xs ys = cmpsI (xs.drop i) (ys.drop i)) (fun i => 4 - i) 0 ⟨Nat.zero_le _, rfl⟩ (Mv.none (by simp [f26_i8])) ?_
  rintro i ⟨h1, h3⟩
  simp only [go_sem]
  by_cases hi : i < 4
  · obtain ⟨x, hxi⟩ := get_ex (l := xs) (show i < xs.length by omega)
    obtain ⟨y, hyi⟩ := get_ex (l := ys) (show i < ys.length by omega)
    have hi' : (i : Int) < 4 := by omega
    simp only [go_sem, hi, hi', hxi, hyi]
    by_cases hc : x < y
    · simp only [go_sem, hi, hi', hxi, hyi, hc]
      refine Fin.v ?_
      rw [h3, drop_get hxi, drop_get hyi, cmpsI, cmpI, if_pos hc, orI_ne (by decide)]
    · by_cases hc' : y < x
      · simp only [go_sem, hi, hi', hxi, hyi, hc, hc']
        refine Fin.v ?_
        rw [h3, drop_get hxi, drop_get hyi, cmpsI, cmpI, if_neg hc, if_pos hc', orI_ne (by decide)]
      · simp only [go_sem, hi, hi', hxi, hyi, hc, hc']
        refine ⟨i + 1, ⟨hi, ?_⟩, by omega, ?_⟩
        · rw [h3, drop_get hxi, drop_get hyi, cmpsI, cmpI, if_neg hc, if_neg hc', zero_orI]
        · rw [wrap_succ i (by omega)]
          exact Mv.none (by simp)
  · have hi' : ¬ (i : Int) < 4 := by omega
    simp only [go_sem, hi, hi']
    refine Fin.v ?_
    rw [h3, drop_end (by omega), drop_end (by omega), cmpsI]


theorem rtwo (x : Re) : ∀ y : Re, AP Try.prog 10 [.agg x.c, .agg y.c] (.i (x.cmp y)) := by
  refine Re.ind (p := fun x => ∀ y : Re, AP Try.prog 10 [.agg x.c, .agg y.c] (.i (x.cmp y))) ?_ x
  rintro k a b c d ks ih ⟨k', a', b', c', d', ks'⟩
  refine AC.wf rfl fun hw => ?_
  have hlen : ks.length ≤ 9223372036854775807 := by
    have := Re.ok_agg (hw _ (List.mem_cons_self ..))
    rw [Re.Ok] at this
    exact this.2
  refine AC.lbody hT hm Try.func10 f10_nm f10_lc f10_res f10_nt ?_
  simp only [go_sem]
  by_cases h1 : k < k'
  · simp only [go_sem, h1]
    refine Fin.v ?_
    rw [Re.cmp, cmpI, if_pos h1, orI_ne (by decide)]
  by_cases h2 : k' < k
  · simp only [go_sem, h1, h2]
    refine Fin.v ?_
    rw [Re.cmp, cmpI, if_neg h1, if_pos h2, orI_ne (by decide)]
  simp only [go_sem, h1, h2]
  refine (refOrder [a, b, c, d] [a', b', c', d'] rfl rfl).pv (by simp) ?_
  have e : cmpsI [a, b, c, d] [a', b', c', d'] = setCmp a b c d a' b' c' d' := by simp [cmpsI, setCmp]
  have e2 : (Re.mk k a b c d ks).cmp (Re.mk k' a' b' c' d' ks') = orI (setCmp a b c d a' b' c' d') (Re.cmps ks ks') := by rw [Re.cmp, cmpI, if_neg h1, if_neg h2, zero_orI]
  rw [e, e2]
  by_cases h3 : setCmp a b c d a' b' c' d' = 0
  · simp only [go_sem, h3, zero_orI]
    refine xl_loopM hT hm (fun i : Nat => ⟨f10_i17 (.pel (Re.mk k a b c d ks).c) (.pel (Re.mk k' a' b' c' d' ks').c) (.i ks.length) (.i i), []⟩)
      (fun i : Nat => i ≤ ks.length ∧ i ≤ ks'.length ∧ Re.cmps ks ks' = Re.cmps (ks.drop i) (ks'.drop i)) (fun i => ks.length - i) 0 ⟨Nat.zero_le _, Nat.zero_le _, rfl⟩ (Mv.none (by simp [f10_i17, Re.c_mk, Re.cs_eq])) ?_
    rintro i ⟨q1, q2, q3⟩
    simp only [go_sem]
    by_cases hi : i < ks.length
    · obtain ⟨x, hxi⟩ := get_ex hi
      simp only [go_sem, hi]
      by_cases hj : i < ks'.length
      · obtain ⟨y, hyi⟩ := get_ex hj
        have hne : ¬ (i : Int) = ks'.length := by omega
        simp only [go_sem, beq_false hne, hxi, hyi]
        refine (ih x (List.mem_of_getElem? hxi) y).pv (by simp) ?_
        simp only [go_sem]
        by_cases hc : x.cmp y = 0
        · simp only [go_sem, hc]
          refine ⟨i + 1, ⟨hi, hj, ?_⟩, by omega, ?_⟩
          · rw [q3, drop_get hxi, drop_get hyi, Re.cmps, hc, zero_orI]
          · rw [wrap_succ i (by omega)]
            exact Mv.none (by simp)
        · simp only [go_sem, bne_true hc]
          refine Fin.v ?_
          rw [q3, drop_get hxi, drop_get hyi, Re.cmps, orI_ne hc]
      · have hne : (i : Int) = ks'.length := by omega
        simp only [go_sem, ← hne]
        refine Fin.v ?_
        rw [q3, drop_get hxi, drop_end hj, Re.cmps]
    · simp only [go_sem, hi]
      by_cases hl : ks.length < ks'.length
      · simp only [go_sem, hl]
        obtain ⟨y, hyi⟩ := get_ex (show i < ks'.length by omega)
        refine Fin.v ?_
        rw [q3, drop_end hi, drop_get hyi, Re.cmps]
      · simp only [go_sem, hl]
        refine Fin.v ?_
        rw [q3, drop_end hi, drop_end (show ¬ i < ks'.length by omega), Re.cmps]
  · simp only [go_sem, bne_true h3]
    refine Fin.v ?_
    rw [orI_ne h3]
end Go.Proofs.Ytbpkppidbdhopaa.W
