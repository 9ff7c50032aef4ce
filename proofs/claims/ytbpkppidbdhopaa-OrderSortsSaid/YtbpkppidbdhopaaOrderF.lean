/- Part of a program logic over data: rules of the walk, each proved. -/
import Derived.Test.YtbpkppidbdhopaaOrderE
set_option linter.unusedSectionVars false
set_option linter.unusedVariables false
set_option linter.unusedSimpArgs false
set_option maxRecDepth 100000
namespace Go.Proofs.Ytbpkppidbdhopaa.W
open Go Go.Proofs Go.Proofs.Ytbpkppidbdhopaa.AWP

theorem same (x : Re) : ∀ y : Re, AP Try.prog 11 [.agg x.c, .agg y.c] (.b (x.same y)) := by
  refine Re.ind (p := fun x => ∀ y : Re, AP Try.prog 11 [.agg x.c, .agg y.c] (.b (x.same y))) ?_ x
  rintro k a b c d ks ih ⟨k', a', b', c', d', ks'⟩
  refine AC.wf rfl fun hw => ?_
  have hlen : ks.length ≤ 9223372036854775807 := by
    have := Re.ok_agg (hw _ (List.mem_cons_self ..))
    rw [Re.Ok] at this
    exact this.2
  refine AC.lbody hT hm Try.func11 f11_nm f11_lc f11_res f11_nt ?_
  simp only [go_sem]
  by_cases h1 : k = k'
  case neg =>
    simp only [go_sem, bne_true h1]
    refine Fin.v ?_
    simp [Re.same, h1]
  subst h1
  simp only [go_sem, intsEq]
  by_cases h2 : a = a' ∧ b = b' ∧ c = c' ∧ d = d'
  case neg =>
    have e : (a == a' && (b == b' && (c == c' && (d == d' && true)))) = false := by
      rw [Bool.eq_false_iff]
      simpa using h2
    simp only [go_sem, e, Bool.not_false]
    refine Fin.v ?_
    rw [Re.same]
    simp [h2]
  obtain ⟨rfl, rfl, rfl, rfl⟩ := h2
  simp only [go_sem, Bool.and_self, Bool.not_true]
  have es : (Re.mk k a b c d ks).same (Re.mk k a b c d ks') = Re.sames ks ks' := by simp [Re.same]
  rw [es]
  by_cases h3 : (ks.length : Int) = ks'.length
  case neg =>
    simp only [go_sem, bne_true h3]
    refine Fin.v ?_
    rw [Re.sames_len _ _ (by omega)]
  simp only [go_sem, h3]
  refine xl_loopM hT hm (fun i : Nat => ⟨f11_i9 (.pel (Re.mk k a b c d ks).c) (.pel (Re.mk k a b c d ks').c) (.i ks'.length) (.i i), []⟩)
    (fun i : Nat => i ≤ ks.length ∧ Re.sames ks ks' = Re.sames (ks.drop i) (ks'.drop i)) (fun i => ks.length - i) 0 ⟨Nat.zero_le _, rfl⟩ (Mv.none (by simp [f11_i9, Re.c_mk, Re.cs_eq])) ?_
  rintro i ⟨q1, q3⟩
  simp only [go_sem]
  by_cases hi : i < ks'.length
  · obtain ⟨x, hxi⟩ := get_ex (l := ks) (show i < ks.length by omega)
    obtain ⟨y, hyi⟩ := get_ex hi
    simp only [go_sem, hi, hxi, hyi]
    refine (ih x (List.mem_of_getElem? hxi) y).pv (by simp) ?_
    simp only [go_sem]
    cases hs : x.same y with
    | true =>
      simp only [go_sem, Bool.not_true]
      refine ⟨i + 1, ⟨by omega, ?_⟩, by omega, ?_⟩
      · rw [q3, drop_get hxi, drop_get hyi, Re.sames, hs, Bool.true_and]
      · rw [wrap_succ i (by omega)]
        exact Mv.none (by simp)
    | false =>
      simp only [go_sem, Bool.not_false]
      refine Fin.v ?_
      rw [q3, drop_get hxi, drop_get hyi, Re.sames, hs, Bool.false_and]
  · simp only [go_sem, hi]
    refine Fin.v ?_
    rw [q3, drop_end hi, drop_end (show ¬ i < ks.length by omega), Re.sames]

theorem awake : AP Try.prog 8 [] (.b true) := by
  refine AC.lbody hT hm Try.func8 f8_nm f8_lc f8_res f8_nt ?_
  simp only [go_sem]
  refine (bare 1).pd (by simp) (by simp) ?_
  simp only [go_sem]
  refine (bare 2).pd (by simp) (by simp) ?_
  simp only [go_sem]
  refine (two (Re.mk 1 0 0 0 0 []) (Re.mk 2 0 0 0 0 [])).pv (by simp [Re.c_mk, Re.cs_eq]) ?_
  have e1 : (Re.mk 1 0 0 0 0 []).cmp (Re.mk 2 0 0 0 0 []) = -1 := by rw [Re.cmp]; rfl
  rw [e1]
  simp only [go_sem]
  refine (bare 1).pd (by simp) (by simp) ?_
  simp only [go_sem]
  refine (many (Re.mk 1 0 0 0 0 [])).pd (by simp [Re.c_mk, Re.cs_eq]) (by simp) ?_
  simp only [go_sem]
  refine (bare 2).pd (by simp) (by simp) ?_
  simp only [go_sem]
  refine (two (Re.mk 6 0 0 0 0 [Re.mk 1 0 0 0 0 []]) (Re.mk 2 0 0 0 0 [])).pv (by simp [Re.c_mk, Re.cs_eq]) ?_
  have e2 : (Re.mk 6 0 0 0 0 [Re.mk 1 0 0 0 0 []]).cmp (Re.mk 2 0 0 0 0 []) = 1 := by rw [Re.cmp]; rfl
  rw [e2]
  simp only [go_sem]
  exact Fin.v rfl

theorem orderTwo (x y : Re) : AP Try.prog 3 [.agg x.c, .agg y.c] (.b true) := by
  refine AC.lbody hT hm Try.func3 f3_nm f3_lc f3_res f3_nt ?_
  simp only [go_sem]
  refine (great 200 x).pv (by simp) ?_
  simp only [go_sem]
  by_cases h1 : 200 < x.cnt 200
  case pos =>
    simp only [go_sem, h1]
    refine awake.pv (by simp) ?_
    simp only [go_sem]
    exact Fin.v rfl
  simp only [go_sem, h1]
  refine (great 200 y).pv (by simp) ?_
  simp only [go_sem, h1]
  by_cases h2 : 200 < y.cnt 200
  case pos =>
    simp only [go_sem, h1, h2]
    refine awake.pv (by simp) ?_
    simp only [go_sem]
    exact Fin.v rfl
  simp only [go_sem, h1, h2]
  refine (two x y).pv (by simp) ?_
  simp only [go_sem]
  refine (rtwo x y).pv (by simp) ?_
  simp only [go_sem]
  refine (two y x).pv (by simp) ?_
  simp only [go_sem]
  have hr := x.rng y
  unfold Rng at hr
  have e : y.cmp x = IntKind.i64.wrap (0 - x.cmp y) := by
    rw [Re.cmp_neg x y, wrap_int _ (by omega) (by omega)]; omega
  simp only [go_sem, ← e]
  refine (same x y).pv (by simp) ?_
  simp only [go_sem]
  have e2 : (x.cmp y == 0) = x.same y := by
    rw [Re.same_cmp, Bool.eq_iff_iff]; simp
  simp only [go_sem, e2]
  refine awake.pv (by simp) ?_
  simp only [go_sem]
  exact Fin.v rfl

theorem orderThree (x y z : Re) : AP Try.prog 4 [.agg x.c, .agg y.c, .agg z.c] (.b true) := by
  refine AC.lbody hT hm Try.func4 f4_nm f4_lc f4_res f4_nt ?_
  simp only [go_sem]
  refine (great 200 x).pv (by simp) ?_
  simp only [go_sem]
  by_cases h1 : 200 < x.cnt 200
  case pos =>
    simp only [go_sem, h1]
    refine awake.pv (by simp) ?_
    simp only [go_sem]
    exact Fin.v rfl
  simp only [go_sem, h1]
  refine (great 200 y).pv (by simp) ?_
  simp only [go_sem, h1]
  by_cases h2 : 200 < y.cnt 200
  case pos =>
    simp only [go_sem, h1, h2]
    refine awake.pv (by simp) ?_
    simp only [go_sem]
    exact Fin.v rfl
  simp only [go_sem, h1, h2]
  refine (great 200 z).pv (by simp) ?_
  simp only [go_sem, h1, h2]
  by_cases h3 : 200 < z.cnt 200
  case pos =>
    simp only [go_sem, h1, h2, h3]
    refine awake.pv (by simp) ?_
    simp only [go_sem]
    exact Fin.v rfl
  simp only [go_sem, h1, h2, h3]
  refine (two x y).pv (by simp) ?_
  simp only [go_sem]
  by_cases q1 : x.cmp y ≤ 0
  case neg =>
    simp only [go_sem, q1]
    refine awake.pv (by simp) ?_
    simp only [go_sem]
    exact Fin.v rfl
  simp only [go_sem, q1]
  refine (two y z).pv (by simp) ?_
  simp only [go_sem]
  by_cases q2 : y.cmp z ≤ 0
  case neg =>
    simp only [go_sem, q2, q1]
    refine awake.pv (by simp) ?_
    simp only [go_sem]
    exact Fin.v rfl
  simp only [go_sem, q1, q2, Bool.not_true]
  refine (two x z).pv (by simp) ?_
  have q3 : x.cmp z ≤ 0 := by
    have h := x.tri y z
    have r1 := x.rng y
    have r2 := y.rng z
    unfold Tri at h
    unfold Rng at *
    omega
  simp only [go_sem, q3, Bool.not_true]
  refine awake.pv (by simp) ?_
  simp only [go_sem]
  exact Fin.v rfl
end Go.Proofs.Ytbpkppidbdhopaa.W
