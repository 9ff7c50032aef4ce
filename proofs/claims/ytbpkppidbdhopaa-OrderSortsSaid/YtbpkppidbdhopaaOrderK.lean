/- The laws OrderAgain and OrderSorts. -/
import Derived.Test.YtbpkppidbdhopaaOrderJ
set_option linter.unusedSectionVars false
set_option linter.unusedVariables false
set_option linter.unusedSimpArgs false
set_option maxRecDepth 100000
/- The laws OrderAgain and OrderSorts. -/
namespace Go.Proofs.Ytbpkppidbdhopaa.W
open Go Go.Proofs Go.Proofs.Ytbpkppidbdhopaa.AWP

theorem gAll_len {m : Int} {l : List Re} (h : gAll m l = false) : l.length ≤ 20 := by
  simp only [gAll, Bool.or_eq_false_iff, decide_eq_false_iff_not] at h
  omega

theorem orderAgain (l : List Re) : AP Try.prog 5 [Res l] (.b true) := by
  refine AC.lbody hT hm Try.func5 f5_nm f5_lc f5_res f5_nt ?_
  simp only [go_sem]
  refine (greatAll 200 l).pv (by simp) ?_
  cases hg : gAll 200 l with
  | true =>
    simp only [go_sem]
    refine awake.pv (by simp) ?_
    simp only [go_sem]
    exact Fin.v rfl
  | false =>
    have hl := gAll_len hg
    have hs := sortR_len l
    have ho := onceR_len l
    simp only [go_sem]
    refine (sort l hl).pd (by simp) (by simp) ?_
    simp only [go_sem]
    refine (once l (by omega)).pd (by simp) (by simp) ?_
    simp only [go_sem]
    have c1 := sort (sortR l) (by omega)
    rw [sortR_again] at c1
    refine c1.pd (by simp) (by simp) ?_
    simp only [go_sem]
    have c2 := sameAll (sortR l) (sortR l) (by omega)
    rw [Re.sames_self] at c2
    refine c2.pv (by simp) ?_
    simp only [go_sem]
    have c3 := once (onceR l) (by omega)
    rw [onceR_again] at c3
    refine c3.pd (by simp) (by simp) ?_
    simp only [go_sem]
    have c4 := sameAll (onceR l) (onceR l) (by omega)
    rw [Re.sames_self] at c4
    refine c4.pv (by simp) ?_
    simp only [go_sem]
    refine (sort (onceR l) (by omega)).pd (by simp) (by simp) ?_
    simp only [go_sem]
    refine (once (sortR l) (by omega)).pd (by simp) (by simp) ?_
    simp only [go_sem]
    have c5 := sameAll (sortR (onceR l)) (onceR (sortR l)) (by rw [sortR_len]; omega)
    rw [← sort_once, Re.sames_self] at c5
    rw [← sort_once]
    refine c5.pv (by simp) ?_
    have h1 : Re.cs (sortR l) = (sortR l).map Re.c := Re.cs_eq _
    simp only [go_sem, hs]
    refine awake.pv (by simp) ?_
    simp only [go_sem]
    exact Fin.v rfl

theorem frz1 {l : List Re} {k : Nat} {om : List Ob} {F : Nat → Bool} {ks : List (Option Nat)} (h : om[k]? = some (.frz 6 (l.map Re.c))) : Cv om F ks (.own k) (Res l) := by
  show Cv om F ks (.own k) (.sl 6 (Re.cs l))
  rw [Re.cs_eq]
  refine .frz' h rfl (fun i r r' h1 h2 => by rw [h1] at h2; cases h2; rfl) (fun i r r' j d d' h1 h2 h3 h4 => ?_)
  rw [h1] at h2; cases h2
  rw [h3] at h4; cases h4
  exact .same (Re.map_bl l r (List.mem_of_getElem? h1) d (List.mem_of_getElem? h3))
theorem frzF {l : List Re} {k : Nat} {om : List Ob} {F : Nat → Bool} {ks : List (Option Nat)} (h : om[k]? = some (reOb l)) (hF : F k = true) : Cv om F ks (.own k) (Res l) := by
  show Cv om F ks (.own k) (.sl 6 (Re.cs l))
  rw [Re.cs_eq]
  exact Cv.frzS h hF (Re.map_bl _)

theorem orderSorts (l : List Re) : AP Try.prog 6 [Res l] (.b true) := by
  refine AC.lbody hT hm Try.func6 f6_nm f6_lc f6_res f6_nt ?_
  simp only [go_sem]
  refine (greatAll 200 l).pv (by simp) ?_
  cases hg : gAll 200 l with
  | true =>
    simp only [go_sem]
    refine awake.pv (by simp) ?_
    simp only [go_sem]
    exact Fin.v rfl
  | false =>
    have hl := gAll_len hg
    have hs := sortR_len l
    have ho := onceR_len l
    simp only [go_sem]
    refine ⟨by omega, ?_⟩
    refine (sort l hl).callF (fun k => k == 1) ⟨frzF rfl rfl, trivial⟩ (Res_bl' _) ?_
    have ef : frzL (fun k => k == 1) [.dead, .slc 27 6 (l.map Re.c)] = [.dead, .frz 6 (l.map Re.c)] := rfl
    simp only [go_sem, ef]
    refine (once l (by omega)).call ⟨frz1 rfl, trivial⟩ (Res_bl' _) ?_
    simp only [go_sem]
    refine (first l (by omega)).lend ⟨frz1 rfl, trivial⟩ (by simp [Out.d]) ?_
    simp only [go_sem]
    refine (rSort l (by omega)).pd (by simp) (by simp) ?_
    simp only [go_sem]
    have c1 := sameAll (sortR l) (sortR l) (by omega)
    rw [Re.sames_self] at c1
    refine c1.pv (by simp) ?_
    simp only [go_sem]
    refine (rOnce l (by omega)).pd (by simp) (by simp) ?_
    simp only [go_sem]
    have c2 := sameAll (onceR l) (onceR l) (by omega)
    rw [Re.sames_self] at c2
    refine c2.pv (by simp) ?_
    simp only [go_sem]
    have c3 := sameAll l l (by omega)
    rw [Re.sames_self] at c3
    refine c3.pv ⟨frz1 rfl, by simp, trivial⟩ ?_
    simp only [go_sem]
    have e1 : (!(decide (0 < l.length) == decide ((0 : Int) < l.length))) = false := by simp
    simp only [e1]
    simp only [go_sem]
    by_cases h0 : 0 < l.length
    case neg =>
      have el : l.length = 0 := by omega
      have e2 : firstR l l.length = 0 := by rw [el]; rfl
      rw [e2]
      simp only [go_sem, h0]
      refine awake.pv (by simp) ?_
      simp only [go_sem]
      exact Fin.v rfl
    have hne : l ≠ [] := by intro e; rw [e] at h0; simp at h0
    have hf := firstR_lt hne l.length (Nat.le_refl _)
    obtain ⟨x, hx⟩ := get_ex hf
    have hok := fun k r => firstR_ok (l := l) l.length (Nat.le_refl _) k r x
    generalize firstR l l.length = f at hf hx hok ⊢
    have e3 : decide ((f : Int) < 0) = false := by simp
    have e4 : decide (l.length ≤ f) = false := by simp; omega
    simp only [go_sem, h0, e3]

    simp only [go_sem, e4]
    refine xl_loopM hT hm (fun k : Nat => ⟨f6_i19 (Res l) (.i f) (.i k), []⟩)
      (fun k => k ≤ l.length) (fun k => l.length - k) 0 (Nat.zero_le _) (Mv.none (by simp [f6_i19])) ?_
    intro k hk
    simp only [go_sem]
    by_cases hkl : k < l.length
    case neg =>
      simp only [go_sem, hkl]
      refine awake.pv (by simp) ?_
      simp only [go_sem]
      exact Fin.v rfl
    obtain ⟨r, hr⟩ := get_ex hkl
    simp only [go_sem, hkl, hr, hx]
    refine (rtwo r x).pv (by simp) ?_
    obtain ⟨o1, o2⟩ := hok k r hkl hr hx
    have hc : decide (r.cmp x < 0) = false := by rw [decide_eq_false_iff_not]; exact Re.not_lt.2 o1
    simp only [go_sem, hc]
    by_cases hz : r.cmp x = 0
    · have hfk := o2 (Re.cmp_zero.1 hz)
      have hkf : decide (k < f) = false := by simp; omega
      simp only [go_sem, hz, hkf]
      rw [wrap_succ k (by omega)]
      exact ⟨k + 1, hkl, by omega, Mv.none (by simp)⟩
    · simp only [go_sem, beq_false hz]
      rw [wrap_succ k (by omega)]
      exact ⟨k + 1, hkl, by omega, Mv.none (by simp)⟩
end Go.Proofs.Ytbpkppidbdhopaa.W
