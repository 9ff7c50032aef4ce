/- The first one of some, by a function with what it has caught. -/
import Derived.Test.YteifkcgokjmcjaaMatchM
set_option linter.unusedVariables false
set_option linter.unusedSimpArgs false
set_option linter.unusedSectionVars false
set_option maxRecDepth 100000
/- The first one of some, by a function with what it has caught. -/
namespace Go.Proofs.Yteifkcgokjmcjaa.W
open Go Go.Proofs Go.Proofs.Yteifkcgokjmcjaa.AWP
attribute [local irreducible] xl hide aop aops aopQ qops guardP condP

theorem idxStC (G : FuncId) (cap : List D) (hcap : ∀ d ∈ cap, Bl 0 d) (p : ByteArray → Bool) (l : List ByteArray) (hl : l.length ≤ 9223372036854775807) (H : ∀ x ∈ l, AP Try.prog G (.s x :: cap) (.b (p x))) : AP Try.prog 77 [.sl 1 (l.map fun x => [.s x]), .fn G cap] (.i (idxI p l)) := by
  have hfn : Bl 0 (.fn G cap) := .fn hcap
  have hq : ∀ om (ks : List (Option Nat)), Cv om (fun _ => true) ks (.fn G cap) (.fn G cap) := fun om ks => .same hfn
  have hca : ∀ om (F : Nat → Bool) (ks : List (Option Nat)) (x : ByteArray), CvL om F ks (.s x :: cap) (.s x :: cap) := fun om F ks x => ⟨.same (by simp), CvL.same hcap⟩
  refine AC.lbody hT hm Try.func77 f77_nm f77_lc f77_res f77_nt ?_
  simp only [go_sem, Int.reduceEq, Int.reduceLE, Int.reduceLT, Int.reduceToNat]
  refine xl_loopM hT hm (fun i : Nat => ⟨f77_i7 (.sl 1 (l.map fun x => [.s x])) (.fn G cap) (.i l.length) (.i i), []⟩)
    (fun i => i ≤ l.length ∧ ∀ j x, j < i → l[j]? = some x → p x = false) (fun i => l.length - i) 0 ⟨Nat.zero_le _, fun j x h => absurd h (Nat.not_lt_zero _)⟩ (Mv.none (by simp [hq, f77_i7])) ?_
  rintro i ⟨hi, hn⟩
  simp only [go_sem, Int.reduceEq, Int.reduceLE, Int.reduceLT, Int.reduceToNat]
  by_cases h : i < l.length
  case neg =>
    simp only [go_sem, Int.reduceEq, Int.reduceLE, Int.reduceLT, Int.reduceToNat, h]
    refine Fin.v ?_
    have : l.findIdx? p = none := by
      rw [List.findIdx?_eq_none_iff]
      intro x hx
      obtain ⟨j, hj⟩ := List.getElem?_of_mem hx
      exact hn j x (by have := (List.getElem?_eq_some_iff.1 hj).1; omega) hj
    unfold idxI
    rw [this]
  obtain ⟨x, hx⟩ := get_ex h
  simp only [go_sem, Int.reduceEq, Int.reduceLE, Int.reduceLT, Int.reduceToNat, h, hx]
  refine (H x (List.mem_of_getElem? hx)).pv (hca _ _ _ x) ?_
  cases hp : p x
  case true =>
    simp only [go_sem, Int.reduceEq, Int.reduceLE, Int.reduceLT, Int.reduceToNat]
    refine Fin.v ?_
    have : l.findIdx? p = some i := by
      rw [List.findIdx?_eq_some_iff_getElem]
      obtain ⟨hlt, hxe⟩ := List.getElem?_eq_some_iff.1 hx
      refine ⟨hlt, by rw [hxe]; exact hp, fun j hji => ?_⟩
      have := hn j l[j] hji (List.getElem?_eq_getElem (by omega))
      simp [this]
    unfold idxI
    rw [this]
  simp only [go_sem, Int.reduceEq, Int.reduceLE, Int.reduceLT, Int.reduceToNat]
  rw [wrap_succ i (by omega)]
  refine ⟨i + 1, ⟨h, fun j y hj hy => ?_⟩, by omega, Mv.none (by simp [hq])⟩
  by_cases e : j = i
  · subst e; rw [hx] at hy; cases hy; exact hp
  · exact hn j y (by omega) hy
theorem anyStC (G : FuncId) (cap : List D) (hcap : ∀ d ∈ cap, Bl 0 d) (p : ByteArray → Bool) (l : List ByteArray) (hl : l.length ≤ 9223372036854775807) (H : ∀ x ∈ l, AP Try.prog G (.s x :: cap) (.b (p x))) : AP Try.prog 48 [.sl 1 (l.map fun x => [.s x]), .fn G cap] (.b (l.any p)) := by
  refine AC.lbody hT hm Try.func48 f48_nm f48_lc f48_res f48_nt ?_
  simp only [go_sem, Int.reduceEq, Int.reduceLE, Int.reduceLT, Int.reduceToNat]
  refine (idxStC G cap hcap p l hl H).pv ⟨.same (by simp), .same (.fn hcap), trivial⟩ ?_
  simp only [go_sem, Int.reduceEq, Int.reduceLE, Int.reduceLT, Int.reduceToNat]
  exact Fin.v (by rw [idxI_nn])


theorem idxReC (G : FuncId) (cap : List D) (hcap : ∀ d ∈ cap, Bl 0 d) (p : Re → Bool) (l : List Re) (hl : l.length ≤ 9223372036854775807) (H : ∀ x ∈ l, AP Try.prog G (.agg x.c :: cap) (.b (p x))) : AP Try.prog 66 [Res l, .fn G cap] (.i (idxI p l)) := by
  have hfn : Bl 0 (.fn G cap) := .fn hcap
  have hq : ∀ om (ks : List (Option Nat)), Cv om (fun _ => true) ks (.fn G cap) (.fn G cap) := fun om ks => .same hfn
  have hca : ∀ om (F : Nat → Bool) (ks : List (Option Nat)) (x : Re), CvL om F ks (.agg x.c :: cap) (.agg x.c :: cap) := fun om F ks x => ⟨.same (by simp), CvL.same hcap⟩
  refine AC.lbody hT hm Try.func66 f66_nm f66_lc f66_res f66_nt ?_
  simp only [go_sem, Int.reduceEq, Int.reduceLE, Int.reduceLT, Int.reduceToNat]
  refine xl_loopM hT hm (fun i : Nat => ⟨f66_i7 (Res l) (.fn G cap) (.i l.length) (.i i), []⟩)
    (fun i => i ≤ l.length ∧ ∀ j x, j < i → l[j]? = some x → p x = false) (fun i => l.length - i) 0 ⟨Nat.zero_le _, fun j x h => absurd h (Nat.not_lt_zero _)⟩ (Mv.none (by simp [hq, f66_i7])) ?_
  rintro i ⟨hi, hn⟩
  simp only [go_sem, Int.reduceEq, Int.reduceLE, Int.reduceLT, Int.reduceToNat]
  by_cases h : i < l.length
  case neg =>
    simp only [go_sem, Int.reduceEq, Int.reduceLE, Int.reduceLT, Int.reduceToNat, h]
    refine Fin.v ?_
    have : l.findIdx? p = none := by
      rw [List.findIdx?_eq_none_iff]
      intro x hx
      obtain ⟨j, hj⟩ := List.getElem?_of_mem hx
      exact hn j x (by have := (List.getElem?_eq_some_iff.1 hj).1; omega) hj
    unfold idxI
    rw [this]
  obtain ⟨x, hx⟩ := get_ex h
  simp only [go_sem, Int.reduceEq, Int.reduceLE, Int.reduceLT, Int.reduceToNat, h, hx]
  refine (H x (List.mem_of_getElem? hx)).pv (hca _ _ _ x) ?_
  cases hp : p x
  case true =>
    simp only [go_sem, Int.reduceEq, Int.reduceLE, Int.reduceLT, Int.reduceToNat]
    refine Fin.v ?_
    have : l.findIdx? p = some i := by
      rw [List.findIdx?_eq_some_iff_getElem]
      obtain ⟨hlt, hxe⟩ := List.getElem?_eq_some_iff.1 hx
      refine ⟨hlt, by rw [hxe]; exact hp, fun j hji => ?_⟩
      have := hn j l[j] hji (List.getElem?_eq_getElem (by omega))
      simp [this]
    unfold idxI
    rw [this]
  simp only [go_sem, Int.reduceEq, Int.reduceLE, Int.reduceLT, Int.reduceToNat]
  rw [wrap_succ i (by omega)]
  refine ⟨i + 1, ⟨h, fun j y hj hy => ?_⟩, by omega, Mv.none (by simp [hq])⟩
  by_cases e : j = i
  · subst e; rw [hx] at hy; cases hy; exact hp
  · exact hn j y (by omega) hy


theorem mFits (r : Re) (hz : r.sz ≤ 1099511627776) (hw : r.wd) (l : List ByteArray) (hl : l.length ≤ 9223372036854775807) (hs : ∀ x ∈ l, x.size ≤ 1000) : AP Try.prog 39 [.agg r.c, Strs l] (.b (mayB r && l.all (fitB r))) := by
  have e : l.all (fitB r) = !(l.any fun s => !fitB r s) := by
    clear hl hs
    induction l with
    | nil => rfl
    | cons x l ih => rw [List.all_cons, List.any_cons, ih]; simp
  rw [e]
  refine AC.lbody hT hm Try.func39 f39_nm f39_lc f39_res f39_nt ?_
  simp only [go_sem, Int.reduceEq, Int.reduceLE, Int.reduceLT, Int.reduceToNat]
  refine (may r hz).pv ⟨.eq (resB r) (by simp), trivial⟩ ?_
  cases hm0 : mayB r
  · simp only [go_sem, Int.reduceEq, Int.reduceLE, Int.reduceLT, Int.reduceToNat]
    exact Fin.v rfl
  simp only [go_sem, Int.reduceEq, Int.reduceLE, Int.reduceLT, Int.reduceToNat]
  have hcap : ∀ d ∈ [D.pel r.c], Bl 0 d := by intro d hd; rw [List.mem_singleton.1 hd]; exact .pel (by simp)
  refine (anyStC 64 [.pel r.c] hcap (fun s => !fitB r s) l hl fun x hx => fits_1 r hz hw x (hs x hx)).pv ⟨.same (by simp), .same (.fn hcap), trivial⟩ ?_
  simp only [go_sem, Int.reduceEq, Int.reduceLE, Int.reduceLT, Int.reduceToNat]
  exact Fin.v rfl
theorem mFits_1 (r : Re) (hz : r.sz ≤ 1099511627776) (hw : r.wd) (s : ByteArray) (hs : s.size ≤ 1000) : AP Try.prog 39 [.agg r.c, .sl 1 [[.s s]]] (.b (fitB r s)) := by
  have := mFits r hz hw [s] (by simp) (by intro x hx; rw [List.mem_singleton.1 hx]; exact hs)
  have e : (mayB r && [s].all (fitB r)) = fitB r s := by
    cases h : fitB r s
    · simp [h]
    · simp [h, ((fitB_iff r s).1 h).1]
  rw [e] at this
  exact this
end Go.Proofs.Yteifkcgokjmcjaa.W
