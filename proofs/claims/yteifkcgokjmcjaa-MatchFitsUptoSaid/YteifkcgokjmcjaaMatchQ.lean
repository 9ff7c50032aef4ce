/- Whether any expression fits any texts, and which of some fits one. -/
import Derived.Test.YteifkcgokjmcjaaMatchP
set_option linter.unusedVariables false
set_option linter.unusedSimpArgs false
set_option linter.unusedSectionVars false
set_option maxRecDepth 100000
/- Whether any expression fits any texts, and which of some fits one. -/
namespace Go.Proofs.Yteifkcgokjmcjaa.W
open Go Go.Proofs Go.Proofs.Yteifkcgokjmcjaa.AWP
attribute [local irreducible] xl hide aop aops aopQ qops guardP condP

theorem any_1 (r : Re) (hz : r.sz ≤ 1099511627776) (hw : r.wd) (s : ByteArray) (hs : s.size ≤ 1000) : AP Try.prog 67 [.agg r.c, .pel [.s s]] (.b (fitB r s)) := by
  refine AC.lbody hT hm Try.func67 f67_nm f67_lc f67_res f67_nt ?_
  simp only [go_sem, Int.reduceEq, Int.reduceLE, Int.reduceLT, Int.reduceToNat]
  refine (mFits1 r hz hw s hs).pv ⟨.same (Re.d_bl _), .v, trivial⟩ ?_
  simp only [go_sem, Int.reduceEq, Int.reduceLE, Int.reduceLT, Int.reduceToNat]
  exact Fin.v rfl
/-- The first one that fits. -/
noncomputable def anyI (l : List Re) (s : ByteArray) : Int × Bool := match l.findIdx? (fun r => fitB r s) with
  | some i => (i, true)
  | none => (0, false)
theorem mAny (l : List Re) (hl : l.length ≤ 1000000) (hz : ∀ r ∈ l, r.sz ≤ 1099511627776) (hw : ∀ r ∈ l, r.wd) (s : ByteArray) (hs : s.size ≤ 1000) : AP Try.prog 40 [.s s, Res l] (.tup [.i (anyI l s).1, .b (anyI l s).2]) := by
  have hcap : ∀ d ∈ [D.pel [.s s]], Bl 0 d := by intro d hd; rw [List.mem_singleton.1 hd]; exact .pel (by simp)
  have c1 := idxReC 67 [.pel [.s s]] hcap (fun r => fitB r s) l (by omega) fun x hx => any_1 x (hz x hx) (hw x hx) s hs
  have e : anyI l s = (if idxI (fun r => fitB r s) l > 0 then idxI (fun r => fitB r s) l else 0, decide (0 ≤ idxI (fun r => fitB r s) l)) := by
    unfold anyI idxI
    cases l.findIdx? (fun r => fitB r s) with
    | none => rfl
    | some i =>
      show ((i : Int), true) = (if (i : Int) > 0 then (i : Int) else 0, decide (0 ≤ (i : Int)))
      rw [decide_eq_true (by omega)]
      split
      · rfl
      · congr 1; omega
  rw [e]
  generalize idxI (fun r => fitB r s) l = n at c1 ⊢
  refine AC.lbody hT hm Try.func40 f40_nm f40_lc f40_res f40_nt ?_
  simp only [go_sem, Int.reduceEq, Int.reduceLE, Int.reduceLT, Int.reduceToNat]
  refine c1.pv ⟨.same (by simp), .same (.fn hcap), trivial⟩ ?_
  simp only [go_sem, Int.reduceEq, Int.reduceLE, Int.reduceLT, Int.reduceToNat]
  exact Fin.ret (.same (tupIB _ _))
theorem rAny (l : List Re) (hl : l.length ≤ 1000000) (hz : ∀ r ∈ l, r.sz ≤ 1099511627776) (hw : ∀ r ∈ l, r.wd) (s : ByteArray) (hs : s.size ≤ 1000) : AP Try.prog 41 [.s s, Res l] (.tup [.i (anyI l s).1, .b (anyI l s).2]) := by
  refine AC.lbody hT hm Try.func41 f41_nm f41_lc f41_res f41_nt ?_
  simp only [go_sem, Int.reduceEq, Int.reduceLE, Int.reduceLT, Int.reduceToNat]
  refine xl_loopM hT hm (fun i : Nat => ⟨f41_i7 (.s s) (Res l) (.i l.length) (.i i), []⟩)
    (fun i => i ≤ l.length ∧ ∀ j x, j < i → l[j]? = some x → fitB x s = false) (fun i => l.length - i) 0 ⟨Nat.zero_le _, fun j x h => absurd h (Nat.not_lt_zero _)⟩ (Mv.none (by simp [f41_i7])) ?_
  rintro i ⟨hi, hn⟩
  simp only [go_sem, Int.reduceEq, Int.reduceLE, Int.reduceLT, Int.reduceToNat]
  by_cases h : i < l.length
  case neg =>
    simp only [go_sem, Int.reduceEq, Int.reduceLE, Int.reduceLT, Int.reduceToNat, h]
    have : l.findIdx? (fun r => fitB r s) = none := by
      rw [List.findIdx?_eq_none_iff]
      intro x hx
      obtain ⟨j, hj⟩ := List.getElem?_of_mem hx
      exact hn j x (by have := (List.getElem?_eq_some_iff.1 hj).1; omega) hj
    unfold anyI
    rw [this]
    exact Fin.ret (.same (tupIB _ _))
  obtain ⟨x, hx⟩ := get_ex h
  simp only [go_sem, Int.reduceEq, Int.reduceLE, Int.reduceLT, Int.reduceToNat, h, hx]
  refine (rFits x (hz x (List.mem_of_getElem? hx)) (hw x (List.mem_of_getElem? hx)) s hs).pv ⟨.same (by simp), .v, trivial⟩ ?_
  cases hp : fitB x s
  case true =>
    simp only [go_sem, Int.reduceEq, Int.reduceLE, Int.reduceLT, Int.reduceToNat]
    have : l.findIdx? (fun r => fitB r s) = some i := by
      rw [List.findIdx?_eq_some_iff_getElem]
      obtain ⟨hlt, hxe⟩ := List.getElem?_eq_some_iff.1 hx
      refine ⟨hlt, by rw [hxe]; exact hp, fun j hji => ?_⟩
      have := hn j l[j] hji (List.getElem?_eq_getElem (by omega))
      simp [this]
    unfold anyI
    rw [this]
    exact Fin.ret (.same (tupIB _ _))
  simp only [go_sem, Int.reduceEq, Int.reduceLE, Int.reduceLT, Int.reduceToNat]
  rw [wrap_succ i (by omega)]
  refine ⟨i + 1, ⟨h, fun j y hj hy => ?_⟩, by omega, Mv.none (by simp)⟩
  by_cases e : j = i
  · subst e; rw [hx] at hy; cases hy; exact hp
  · exact hn j y (by omega) hy
abbrev sts (l : List ByteArray) : List (List D) := l.map fun x => [.s x]
theorem sts_get {l : List ByteArray} {i : Nat} {x : ByteArray} (h : l[i]? = some x) : (sts l)[i]? = some [.s x] := by simp [sts, h]
theorem Strs_bl (l : List ByteArray) : Bl 0 (Strs l) := by simp
theorem rFitsL (r : Re) (hz : r.sz ≤ 1099511627776) (hw : r.wd) (l : List ByteArray) (hl : l.length ≤ 1000000) (hs : ∀ x ∈ l, x.size ≤ 1000) : AP Try.prog 42 [.agg r.c, Strs l] (.b (mayB r && l.all (fitB r))) := by
  have hq : ∀ om (ks : List (Option Nat)), Cv om (fun _ => true) ks (Strs l) (Strs l) := fun om ks => .same (Strs_bl l)
  have hqr : ∀ om (ks : List (Option Nat)), Cv om (fun _ => true) ks (.pel r.c) (.pel r.c) := fun om ks => .same (.pel (by simp))
  refine AC.lbody hT hm Try.func42 f42_nm f42_lc f42_res f42_nt ?_
  simp only [go_sem, Int.reduceEq, Int.reduceLE, Int.reduceLT, Int.reduceToNat, List.length_map]
  refine xl_loopM hT hm (fun i : Nat => ⟨f42_i7 (Strs l) (.pel r.c) (.i l.length) (.i i), []⟩)
    (fun i => i ≤ l.length ∧ ∀ j x, j < i → l[j]? = some x → fitB r x = true) (fun i => l.length - i) 0 ⟨Nat.zero_le _, fun j x h => absurd h (Nat.not_lt_zero _)⟩ (Mv.none (by simp [f42_i7, hq, hqr])) ?_
  rintro i ⟨hi, hn⟩
  simp only [go_sem, Int.reduceEq, Int.reduceLE, Int.reduceLT, Int.reduceToNat]
  by_cases h : i < l.length
  case neg =>
    have : l.all (fitB r) = true := by
      rw [List.all_eq_true]
      intro x hx
      obtain ⟨j, hj⟩ := List.getElem?_of_mem hx
      exact hn j x (by have := (List.getElem?_eq_some_iff.1 hj).1; omega) hj
    rw [this, Bool.and_true]
    simp only [go_sem, Int.reduceEq, Int.reduceLE, Int.reduceLT, Int.reduceToNat, h]
    refine (rMay r hz).pv ⟨.same (Re.d_bl _), trivial⟩ ?_
    simp only [go_sem, Int.reduceEq, Int.reduceLE, Int.reduceLT, Int.reduceToNat]
    exact Fin.v rfl
  obtain ⟨x, hx⟩ := get_ex h
  have hg := sts_get hx
  simp only [go_sem, Int.reduceEq, Int.reduceLE, Int.reduceLT, Int.reduceToNat, h, hx, hg]
  refine (rFits r hz hw x (hs x (List.mem_of_getElem? hx))).pv ⟨.same (by simp), .v, trivial⟩ ?_
  cases hp : fitB r x
  case false =>
    have : l.all (fitB r) = false := by
      rw [List.all_eq_false]
      exact ⟨x, List.mem_of_getElem? hx, by simp [hp]⟩
    rw [this, Bool.and_false]
    simp only [go_sem, Int.reduceEq, Int.reduceLE, Int.reduceLT, Int.reduceToNat, Bool.not_false]
    exact Fin.v rfl
  simp only [go_sem, Int.reduceEq, Int.reduceLE, Int.reduceLT, Int.reduceToNat, Bool.not_true]
  rw [wrap_succ i (by omega)]
  refine ⟨i + 1, ⟨h, fun j y hj hy => ?_⟩, by omega, Mv.none (by simp [hq, hqr])⟩
  by_cases e : j = i
  · subst e; rw [hx] at hy; cases hy; exact hp
  · exact hn j y (by omega) hy
theorem gAll_sz {l : List Re} (hz : ∀ x ∈ l, x.sz ≤ 1048576) (h : gAll 60 l = false) : ∀ x ∈ l, x.sz ≤ 60 := by
  intro x hx
  simp only [gAll, Bool.or_eq_false_iff, List.any_eq_false, decide_eq_true_eq] at h
  have h1 := h.2 x hx
  have := hz x hx
  have h2 := cnt_sz 60 (by omega) x (by omega) (by omega)
  omega

set_option maxHeartbeats 2000000 in
theorem matchFits (r : Re) (l : List ByteArray) (some_ : List Re) (hz : r.sz ≤ 1048576) (hw : r.wd) (hzs : ∀ x ∈ some_, x.sz ≤ 1048576) (hws : ∀ x ∈ some_, x.wd) : AP Try.prog 12 [.agg r.c, Strs l, Res some_] (.b true) := by
  have hq : ∀ om F (ks : List (Option Nat)), Cv om F ks (Strs l) (Strs l) := fun om F ks => .same (Strs_bl l)
  have hqr : ∀ om F (ks : List (Option Nat)), Cv om F ks (.pel r.c) (.pel r.c) := fun om F ks => .same (.pel (by simp))
  refine AC.lbody hT hm Try.func12 f12_nm f12_lc f12_res f12_nt ?_
  simp only [go_sem, Int.reduceEq, Int.reduceLE, Int.reduceLT, Int.reduceToNat]
  refine (great 60 r).pv ⟨.same (Re.d_bl _), .v, trivial⟩ ?_
  by_cases hg : 60 < r.cnt 60
  · simp only [go_sem, Int.reduceEq, Int.reduceLE, Int.reduceLT, Int.reduceToNat, hg]
    refine awake10.pv trivial ?_
    simp only [go_sem, Int.reduceEq, Int.reduceLE, Int.reduceLT, Int.reduceToNat]
    exact Fin.v rfl
  simp only [go_sem, Int.reduceEq, Int.reduceLE, Int.reduceLT, Int.reduceToNat, hg]
  refine (greatAll 60 some_).pv (by simp) ?_
  cases hga : gAll 60 some_
  case true =>
    simp only [go_sem, Int.reduceEq, Int.reduceLE, Int.reduceLT, Int.reduceToNat]
    refine awake10.pv trivial ?_
    simp only [go_sem, Int.reduceEq, Int.reduceLE, Int.reduceLT, Int.reduceToNat]
    exact Fin.v rfl
  simp only [go_sem, Int.reduceEq, Int.reduceLE, Int.reduceLT, Int.reduceToNat, List.length_map]
  by_cases hl : (10 : Int) < l.length
  · simp only [go_sem, Int.reduceEq, Int.reduceLE, Int.reduceLT, Int.reduceToNat, hl]
    refine awake10.pv trivial ?_
    simp only [go_sem, Int.reduceEq, Int.reduceLE, Int.reduceLT, Int.reduceToNat]
    exact Fin.v rfl
  have hsz := gAll_sz hzs hga
  have hlen := gAll_len hga
  simp only [go_sem, Int.reduceEq, Int.reduceLE, Int.reduceLT, Int.reduceToNat, hl]
  refine xl_loopM hT hm (fun i : Nat => ⟨f12_i12 (Strs l) (Res some_) (.pel r.c) (.i i), []⟩)
    (fun i => i ≤ l.length ∧ ∀ j x, j < i → l[j]? = some x → x.size ≤ 20) (fun i => l.length - i) 0 ⟨Nat.zero_le _, fun j x h => absurd h (Nat.not_lt_zero _)⟩ (Mv.none (by simp [f12_i12, hq, hqr])) ?_
  rintro i ⟨hi, hn⟩
  simp only [go_sem, Int.reduceEq, Int.reduceLE, Int.reduceLT, Int.reduceToNat, List.length_map]
  by_cases h : i < l.length
  case neg =>
    have hs : ∀ x ∈ l, x.size ≤ 1000 := by
      intro x hx
      obtain ⟨j, hj⟩ := List.getElem?_of_mem hx
      have := hn j x (by have := (List.getElem?_eq_some_iff.1 hj).1; omega) hj
      omega
    simp only [go_sem, Int.reduceEq, Int.reduceLE, Int.reduceLT, Int.reduceToNat, h]
    refine (mFits r (by omega) hw l (by omega) hs).qv ⟨.same (by simp), .same (by simp), trivial⟩ ?_
    simp only [go_sem, Int.reduceEq, Int.reduceLE, Int.reduceLT, Int.reduceToNat]
    refine (rFitsL r (by omega) hw l (by omega) hs).pv ⟨.same (by simp), .same (by simp), trivial⟩ ?_
    simp only [go_sem, Int.reduceEq, Int.reduceLE, Int.reduceLT, Int.reduceToNat, beq_self_eq_true]
    refine awake10.pv trivial ?_
    simp only [go_sem, Int.reduceEq, Int.reduceLE, Int.reduceLT, Int.reduceToNat]
    exact Fin.v rfl
  obtain ⟨x, hx⟩ := get_ex h
  have hg2 := sts_get hx
  by_cases h20 : (20 : Int) < x.size
  · simp only [go_sem, Int.reduceEq, Int.reduceLE, Int.reduceLT, Int.reduceToNat, h, hx, hg2, h20]
    refine awake10.pv trivial ?_
    simp only [go_sem, Int.reduceEq, Int.reduceLE, Int.reduceLT, Int.reduceToNat]
    exact Fin.v rfl
  have c1 := mAny some_ (by omega) (fun y hy => by have := hsz y hy; omega) hws x (by omega)
  have c2 := rAny some_ (by omega) (fun y hy => by have := hsz y hy; omega) hws x (by omega)
  generalize anyI some_ x = y at c1 c2
  simp only [go_sem, Int.reduceEq, Int.reduceLE, Int.reduceLT, Int.reduceToNat, h, hx, hg2, h20]
  refine c1.pd ⟨.v, .same (by simp), trivial⟩ (tupIB _ _) ?_
  simp only [go_sem, Int.reduceEq, Int.reduceLE, Int.reduceLT, Int.reduceToNat, h, hx, hg2]
  refine c2.pd ⟨.v, .same (by simp), trivial⟩ (tupIB _ _) ?_
  simp only [go_sem, Int.reduceEq, Int.reduceLE, Int.reduceLT, Int.reduceToNat, bne_self_eq_false]
  rw [wrap_succ i (by omega)]
  refine ⟨i + 1, ⟨h, fun j z hj hz' => ?_⟩, by omega, Mv.none (by simp [hq, hqr])⟩
  by_cases e : j = i
  · subst e; rw [hx] at hz'; cases hz'; omega
  · exact hn j z (by omega) hz'
end Go.Proofs.Yteifkcgokjmcjaa.W
