/- Sorting in place. -/
import Derived.Test.YtbpkppidbdhopaaOrderF
import Derived.Test.YtbpkppidbdhopaaOrdMath
set_option linter.unusedSectionVars false
set_option linter.unusedVariables false
set_option linter.unusedSimpArgs false
set_option maxRecDepth 100000
/- Sorting in place. -/
namespace Go.Proofs.Ytbpkppidbdhopaa.W
open Go Go.Proofs Go.Proofs.Ytbpkppidbdhopaa.AWP

abbrev reOb (l : List Re) : Ob := .slc 27 6 (l.map Re.c)

theorem get0 {α : Type} (P : List α) (u : α) (Q : List α) : (P ++ u :: Q)[P.length]? = some u := by simp
theorem get1 {α : Type} (P : List α) (u v : α) (Q : List α) : (P ++ u :: v :: Q)[P.length + 1]? = some v := by
  rw [List.getElem?_append_right (by omega)]; simp
theorem set1 {α : Type} (P : List α) (u v w : α) (Q : List α) : (P ++ u :: v :: Q).set (P.length + 1) w = P ++ u :: w :: Q := by
  rw [List.set_append_right _ _ (by omega)]; simp
theorem set0 {α : Type} (P : List α) (u w : α) (Q : List α) : (P ++ u :: Q).set P.length w = P ++ w :: Q := by
  rw [List.set_append_right _ _ (by omega)]; simp

theorem all6 (l : List Re) : ∀ r ∈ l.map Re.c, r.length = 6 := by
  intro r hr
  obtain ⟨x, _, rfl⟩ := List.mem_map.1 hr
  simp
theorem put1 (ty : Nat) (A C : List Re) (u v w : Re) : obPut (.slc ty 6 ((A ++ u :: v :: C).map Re.c)) ((A.length + 1) * 6) w.c = some (.slc ty 6 ((A ++ u :: w :: C).map Re.c)) := by
  rw [obPut_slc (by simp) (all6 _) (by simp)]
  congr 2
  rw [← List.map_set, set1]
theorem put0 (ty : Nat) (A C : List Re) (u w : Re) : obPut (.slc ty 6 ((A ++ u :: C).map Re.c)) (A.length * 6) w.c = some (.slc ty 6 ((A ++ w :: C).map Re.c)) := by
  rw [obPut_slc (by simp) (all6 _) (by simp)]
  congr 2
  rw [← List.map_set, set0]

theorem mv_re {l : List Re} {F : Nat → Bool} : MvL [reOb l] F [some 0] [some 0] [reOb l] := ⟨.slcS rfl (by simp), trivial⟩

theorem isortNop (l : List Re) (n : Nat) (hn : n < 9223372036854775807) : AC Try.prog 42 [.own 0, .i n, .i n, .fn 9 []] [reOb l] (fun o om' => o = .ret (.tup []) ∧ om' = [reOb l]) := by
  refine AC.lbody hT hm Try.func42 f42_nm f42_lc f42_res f42_nt ?_
  simp only [go_sem, List.length_singleton]
  refine xl_loopM hT hm (fun _ : Unit => ⟨f42_i8 (.own 0) (.i n) (.i n) (.fn 9 []) (.i ((n + 1 : Nat) : Int)), [reOb l]⟩)
    (fun _ => True) (fun _ => 0) () trivial ?_ ?_
  · rw [wrap_succ n (by omega)]
    exact Mv.of [some 0] rfl (by simp) (by simp [f42_i8])
  rintro _ _
  have h1 : ¬ ((n + 1 : Nat) : Int) < n := by omega
  simp only [go_sem, h1]
  exact Fin.mv [some 0] rfl (by simp) (by simp) ⟨rfl, rfl⟩

theorem isort (l : List Re) (hl : l.length < 9223372036854775806) : AC Try.prog 42 [.own 0, .i 0, .i l.length, .fn 9 []] [reOb l] (fun o om' => o = .ret (.tup []) ∧ om' = [reOb (sortR l)]) := by
  refine AC.lbody hT hm Try.func42 f42_nm f42_lc f42_res f42_nt ?_
  simp only [go_sem, List.length_singleton]
  refine xl_loopM hT hm (fun i : Nat => ⟨f42_i8 (.own 0) (.i 0) (.i l.length) (.fn 9 []) (.i (i + 1 : Nat)), [reOb (sortR (l.take (i + 1)) ++ l.drop (i + 1))]⟩)
    (fun i => True) (fun i => l.length - i) 0 trivial ?_ ?_
  · have e : sortR (l.take 1) ++ l.drop 1 = l := by
      cases l with
      | nil => rfl
      | cons x l => simp [sortR, insR]
    refine Mv.of [some 0] rfl ?_ ?_
    · rw [e]; simp
    · simp [f42_i8]; rfl
  rintro i _
  simp only [go_sem]
  by_cases hi : i + 1 < l.length
  case neg =>
    simp only [go_sem, hi]
    refine Fin.mv [some 0] rfl ?_ (by simp) ⟨rfl, rfl⟩
    rw [List.take_of_length_le (by omega), List.drop_of_length_le (by omega), List.append_nil]
    simp
  obtain ⟨x, hx⟩ := get_ex hi
  simp only [go_sem, hi]
  have hS := sortR_sorted (l.take (i + 1))
  have hSl : (sortR (l.take (i + 1))).length = i + 1 := by rw [sortR_len]; simp; omega
  generalize hSg : sortR (l.take (i + 1)) = S at hS hSl
  refine xl_loopM hT hm (fun j : List Re × List Re => ⟨f42_i6 (.own 0) (.i 0) (.i l.length) (.fn 9 []) (.i (i + 1 : Nat)) (.i j.1.length), [reOb (j.1 ++ x :: (j.2 ++ l.drop (i + 1 + 1)))]⟩)
    (fun j => j.1 ++ j.2 = S ∧ ∀ y ∈ j.2.head?, x.cmp y < 0) (fun j => j.1.length) (S, []) ⟨by simp, by simp⟩ ?_ ?_
  · rw [drop_get hx]
    exact Mv.of [some 0] rfl mv_re (by simp [f42_i6, hSl])
  rintro ⟨A, B⟩ ⟨hAB, hB⟩
  simp only at hAB hB
  have hA : A = [] ∨ ∃ A' y, A = A' ++ [y] := by
    rcases List.eq_nil_or_concat A with h | ⟨A', y, h⟩
    · exact .inl h
    · exact .inr ⟨A', y, by rw [h, List.concat_eq_append]⟩
  rcases hA with rfl | ⟨A, y, rfl⟩
  · have h0 : decide ((0 : Int) < ((0 : Nat) : Int)) = false := rfl
    simp only [go_sem]
    simp only [go_sem, List.length_nil, h0]
    have e : IntKind.i64.wrap (((i + 1 : Nat) : Int) + 1) = ((i + 1 + 1 : Nat) : Int) := wrap_succ (i + 1) (by omega)
    rw [e]
    refine ⟨i + 1, by omega, ?_⟩
    have e2 : sortR (l.take (i + 1 + 1)) = x :: B := by
      rw [sortR_take hx, hSg, ← hAB]
      exact insR_split (p := []) (by simp) hB
    rw [e2]
    exact Mv.of [some 0] rfl mv_re (by simp)
  have hpos : decide ((0 : Int) < ((A.length + 1 : Nat) : Int)) = true := by simp; try omega
  have hsub : IntKind.i64.wrap (((A.length + 1 : Nat) : Int) - 1) = ((A.length : Nat) : Int) := by
    rw [wrap_int _ (by omega) (by simp at hAB; have := congrArg List.length hAB; simp at this; omega)]; omega
  have hL : (A ++ [y]) ++ x :: (B ++ l.drop (i + 1 + 1)) = A ++ y :: x :: (B ++ l.drop (i + 1 + 1)) := by simp
  have hlen : (A ++ [y]).length = A.length + 1 := by simp
  dsimp only
  rw [hL, hlen]
  simp only [go_sem]
  simp only [go_sem, List.length_nil, hpos, hsub, get0, get1]
  refine (two x y).pv (by simp) ?_
  simp only [go_sem]
  by_cases hc : x.cmp y < 0
  case neg =>
    simp only [go_sem, hc]
    have e : IntKind.i64.wrap (((i + 1 : Nat) : Int) + 1) = ((i + 1 + 1 : Nat) : Int) := wrap_succ (i + 1) (by omega)
    rw [e]
    refine ⟨i + 1, by omega, ?_⟩
    have e2 : sortR (l.take (i + 1 + 1)) ++ l.drop (i + 1 + 1) = A ++ y :: x :: (B ++ l.drop (i + 1 + 1)) := by
      rw [sortR_take hx, hSg, ← hAB, insR_split ?_ hB]
      · simp
      · intro z hz
        rw [Re.not_lt]
        have hyx : y.le x := Re.not_lt.1 hc
        rcases List.mem_append.1 hz with hz | hz
        · rw [← hAB, List.append_assoc] at hS
          exact Re.le_trans ((List.pairwise_append.1 hS).2.2 z hz y (by simp)) hyx
        · rw [List.mem_singleton.1 hz]; exact hyx
    rw [e2]
    exact Mv.of [some 0] rfl mv_re (by simp)
  simp only [go_sem, hc, hsub, get0, get1, put1, put0]
  refine ⟨(A, y :: B), ⟨by simpa using hAB, by simpa using hc⟩, by simp, ?_⟩
  exact Mv.of [some 0] rfl mv_re (by simp)

theorem stable (l : List Re) (hl : l.length ≤ 20) : AC Try.prog 41 [.own 0, .i l.length, .fn 9 []] [reOb l] (fun o om' => o = .ret (.tup []) ∧ om' = [reOb (sortR l)]) := by
  refine AC.lbody hT hm Try.func41 f41_nm f41_lc f41_res f41_nt ?_
  simp only [go_sem, List.length_singleton]
  refine xl_loopM hT hm (fun i : Nat => ⟨f41_i6 (.own 0) (.i l.length) (.fn 9 []) (.i 20) (.i (i * 20 : Nat)) (.i (i * 20 + 20 : Nat)), [reOb (if i = 0 then l else sortR l)]⟩)
    (fun i => i = 0 ∨ (i = 1 ∧ l.length = 20)) (fun i => 1 - i) 0 (.inl rfl) ?_ ?_
  · exact Mv.of [some 0] rfl mv_re (by simp [f41_i6])
  rintro i (rfl | ⟨rfl, h20⟩)
  · simp only [go_sem]
    by_cases h : l.length = 20
    · have h1 : decide (20 ≤ l.length) = true := by simp [h]
      simp only [go_sem, h1]
      have e := isort l (by omega)
      rw [h] at e
      refine ⟨_, e, ?_⟩
      rintro _ _ ⟨rfl, rfl⟩
      simp only [go_sem]
      refine ⟨1, .inr ⟨rfl, h⟩, by omega, ?_⟩
      exact Mv.of [some 0] rfl mv_re (by simp; rfl)
    · have h1 : decide (20 ≤ l.length) = false := by simp; omega
      simp only [go_sem, h1]
      refine ⟨_, isort l (by omega), ?_⟩
      rintro _ _ ⟨rfl, rfl⟩
      simp only [go_sem]
      refine xl_loopM hT hm (fun _ : Unit => ⟨f41_i19 (.own 0) (.i l.length) (.fn 9 []) (.i 20), [reOb (sortR l)]⟩) (fun _ => True) (fun _ => 0) () trivial
        (Mv.of [some 0] rfl mv_re (by simp [f41_i19])) ?_
      rintro _ _
      have h2 : decide ((20 : Int) < (l.length : Int)) = false := by simp; omega
      simp only [go_sem]
      simp only [go_sem, h2]
      exact Fin.mv [some 0] rfl mv_re (by simp) ⟨rfl, rfl⟩
  · simp only [go_sem]
    have h1 : decide (40 ≤ l.length) = false := by simp; omega
    simp only [go_sem, h1]
    have e := isortNop (sortR l) 20 (by omega)
    rw [h20]
    refine ⟨_, e, ?_⟩
    rintro _ _ ⟨rfl, rfl⟩
    simp only [go_sem]
    rw [← h20]
    refine xl_loopM hT hm (fun _ : Unit => ⟨f41_i19 (.own 0) (.i l.length) (.fn 9 []) (.i 20), [reOb (sortR l)]⟩) (fun _ => True) (fun _ => 0) () trivial
      (Mv.of [some 0] rfl mv_re (by simp [f41_i19])) ?_
    rintro _ _
    have h2 : decide ((20 : Int) < (l.length : Int)) = false := by simp; omega
    simp only [go_sem]
    simp only [go_sem, h2]
    exact Fin.mv [some 0] rfl mv_re (by simp) ⟨rfl, rfl⟩
end Go.Proofs.Ytbpkppidbdhopaa.W
