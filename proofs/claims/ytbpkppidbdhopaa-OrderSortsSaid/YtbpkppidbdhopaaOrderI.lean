/- Rows of expressions: each once, the first one. -/
import Derived.Test.YtbpkppidbdhopaaOrderH
set_option linter.unusedSectionVars false
set_option linter.unusedVariables false
set_option linter.unusedSimpArgs false
set_option maxRecDepth 100000
/- Rows of expressions: each once, the first one. -/
namespace Go.Proofs.Ytbpkppidbdhopaa.W
open Go Go.Proofs Go.Proofs.Ytbpkppidbdhopaa.AWP

theorem onceF (x y : Re) : AP Try.prog 30 [.agg y.c, .pel x.c] (.b (y.cmp x == 0)) := by
  refine AC.lbody hT hm Try.func30 f30_nm f30_lc f30_res f30_nt ?_
  simp only [go_sem]
  refine (two y x).pv (by simp) ?_
  simp only [go_sem]
  exact Fin.v rfl

def idxI (x : Re) : List Re → Nat → Int
  | [], _ => -1
  | y :: l, i => if y.cmp x = 0 then i else idxI x l (i + 1)
theorem idxI_any (x : Re) : ∀ (l : List Re) (i : Nat), decide (0 ≤ idxI x l i) = l.any fun y => y.same x
  | [], i => rfl
  | y :: l, i => by
    rw [idxI, List.any_cons, Re.same_cmp]
    split
    · rename_i h; simp [h]
    · rename_i h; rw [idxI_any x l (i + 1)]; simp [h]

theorem index (x : Re) (l : List Re) (hl : l.length ≤ 1000) : AP Try.prog 38 [Res l, .fn 30 [.pel x.c]] (.i (idxI x l 0)) := by
  refine AC.lbody hT hm Try.func38 f38_nm f38_lc f38_res f38_nt ?_
  simp only [go_sem]
  refine xl_loopM hT hm (fun i : Nat => ⟨f38_i7 (Res l) (.fn 30 [.pel x.c]) (.i l.length) (.i i), []⟩)
    (fun i => i ≤ l.length ∧ idxI x l 0 = idxI x (l.drop i) i) (fun i => l.length - i) 0 ⟨Nat.zero_le _, rfl⟩ (Mv.none (by simp [f38_i7])) ?_
  rintro i ⟨hi, hq⟩
  simp only [go_sem]
  by_cases h : i < l.length
  case neg =>
    simp only [go_sem, h]
    refine Fin.v ?_
    rw [hq, drop_end h]; rfl
  obtain ⟨y, hy⟩ := get_ex h
  simp only [go_sem, h, hy]
  refine (onceF x y).pv (by simp) ?_
  simp only [go_sem]
  by_cases hc : y.cmp x = 0
  · simp only [go_sem, hc]
    refine Fin.v ?_
    rw [hq, drop_get hy, idxI, if_pos hc]
  · simp only [go_sem, beq_false hc]
    refine ⟨i + 1, ⟨h, ?_⟩, by omega, ?_⟩
    · rw [hq, drop_get hy, idxI, if_neg hc]
    · rw [wrap_succ i (by omega)]
      exact Mv.none (by simp)

theorem contains (x : Re) (l : List Re) (hl : l.length ≤ 1000) : AP Try.prog 29 [Res l, .fn 30 [.pel x.c]] (.b (l.any fun y => y.same x)) := by
  refine AC.lbody hT hm Try.func29 f29_nm f29_lc f29_res f29_nt ?_
  simp only [go_sem]
  refine (index x l hl).pv (by simp) ?_
  simp only [go_sem]
  refine Fin.v ?_
  rw [← idxI_any x l 0]

theorem mv1 {l : List Re} {k : Nat} {om : List Ob} {F : Nat → Bool} (h : om[k]? = some (reOb l)) : MvL om F [some k] [some k] [reOb l] := ⟨.slcS h (Re.map_bl _), trivial⟩
theorem frzR {l : List Re} {k : Nat} {om : List Ob} (h : om[k]? = some (reOb l)) : Cv om (fun _ => true) [] (.own k) (Res l) := by
  show Cv om _ [] (.own k) (.sl 6 (Re.cs l))
  rw [Re.cs_eq]
  exact Cv.frzS h rfl (Re.map_bl _)

theorem once (l : List Re) (hl : l.length ≤ 1000) : AP Try.prog 14 [Res l] (Res (onceR l)) := by
  refine AC.lbody hT hm Try.func14 f14_nm f14_lc f14_res f14_nt ?_
  simp only [go_sem]
  refine xl_loopM hT hm (fun i : Nat => ⟨f14_i8 (.own 0) (Res l) (.i l.length) (.i i), [reOb (onceR (l.take i))]⟩)
    (fun i => i ≤ l.length) (fun i => l.length - i) 0 (Nat.zero_le _) (Mv.of [none] rfl ⟨.nil (by simp), trivial⟩ (by simp [f14_i8])) ?_
  intro i hi
  simp only [go_sem]
  by_cases h : i < l.length
  case neg =>
    simp only [go_sem, h]
    rw [List.take_of_length_le (by omega)]
    exact Fin.ret (frzR rfl)
  obtain ⟨x, hx⟩ := get_ex h
  have hlen := onceR_len (l.take i)
  simp at hlen
  simp only [go_sem, h, hx]
  refine (contains x (onceR (l.take i)) (by omega)).pv ⟨frzR rfl, .fnL ⟨.frvS0 rfl rfl x.c_bl, trivial⟩, trivial⟩ ?_
  have e : onceR (l.take (i + 1)) = onceStep (onceR (l.take i)) x := onceR_take hx
  cases hany : (onceR (l.take i)).any fun y => y.same x with
  | true =>
    simp only [go_sem]
    rw [wrap_succ i (by omega)]
    refine ⟨i + 1, h, by omega, ?_⟩
    rw [e, onceStep, if_pos hany]
    exact Mv.of [some 0] rfl (mv1 rfl) (by simp)
  | false =>
    simp only [go_sem]
    refine ⟨by omega, ?_⟩
    rw [wrap_succ i (by omega)]
    refine ⟨i + 1, h, by omega, ?_⟩
    rw [e, onceStep, if_neg (by simp [hany])]
    exact Mv.of [some 2] rfl (mv1 (by simp)) (by simp)

/-! ### The document's -/
theorem rIn (x : Re) (l : List Re) (hl : l.length ≤ 1000) : AP Try.prog 31 [Res l, .agg x.c] (.b (l.any fun y => y.same x)) := by
  refine AC.lbody hT hm Try.func31 f31_nm f31_lc f31_res f31_nt ?_
  simp only [go_sem]
  refine xl_loopM hT hm (fun i : Nat => ⟨f31_i7 (Res l) (.pel x.c) (.i l.length) (.i i), []⟩)
    (fun i => i ≤ l.length ∧ (l.any fun y => y.same x) = (l.drop i).any fun y => y.same x) (fun i => l.length - i) 0 ⟨Nat.zero_le _, rfl⟩ (Mv.none (by simp [f31_i7])) ?_
  rintro i ⟨hi, hq⟩
  simp only [go_sem]
  by_cases h : i < l.length
  case neg =>
    simp only [go_sem, h]
    refine Fin.v ?_
    rw [hq, drop_end h]; rfl
  obtain ⟨y, hy⟩ := get_ex h
  simp only [go_sem, h, hy]
  refine (same y x).pv (by simp) ?_
  cases hc : y.same x with
  | true =>
    simp only [go_sem]
    refine Fin.v ?_
    rw [hq, drop_get hy, List.any_cons, hc]; rfl
  | false =>
    simp only [go_sem]
    refine ⟨i + 1, ⟨h, ?_⟩, by omega, ?_⟩
    · rw [hq, drop_get hy, List.any_cons, hc]; rfl
    · rw [wrap_succ i (by omega)]
      exact Mv.none (by simp)

theorem rOnce (l : List Re) (hl : l.length ≤ 1000) : AP Try.prog 18 [Res l] (Res (onceR l)) := by
  refine AC.lbody hT hm Try.func18 f18_nm f18_lc f18_res f18_nt ?_
  simp only [go_sem]
  refine xl_loopM hT hm (fun i : Nat => ⟨f18_i8 (Res l) (.own 0) (.i l.length) (.i i), [reOb (onceR (l.take i))]⟩)
    (fun i => i ≤ l.length) (fun i => l.length - i) 0 (Nat.zero_le _) (Mv.of [some 0] rfl (mv1 rfl) (by simp [f18_i8])) ?_
  intro i hi
  simp only [go_sem]
  by_cases h : i < l.length
  case neg =>
    simp only [go_sem, h]
    rw [List.take_of_length_le (by omega)]
    exact Fin.ret (frzR rfl)
  obtain ⟨x, hx⟩ := get_ex h
  have hlen := onceR_len (l.take i)
  simp at hlen
  simp only [go_sem, h, hx]
  refine (rIn x (onceR (l.take i)) (by omega)).pv ⟨frzR rfl, by simp, trivial⟩ ?_
  have e : onceR (l.take (i + 1)) = onceStep (onceR (l.take i)) x := onceR_take hx
  cases hany : (onceR (l.take i)).any fun y => y.same x with
  | true =>
    simp only [go_sem]
    rw [wrap_succ i (by omega)]
    refine ⟨i + 1, h, by omega, ?_⟩
    rw [e, onceStep, if_pos hany]
    exact Mv.of [some 0] rfl (mv1 rfl) (by simp)
  | false =>
    simp only [go_sem, hx]
    refine ⟨by omega, ?_⟩
    rw [wrap_succ i (by omega)]
    refine ⟨i + 1, h, by omega, ?_⟩
    rw [e, onceStep, if_neg (by simp [hany])]
    exact Mv.of [some 1] rfl (mv1 (by simp)) (by simp)

theorem sameAll (a b : List Re) (ha : a.length ≤ 1000) : AP Try.prog 15 [Res a, Res b] (.b (Re.sames a b)) := by
  refine AC.lbody hT hm Try.func15 f15_nm f15_lc f15_res f15_nt ?_
  simp only [go_sem]
  by_cases h3 : (a.length : Int) = b.length
  case neg =>
    simp only [go_sem, bne_true h3]
    refine Fin.v ?_
    rw [Re.sames_len _ _ (by omega)]
  simp only [go_sem, h3]
  refine xl_loopM hT hm (fun i : Nat => ⟨f15_i9 (Res a) (Res b) (.i b.length) (.i i), []⟩)
    (fun i : Nat => i ≤ a.length ∧ Re.sames a b = Re.sames (a.drop i) (b.drop i)) (fun i => a.length - i) 0 ⟨Nat.zero_le _, rfl⟩ (Mv.none (by simp [f15_i9])) ?_
  rintro i ⟨q1, q3⟩
  simp only [go_sem]
  by_cases hi : i < b.length
  · obtain ⟨x, hxi⟩ := get_ex (l := a) (show i < a.length by omega)
    obtain ⟨y, hyi⟩ := get_ex hi
    simp only [go_sem, hi, hxi, hyi]
    refine (same x y).pv (by simp) ?_
    cases hs : x.same y with
    | true =>
      simp only [go_sem]
      refine ⟨i + 1, ⟨by omega, ?_⟩, by omega, ?_⟩
      · rw [q3, drop_get hxi, drop_get hyi, Re.sames, hs, Bool.true_and]
      · rw [wrap_succ i (by omega)]
        exact Mv.none (by simp)
    | false =>
      simp only [go_sem]
      refine Fin.v ?_
      rw [q3, drop_get hxi, drop_get hyi, Re.sames, hs, Bool.false_and]
  · simp only [go_sem, hi]
    refine Fin.v ?_
    rw [q3, drop_end hi, drop_end (show ¬ i < a.length by omega), Re.sames]

def gAll (m : Int) (l : List Re) : Bool := decide (20 < l.length) || l.any fun x => decide (m < x.cnt m)

theorem greatAll (m : Int) (l : List Re) : AP Try.prog 12 [Res l, .i m] (.b (gAll m l)) := by
  refine AC.lbody hT hm Try.func12 f12_nm f12_lc f12_res f12_nt ?_
  simp only [go_sem]
  by_cases h0 : (20 : Int) < l.length
  case pos =>
    simp only [go_sem, h0]
    refine Fin.v ?_
    simp [gAll, show 20 < l.length by omega]
  simp only [go_sem, h0]
  have e0 : gAll m l = l.any fun x => decide (m < x.cnt m) := by simp [gAll, show ¬ 20 < l.length by omega]
  rw [e0]
  refine xl_loopM hT hm (fun i : Nat => ⟨f12_i9 (Res l) (.i m) (.i l.length) (.i i), []⟩)
    (fun i => i ≤ l.length ∧ (l.any fun x => decide (m < x.cnt m)) = (l.drop i).any fun x => decide (m < x.cnt m)) (fun i => l.length - i) 0 ⟨Nat.zero_le _, rfl⟩ (Mv.none (by simp [f12_i9])) ?_
  rintro i ⟨hi, hq⟩
  simp only [go_sem]
  by_cases h : i < l.length
  case neg =>
    simp only [go_sem, h]
    refine Fin.v ?_
    rw [hq, drop_end h]; rfl
  obtain ⟨y, hy⟩ := get_ex h
  simp only [go_sem, h, hy]
  refine (great m y).pv (by simp) ?_
  simp only [go_sem]
  by_cases hc : m < y.cnt m
  · simp only [go_sem, hc]
    refine Fin.v ?_
    rw [hq, drop_get hy, List.any_cons]; simp [hc]
  · simp only [go_sem, hc]
    refine ⟨i + 1, ⟨h, ?_⟩, by omega, ?_⟩
    · rw [hq, drop_get hy, List.any_cons]; simp [hc]
    · rw [wrap_succ i (by omega)]
      exact Mv.none (by simp)
end Go.Proofs.Ytbpkppidbdhopaa.W
