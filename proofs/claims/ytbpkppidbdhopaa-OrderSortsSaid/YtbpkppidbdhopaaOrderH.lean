/- A row of expressions collected out of a row's values; sorted. -/
import Derived.Test.YtbpkppidbdhopaaOrderG
set_option linter.unusedSectionVars false
set_option linter.unusedVariables false
set_option linter.unusedSimpArgs false
set_option maxRecDepth 100000
/- A row of expressions collected out of a row's values; sorted. -/
namespace Go.Proofs.Ytbpkppidbdhopaa.W
open Go Go.Proofs Go.Proofs.Ytbpkppidbdhopaa.AWP

abbrev SEQ : Nat := 40
abbrev VAL : Nat := 37
/-- The slots of AppendSeq where its loop begins. -/
abbrev seqE (l : List Re) : List D := [.v (.slice none 0 0), .fn VAL [.pel [Res l]], .ref 0 0, .any, .v (.slice none 0 0), .any, .fn VAL [.pel [Res l]], .any, .any, .any, .any, .any, .any, .any, .any]

theorem getL (L : List Re) (u : List D) : (L.map Re.c ++ [u])[L.length]? = some u := by
  rw [List.getElem?_append_right (by simp)]; simp
theorem putL (ty : Nat) (L : List Re) (u : List D) (x : Re) (hu : u.length = 6) : obPut (.slc ty 6 (L.map Re.c ++ [u])) (L.length * 6) x.c = some (.slc ty 6 ((L ++ [x]).map Re.c)) := by
  rw [obPut_slc (by simp) (fun r hr => ?_) (by simp)]
  · congr 2
    rw [List.set_append_right _ _ (by simp)]
    simp
  · rcases List.mem_append.1 hr with h | h
    · exact all6 L r h
    · rw [List.mem_singleton.1 h]; exact hu

theorem seqRound {ca cb : Code} (ha : lc ca = f40_a4.st) (hb : lc cb = f40_b4.st) (l0 L : List Re) (x : Re) (z : List D) (hz : ∀ d ∈ z, Bl 0 d) (hL : L.length ≤ 1000) :
    AY Try.prog 1 [.agg x.c] [.var 25 [.own 2], .lp #[7] ca cb .ready none (seqE l0), reOb L, .var 27 z]
      (fun o om' => o = .ret (.b true) ∧ om' = [.var 25 [.own 4], .lp #[7] ca cb .ready none (seqE l0), .dead, .var 27 z, reOb (L ++ [x])]) := by
  refine AY.walk hT hm ha hb rfl rfl rfl ?_
  simp only [go_sem]
  refine ⟨by omega, ?_⟩
  simp only [go_sem, getL, putL]
  have fin : Fin [.var 25 [.own 2], .lp #[7] ca cb .ready none (seqE l0), reOb L, .var 27 z]
      [.var 25 [.own 5], .lp #[7] ca cb .ready none (seqE l0), .dead, .var 27 z, .var 27 x.c, reOb (L ++ [x])] (.ret (.b true))
      (fun o om' => o = .ret (.b true) ∧ om' = [.var 25 [.own 4], .lp #[7] ca cb .ready none (seqE l0), .dead, .var 27 z, reOb (L ++ [x])]) :=
    Fin.mv (om' := [.var 25 [.own 4], .lp #[7] ca cb .ready none (seqE l0), .dead, .var 27 z, reOb (L ++ [x])]) [some 0, some 1, some 2, some 3, some 5] rfl ⟨.varL rfl (by simp), .lpL rfl (by simp), .deadE (by simp), .varS rfl hz, .slcS rfl (Re.map_bl _), trivial⟩ .v ⟨rfl, rfl⟩
  exact ⟨⟨fin, fin⟩, fin⟩

theorem values1 {ca cb : Code} (ha : lc ca = (f40_a4).st) (hb : lc cb = (f40_b4).st) (l : List Re) (hl : l.length ≤ 1000) :
    AC Try.prog VAL [.yld 1, .pel [Res l]] [.var 25 [.v (.slice none 0 0)], .lp #[7] ca cb .ready none (seqE l)]
      (fun o om' => o = .ret (.tup []) ∧ om' = [.var 25 [.own 2], .lp #[7] ca cb .ready none (seqE l), reOb l]) := by
  refine AC.lbody hT hm Try.func37 f37_nm f37_lc f37_res f37_nt ?_
  simp only [go_sem]
  refine xl_loopM hT hm (fun i : Nat => ⟨f37_i5 (.yld 1) (Res l) (.i l.length) (.i i), [.var 25 [.own 2], .lp #[7] ca cb .ready none (seqE l), reOb (l.take i)]⟩)
    (fun i => i ≤ l.length) (fun i => l.length - i) 0 (Nat.zero_le _) ?_ ?_
  · exact Mv.of [some 0, some 1, none] rfl ⟨.varL rfl (by simp), .lpL rfl (by simp), .nil (by simp), trivial⟩ (by simp [f37_i5])
  intro i hi
  simp only [go_sem]
  by_cases h : i < l.length
  case neg =>
    simp only [go_sem, h]
    rw [List.take_of_length_le (by omega)]
    exact Fin.mv (om' := [.var 25 [.own 2], .lp #[7] ca cb .ready none (seqE l), reOb l]) [some 0, some 1, some 2] rfl ⟨.varL rfl (by simp), .lpL rfl (by simp), .slcS rfl (Re.map_bl _), trivial⟩ (by simp) ⟨rfl, rfl⟩
  obtain ⟨x, hx⟩ := get_ex h
  simp only [go_sem, h, hx]
  refine ⟨_, seqRound ha hb l (l.take i) x x.c x.c_bl (by simp; omega), ?_⟩
  rintro _ _ ⟨rfl, rfl⟩
  simp only [go_sem]
  rw [wrap_succ i (by omega)]
  refine ⟨i + 1, h, by omega, ?_⟩
  have e : l.take (i + 1) = l.take i ++ [x] := by rw [List.take_add_one, hx]; rfl
  rw [e]
  exact Mv.of [some 0, some 1, some 4] rfl ⟨.varL rfl (by simp), .lpL rfl (by simp), .slcS rfl (Re.map_bl _), trivial⟩ (by simp)

theorem appendSeq (l : List Re) (hl : l.length ≤ 1000) : AC Try.prog SEQ [.v (.slice none 0 0), .fn VAL [.pel [Res l]]] [] (fun o om' => o = .ret (.own 0) ∧ om' = [reOb l]) := by
  refine AC.lbody hT hm Try.func40 f40_nm f40_lc f40_res f40_nt ?_
  simp only [go_sem, W_rfun]
  intro ca cb ha hb
  refine ⟨_, values1 ha hb l hl, ?_⟩
  rintro _ _ ⟨rfl, rfl⟩
  simp only [go_sem]
  exact ⟨by simp, Fin.mv (om' := [reOb l]) [some 2] rfl ⟨.slcS rfl (Re.map_bl _), trivial⟩ (by simp) ⟨rfl, rfl⟩⟩

theorem collect (l : List Re) (hl : l.length ≤ 1000) : AC Try.prog 35 [.fn VAL [.pel [Res l]]] [] (fun o om' => o = .ret (.own 0) ∧ om' = [reOb l]) := by
  refine AC.lbody hT hm Try.func35 f35_nm f35_lc f35_res f35_nt ?_
  simp only [go_sem]
  refine ⟨_, appendSeq l hl, ?_⟩
  rintro _ _ ⟨rfl, rfl⟩
  simp only [go_sem]
  exact Fin.mv (om' := [reOb l]) [some 0] rfl mv_re (by simp) ⟨rfl, rfl⟩

theorem sortStable (l : List Re) (hl : l.length ≤ 20) : AC Try.prog 36 [.own 0, .fn 9 []] [reOb l] (fun o om' => o = .ret (.tup []) ∧ om' = [reOb (sortR l)]) := by
  refine AC.lbody hT hm Try.func36 f36_nm f36_lc f36_res f36_nt ?_
  simp only [go_sem]
  refine ⟨_, stable l hl, ?_⟩
  rintro _ _ ⟨rfl, rfl⟩
  simp only [go_sem]
  exact Fin.mv (om' := [reOb (sortR l)]) [some 0] rfl mv_re (by simp) ⟨rfl, rfl⟩

theorem sortedStable (l : List Re) (hl : l.length ≤ 20) : AP Try.prog 27 [.fn VAL [.pel [Res l]], .fn 9 []] (Res (sortR l)) := by
  refine AC.lbody hT hm Try.func27 f27_nm f27_lc f27_res f27_nt ?_
  simp only [go_sem]
  refine ⟨_, collect l (by omega), ?_⟩
  rintro _ _ ⟨rfl, rfl⟩
  simp only [go_sem]
  refine ⟨_, sortStable l hl, ?_⟩
  rintro _ _ ⟨rfl, rfl⟩
  simp only [go_sem]
  refine Fin.ret ?_
  show Cv [reOb (sortR l)] _ [] (.own 0) (.sl 6 (Re.cs (sortR l)))
  rw [Re.cs_eq]
  exact Cv.frzS rfl rfl (Re.map_bl _)

theorem values (l : List Re) : AP Try.prog 28 [Res l] (.fn VAL [.pel [Res l]]) := by
  refine AC.lbody hT hm Try.func28 f28_nm f28_lc f28_res f28_nt ?_
  simp only [go_sem]
  exact Fin.ret (Cv.same (by simp))

theorem sort (l : List Re) (hl : l.length ≤ 20) : AP Try.prog 13 [Res l] (Res (sortR l)) := by
  refine AC.lbody hT hm Try.func13 f13_nm f13_lc f13_res f13_nt ?_
  simp only [go_sem]
  refine (values l).pd (by simp) (by simp) ?_
  simp only [go_sem]
  refine (sortedStable l hl).pd (by simp) (by simp) ?_
  simp only [go_sem]
  exact Fin.ret (Cv.same (by simp))
end Go.Proofs.Ytbpkppidbdhopaa.W
