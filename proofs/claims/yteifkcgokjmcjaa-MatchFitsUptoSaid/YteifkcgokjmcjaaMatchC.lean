/- The ends of an expression in a text; from a place on they are those of the rest, as much further. -/
import Derived.Test.YteifkcgokjmcjaaMatchB
set_option linter.unusedVariables false
set_option linter.unusedSimpArgs false
set_option linter.unusedSectionVars false
set_option maxRecDepth 100000
/- The ends of an expression in a text; from a place on they are those of the rest, as much further. -/
namespace Go.Proofs.Yteifkcgokjmcjaa.W
open Go Go.Proofs Go.Proofs.Yteifkcgokjmcjaa.AWP
attribute [local irreducible] xl hide aop aops aopQ qops guardP condP

abbrev its (l : List Nat) : List (List D) := l.map fun n : Nat => [.i n]
abbrev Its (l : List Nat) : D := .sl 1 (its l)
theorem its_bl (l : List Nat) : ∀ r ∈ its l, ∀ d ∈ r, Bl 0 d := by
  intro r hr d hd
  obtain ⟨b, _, rfl⟩ := List.mem_map.1 hr
  rw [List.mem_singleton.1 hd]
  exact .v _
theorem Its_bl (l : List Nat) : Bl 0 (Its l) := .sl (its_bl l)
theorem its_get {l : List Nat} {i n : Nat} (h : l[i]? = some n) : (its l)[i]? = some [.i n] := by simp [its, h]
noncomputable def endsI (r : Re) (s : ByteArray) (k : Int) : List Nat := if mayB r = true ∧ 0 ≤ k ∧ k ≤ s.size then posA (endsG r s k.toNat) 0 else []

theorem mEndsI (r : Re) (hz : r.sz ≤ 1099511627776) (hw : r.wd) (s : ByteArray) (hs : s.size ≤ 1000) (k : Int) : AP Try.prog 23 [.agg r.c, .s s, .i k] (Its (endsI r s k)) := by
  unfold endsI
  have nl : ∀ om : List Ob, AWP.Fin [] om (.ret (.v (.slice none 0 0))) (fun o' om' => o' = .ret (Its []) ∧ om' = []) := fun om => Fin.ret .nil
  by_cases hc : mayB r = true ∧ 0 ≤ k ∧ k ≤ s.size
  case neg =>
    rw [if_neg hc]
    refine AC.lbody hT hm Try.func23 f23_nm f23_lc f23_res f23_nt ?_
    simp only [go_sem, Int.reduceEq, Int.reduceLE, Int.reduceLT, Int.reduceToNat]
    refine (may r hz).pv ⟨.eq (resB r) (by simp), trivial⟩ ?_
    cases hmb : mayB r
    · simp only [go_sem, Int.reduceEq, Int.reduceLE, Int.reduceLT, Int.reduceToNat, Bool.not_false]
      exact nl _
    rw [hmb] at hc
    by_cases h0 : k < 0
    · simp only [go_sem, Int.reduceEq, Int.reduceLE, Int.reduceLT, Int.reduceToNat, Bool.not_true, h0]
      exact nl _
    have h1 : (s.size : Int) < k := by
      have hc : ¬ (0 ≤ k ∧ k ≤ s.size) := fun h => hc ⟨rfl, h⟩
      omega
    simp only [go_sem, Int.reduceEq, Int.reduceLE, Int.reduceLT, Int.reduceToNat, Bool.not_true, h0, h1]
    exact nl _
  obtain ⟨hmb, hk0, hk1⟩ := hc
  rw [if_pos ⟨hmb, hk0, hk1⟩]
  obtain ⟨q, rfl⟩ : ∃ q : Nat, k = q := ⟨k.toNat, by omega⟩
  have h0 : ¬ (q : Int) < 0 := by omega
  have h1 : ¬ (s.size : Int) < q := by omega
  have hs1 : IntKind.i64.wrap ((s.size : Int) + 1) = ((s.size + 1 : Nat) : Int) := wrap_succ _ (by omega)
  have hb : ((s.size + 1 : Nat) : Int) ≤ 281474976710656 := by omega
  have ho := only (List.replicate (s.size + 1) false) q (by simp; omega) (by simp; omega)
  rw [List.length_replicate] at ho
  have he := mEnds s hs _ r (Nat.le_refl _) (mayB_ok hmb) hw (onlyL (s.size + 1) q) (onlyL_len _ _)
  rw [Int.toNat_natCast]
  change AP _ _ _ (Its (posA (endsG r s q) 0))
  rw [show img (r.mt s) (onlyL (s.size + 1) q) = endsG r s q from rfl] at he
  have hgl := endsG_len r s q
  generalize endsG r s q = g at he hgl ⊢
  refine AC.lbody hT hm Try.func23 f23_nm f23_lc f23_res f23_nt ?_
  simp only [go_sem, Int.reduceEq, Int.reduceLE, Int.reduceLT, Int.reduceToNat]
  refine (may r hz).pv ⟨.eq (resB r) (by simp), trivial⟩ ?_
  simp only [go_sem, Int.reduceEq, Int.reduceLE, Int.reduceLT, Int.reduceToNat, hmb, Bool.not_true, h0, h1, hs1, hb]
  refine ⟨by omega, by omega, ?_⟩
  refine ho.qd ⟨.eq (by simp [bls, List.replicate_succ]) (.sl (by simp)), .v, trivial⟩ (Bls_bl _) ?_
  simp only [go_sem, Int.reduceEq, Int.reduceLE, Int.reduceLT, Int.reduceToNat]
  refine he.qd ⟨.same (Re.d_bl _), .v, .same (Bls_bl _), trivial⟩ (Bls_bl _) ?_
  simp only [go_sem, Int.reduceEq, Int.reduceLE, Int.reduceLT, Int.reduceToNat, List.length_map]
  refine xl_loopM hT hm (fun i : Nat => ⟨f23_i10 (.own 0) (Bls g) (.i g.length) (.i i), [.slc 3 1 (its (posA (g.take i) 0))]⟩)
    (fun i => i ≤ g.length) (fun i => g.length - i) 0 (Nat.zero_le _) ?_ ?_
  · refine Mv.of [none] rfl ⟨.nil (by omega), trivial⟩ ?_
    have hq : ∀ om : List Ob, Cv om (kF [none]) [none] (Bls g) (Bls g) := fun om => .same (Bls_bl g)
    simp [f23_i10, hq]
  intro i hi
  simp only [go_sem, Int.reduceEq, Int.reduceLE, Int.reduceLT, Int.reduceToNat, List.length_map]
  by_cases h : i < g.length
  case neg =>
    have ht : g.take i = g := List.take_of_length_le (by omega)
    simp only [go_sem, Int.reduceEq, Int.reduceLE, Int.reduceLT, Int.reduceToNat, h]
    rw [ht]
    exact Fin.ret (.frzS rfl rfl (its_bl _))
  obtain ⟨x, hx⟩ := get_ex h
  have hgx := bls_get hx
  have hp := posA_take hx
  have hpl := posA_len (g.take i) 0
  have hq : ∀ om (ks : List (Option Nat)), Cv om (kF ks) ks (Bls g) (Bls g) := fun om ks => .same (Bls_bl g)
  have hw1 := wrap_succ i (by omega)
  have hlt : (g.take i).length = i := by simp; omega
  cases x
  · simp only [go_sem, Int.reduceEq, Int.reduceLE, Int.reduceLT, Int.reduceToNat, h, hgx, hw1]
    refine ⟨i + 1, h, by omega, ?_⟩
    rw [hp]
    exact Mv.of [some 0] rfl ⟨.slcS (by simp) (its_bl _), trivial⟩ (by simp [f23_i10, hq])
  · simp only [go_sem, Int.reduceEq, Int.reduceLE, Int.reduceLT, Int.reduceToNat, h, hgx, hw1, List.length_map]
    refine ⟨by omega, i + 1, h, by omega, ?_⟩
    rw [hp]
    exact Mv.of [some 1] rfl ⟨.slcS (by simp) (its_bl _), trivial⟩ (by simp [f23_i10, hq])
end Go.Proofs.Yteifkcgokjmcjaa.W
