/- The document's ends; how long the longest text is. -/
import Derived.Test.YteifkcgokjmcjaaMatchJ
set_option linter.unusedVariables false
set_option linter.unusedSimpArgs false
set_option linter.unusedSectionVars false
set_option maxRecDepth 100000
/- The document's ends; how long the longest text is. -/
namespace Go.Proofs.Yteifkcgokjmcjaa.W
open Go Go.Proofs Go.Proofs.Yteifkcgokjmcjaa.AWP
attribute [local irreducible] xl hide aop aops aopQ qops guardP condP

theorem markO (p : List Bool) (i : Nat) (hp : p.length ≤ 1000000) (h : i < p.length) : AC Try.prog 81 [.own 0, .i i] [blOb p] (retP (Bls (p.set i true)) [blOb p]) := by
  refine AC.lbody hT hm Try.func81 f81_nm f81_lc f81_res f81_nt ?_
  have hb : (p.length : Int) ≤ 281474976710656 := by omega
  obtain ⟨x, hx⟩ := get_ex h
  have hg := bls_get hx
  have hst : ∀ b, (bls p).set i [.v (.bool b)] = bls (p.set i b) := fun b => bls_set p i b
  simp only [go_sem, Int.reduceEq, Int.reduceLE, Int.reduceLT, Int.reduceToNat, List.length_map, hb, hx, Nat.div_one, Nat.mod_one, hst]
  refine ⟨by omega, ?_⟩
  exact Fin.mv (om' := [blOb p]) [some 0] rfl ⟨.slcS rfl (bls_bl _), trivial⟩ (.frzS rfl rfl (bls_bl _)) ⟨rfl, rfl⟩

/-- Where texts end that begin at a place. -/
noncomputable def endsB (r : Re) (s : ByteArray) (k : Int) : List Bool := if mayB r = true ∧ 0 ≤ k ∧ k ≤ s.size then endsG r s k.toNat else List.replicate (s.size + 1) false
theorem endsB_len (r : Re) (s : ByteArray) (k : Int) : (endsB r s k).length = s.size + 1 := by
  unfold endsB
  split
  · exact endsG_len _ _ _
  · simp
theorem posA_none : ∀ (n i : Nat), posA (List.replicate n false) i = []
  | 0, _ => rfl
  | n + 1, i => by rw [List.replicate_succ, posA, posA_none n (i + 1)]; rfl
theorem endsB_pos (r : Re) (s : ByteArray) (k : Int) : posA (endsB r s k) 0 = endsI r s k := by
  unfold endsB endsI
  split
  · rfl
  · exact posA_none _ _
theorem rEndsB (r : Re) (hz : r.sz ≤ 1099511627776) (hw : r.wd) (s : ByteArray) (hs : s.size ≤ 1000) (k : Int) : AP Try.prog 63 [.agg r.c, .s s, .i k] (Bls (endsB r s k)) := by
  have hw1 := wrap_succ s.size (by omega)
  have hb : ((s.size + 1 : Nat) : Int) ≤ 281474976710656 := by omega
  have hrep : List.replicate (s.size + 1) [D.v (.bool false)] = bls (List.replicate (s.size + 1) false) := bls_rep _
  unfold endsB
  by_cases hc : mayB r = true ∧ 0 ≤ k ∧ k ≤ s.size
  case neg =>
    rw [if_neg hc]
    have nl : ∀ om : List Ob, om = [.slc 4 1 (List.replicate (s.size + 1) [D.v (.bool false)])] → AWP.Fin [] om (.ret (.own 0)) (fun o' om' => o' = .ret (Bls (List.replicate (s.size + 1) false)) ∧ om' = []) := by
      rintro _ rfl
      exact Fin.ret (.frzS (ty := 4) (by rw [hrep]; rfl) rfl (bls_bl _))
    refine AC.lbody hT hm Try.func63 f63_nm f63_lc f63_res f63_nt ?_
    simp only [go_sem, Int.reduceEq, Int.reduceLE, Int.reduceLT, Int.reduceToNat, hw1, hb]
    refine ⟨by omega, by omega, ?_⟩
    refine (rMay r hz).pv ⟨.same (Re.d_bl _), trivial⟩ ?_
    cases hmb : mayB r
    · simp only [go_sem, Int.reduceEq, Int.reduceLE, Int.reduceLT, Int.reduceToNat, Bool.not_false]
      exact nl _ rfl
    rw [hmb] at hc
    by_cases h0 : k < 0
    · simp only [go_sem, Int.reduceEq, Int.reduceLE, Int.reduceLT, Int.reduceToNat, Bool.not_true, h0]
      exact nl _ rfl
    have h1 : (s.size : Int) < k := by
      have hc : ¬ (0 ≤ k ∧ k ≤ s.size) := fun h => hc ⟨rfl, h⟩
      omega
    simp only [go_sem, Int.reduceEq, Int.reduceLE, Int.reduceLT, Int.reduceToNat, Bool.not_true, h0, h1]
    exact nl _ rfl
  obtain ⟨hmb, hk0, hk1⟩ := hc
  rw [if_pos ⟨hmb, hk0, hk1⟩]
  obtain ⟨q, rfl⟩ : ∃ q : Nat, k = q := ⟨k.toNat, by omega⟩
  have h0 : ¬ (q : Int) < 0 := by omega
  have h1 : ¬ (s.size : Int) < q := by omega
  have c1 := markO (List.replicate (s.size + 1) false) q (by simp; omega) (by simp; omega)
  have c2 := (rEnds s hs r (mayB_ok hmb) hw).1 (onlyL (s.size + 1) q) (onlyL_len _ _)
  rw [Int.toNat_natCast]
  rw [show img (r.mt s) (onlyL (s.size + 1) q) = endsG r s q from rfl] at c2
  rw [show (List.replicate (s.size + 1) false).set q true = onlyL (s.size + 1) q from rfl] at c1
  rw [show blOb (List.replicate (s.size + 1) false) = .slc 4 1 (List.replicate (s.size + 1) [D.v (.bool false)]) from by rw [hrep]] at c1
  refine AC.lbody hT hm Try.func63 f63_nm f63_lc f63_res f63_nt ?_
  simp only [go_sem, Int.reduceEq, Int.reduceLE, Int.reduceLT, Int.reduceToNat, hw1, hb]
  refine ⟨by omega, by omega, ?_⟩
  refine (rMay r hz).pv ⟨.same (Re.d_bl _), trivial⟩ ?_
  simp only [go_sem, Int.reduceEq, Int.reduceLE, Int.reduceLT, Int.reduceToNat, hmb, Bool.not_true, h0, h1]
  refine ⟨_, c1, ?_⟩
  simp only [go_sem, Int.reduceEq, Int.reduceLE, Int.reduceLT, Int.reduceToNat]
  refine c2.pd ⟨.same (Re.d_bl _), .v, .same (Bls_bl _), trivial⟩ (Bls_bl _) ?_
  simp only [go_sem, Int.reduceEq, Int.reduceLE, Int.reduceLT, Int.reduceToNat]
  exact Fin.ret (.same (Bls_bl _))

theorem rEndsI (r : Re) (hz : r.sz ≤ 1099511627776) (hw : r.wd) (s : ByteArray) (hs : s.size ≤ 1000) (k : Int) : AP Try.prog 37 [.agg r.c, .s s, .i k] (Its (endsI r s k)) := by
  have c1 := rEndsB r hz hw s hs k
  have hl := endsB_len r s k
  rw [← endsB_pos]
  generalize endsB r s k = g at c1 hl ⊢
  refine AC.lbody hT hm Try.func37 f37_nm f37_lc f37_res f37_nt ?_
  simp only [go_sem, Int.reduceEq, Int.reduceLE, Int.reduceLT, Int.reduceToNat]
  refine c1.pd ⟨.same (Re.d_bl _), .v, .v, trivial⟩ (Bls_bl _) ?_
  simp only [go_sem, Int.reduceEq, Int.reduceLE, Int.reduceLT, Int.reduceToNat, List.length_map]
  refine xl_loopM hT hm (fun i : Nat => ⟨f37_i9 (Bls g) (.own 0) (.i g.length) (.i i), [.slc 3 1 (its (posA (g.take i) 0))]⟩)
    (fun i => i ≤ g.length) (fun i => g.length - i) 0 (Nat.zero_le _) ?_ ?_
  · refine Mv.of [some 0] rfl ⟨.slcS rfl (its_bl _), trivial⟩ ?_
    have hq : ∀ om : List Ob, Cv om (kF [some 0]) [some 0] (Bls g) (Bls g) := fun om => .same (Bls_bl g)
    simp [f37_i9, hq]
  intro i hi
  simp only [go_sem, Int.reduceEq, Int.reduceLE, Int.reduceLT, Int.reduceToNat, List.length_map]
  by_cases h : i < g.length
  case neg =>
    have ht : g.take i = g := List.take_of_length_le (by omega)
    simp only [go_sem, Int.reduceEq, Int.reduceLE, Int.reduceLT, Int.reduceToNat, h]
    rw [ht]
    exact Fin.ret (.frzS rfl rfl (its_bl _))
  obtain ⟨x, hx⟩ := get_ex h
  have hgx := bls_get hx
  have hp := posA_take hx
  have hpl := posA_len (g.take i) 0
  have hq : ∀ om (ks : List (Option Nat)), Cv om (kF ks) ks (Bls g) (Bls g) := fun om ks => .same (Bls_bl g)
  have hw1 := wrap_succ i (by omega)
  have hlt : (g.take i).length = i := by simp; omega
  cases x
  · simp only [go_sem, Int.reduceEq, Int.reduceLE, Int.reduceLT, Int.reduceToNat, h, hgx, hw1]
    refine ⟨i + 1, h, by omega, ?_⟩
    rw [hp]
    exact Mv.of [some 0] rfl ⟨.slcS (by simp) (its_bl _), trivial⟩ (by simp [f37_i9, hq])
  · simp only [go_sem, Int.reduceEq, Int.reduceLE, Int.reduceLT, Int.reduceToNat, h, hgx, hw1, List.length_map]
    refine ⟨by omega, i + 1, h, by omega, ?_⟩
    rw [hp]
    exact Mv.of [some 1] rfl ⟨.slcS (by simp) (its_bl _), trivial⟩ (by simp [f37_i9, hq])
end Go.Proofs.Yteifkcgokjmcjaa.W
