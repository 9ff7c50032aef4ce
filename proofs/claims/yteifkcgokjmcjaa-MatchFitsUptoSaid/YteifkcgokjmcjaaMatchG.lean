/- Where texts end: one of two. -/
import Derived.Test.YteifkcgokjmcjaaMatchF
set_option linter.unusedVariables false
set_option linter.unusedSimpArgs false
set_option linter.unusedSectionVars false
set_option maxRecDepth 100000
/- Where texts end: one of two. -/
namespace Go.Proofs.Yteifkcgokjmcjaa.W
open Go Go.Proofs Go.Proofs.Yteifkcgokjmcjaa.AWP
attribute [local irreducible] xl hide aop aops aopQ qops guardP condP

theorem orL_rep (a : List Bool) : orL (List.replicate a.length false) a = a := by
  refine on_ext (by rw [orL_len (by simp)]; simp) fun i hi => ?_
  rw [on_or (by simp)]
  constructor
  · rintro (h | h)
    · have hj := h.lt
      simp at hj
      unfold On at h
      rw [List.getElem?_replicate_of_lt hj] at h
      simp at h
    · exact h
  · exact .inr
theorem img_alt2 (s : ByteArray) (x y : Re) (p : List Bool) : img ((Re.mk 5 0 0 0 0 [x, y]).mt s) p = orL (img (x.mt s) p) (img (y.mt s) p) := by
  rw [img_alt]
  have := orL_rep (img (x.mt s) p)
  rw [img_len] at this
  rw [this]
def orG (g : List Bool) (n i : Nat) : List Bool := g.take i ++ List.replicate (n - i) false

set_option maxHeartbeats 4000000 in
theorem rE5D (s : ByteArray) (hs : s.size ≤ 1000) (x y : Re) (hx : rD s x) (hy : rD s y) : rD s (.mk 5 0 0 0 0 [x, y]) := by
  have hw1 := wrap_succ s.size (by omega)
  have hb : ((s.size + 1 : Nat) : Int) ≤ 281474976710656 := by omega
  intro p hp
  rw [img_alt2]
  have c1 := hx p hp
  have c2 := hy p hp
  have la := img_len (x.mt s) p
  have lb := img_len (y.mt s) p
  generalize img (x.mt s) p = a at c1 la ⊢
  generalize img (y.mt s) p = b at c2 lb ⊢
  have hol : (orL a b).length = s.size + 1 := by rw [orL_len (by omega)]; omega
  have hgl : ∀ i, i ≤ s.size + 1 → (orG (orL a b) (s.size + 1) i).length = s.size + 1 := by
    intro i hi
    unfold orG
    simp [hol]; omega
  have e0 : List.replicate (s.size + 1) [D.v (.bool false)] = bls (orG (orL a b) (s.size + 1) 0) := by
    unfold orG
    rw [bls_rep, List.take_zero, Nat.sub_zero, List.nil_append]
  have eE : orG (orL a b) (s.size + 1) (s.size + 1) = orL a b := by
    unfold orG
    rw [List.take_of_length_le (by omega), Nat.sub_self]; simp
  have hst : ∀ (i : Nat) (u v : Bool), a[i]? = some u → b[i]? = some v → (bls (orG (orL a b) (s.size + 1) i)).set i [.v (.bool (u || v))] = bls (orG (orL a b) (s.size + 1) (i + 1)) := by
    intro i u v hu hv
    rw [bls_set]
    congr 1
    exact take_set (orL_get hu hv) hol
  refine AC.lbody hT hm Try.func80 f80_nm f80_lc f80_res f80_nt ?_
  simp only [go_sem, Int.reduceEq, Int.reduceLE, Int.reduceLT, Int.reduceToNat, hw1, hb, Re.c_mk, Int.reduceBEq]
  refine ⟨by omega, by omega, ?_⟩
  refine c1.qd ⟨.same (Re.d_bl _), .v, .same (Bls_bl _), trivial⟩ (Bls_bl _) ?_
  simp only [go_sem, Int.reduceEq, Int.reduceLE, Int.reduceLT, Int.reduceToNat, Re.c_mk]
  refine c2.pd ⟨.same (Re.d_bl _), .v, .same (Bls_bl _), trivial⟩ (Bls_bl _) ?_
  simp only [go_sem, Int.reduceEq, Int.reduceLE, Int.reduceLT, Int.reduceToNat, Re.c_mk, List.length_map, la]
  have hq : ∀ (om : List Ob) (ks : List (Option Nat)) (q : List Bool), Cv om (kF ks) ks (Bls q) (Bls q) := fun om ks q => .same (Bls_bl q)
  refine xl_loopM hT hm (fun i : Nat => ⟨f80_i24 (.own 0) (Bls a) (Bls b) (.i p.length) (.i i), [blOb (orG (orL a b) (s.size + 1) i)]⟩)
    (fun i => i ≤ p.length) (fun i => p.length - i) 0 (Nat.zero_le _) ?_ ?_
  · refine Mv.of [some 0] rfl ⟨.slcS (by rw [← e0]; rfl) (bls_bl _), trivial⟩ ?_
    simp [f80_i24, hq]
  intro i hi
  simp only [go_sem, Int.reduceEq, Int.reduceLE, Int.reduceLT, Int.reduceToNat]
  by_cases h : i < p.length
  case neg =>
    obtain rfl : i = s.size + 1 := by omega
    simp only [go_sem, Int.reduceEq, Int.reduceLE, Int.reduceLT, Int.reduceToNat, h]
    rw [eE]
    exact Fin.ret (.frzS rfl rfl (bls_bl _))
  obtain ⟨u, hu⟩ := get_ex (l := a) (i := i) (by omega)
  obtain ⟨v, hv⟩ := get_ex (l := b) (i := i) (by omega)
  have hgu := bls_get hu
  have hgv := bls_get hv
  have hwi := wrap_succ i (by omega)
  have e := hst i u v hu hv
  obtain ⟨z, hz⟩ := get_ex (l := orG (orL a b) (s.size + 1) i) (i := i) (by rw [hgl i (by omega)]; omega)
  have hgz := bls_get hz
  have hzl : i < (orG (orL a b) (s.size + 1) i).length := by rw [hgl i (by omega)]; omega
  cases u
  all_goals
    simp only [Bool.false_or, Bool.true_or] at e
    simp only [go_sem, Int.reduceEq, Int.reduceLE, Int.reduceLT, Int.reduceToNat, h, hgu, hgv, hgz, hzl, hwi, Nat.div_one, Nat.mod_one, List.length_map, e]
    refine ⟨i + 1, h, by omega, ?_⟩
    exact Mv.of [some 0] rfl ⟨.slcS rfl (bls_bl _), trivial⟩ (by simp [f80_i24, hq])
end Go.Proofs.Yteifkcgokjmcjaa.W
