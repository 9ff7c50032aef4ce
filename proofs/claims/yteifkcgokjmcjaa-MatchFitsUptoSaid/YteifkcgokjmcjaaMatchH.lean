/- Where texts end: one of two, from places of one's own. -/
import Derived.Test.YteifkcgokjmcjaaMatchG
set_option linter.unusedVariables false
set_option linter.unusedSimpArgs false
set_option linter.unusedSectionVars false
set_option maxRecDepth 100000
/- Where texts end: one of two, from places of one's own. -/
namespace Go.Proofs.Yteifkcgokjmcjaa.W
open Go Go.Proofs Go.Proofs.Yteifkcgokjmcjaa.AWP
attribute [local irreducible] xl hide aop aops aopQ qops guardP condP

set_option maxHeartbeats 8000000 in
theorem rE5O (s : ByteArray) (hs : s.size ≤ 1000) (x y : Re) (hox : x.nodesOk = true) (hoy : y.nodesOk = true) (hx : rO s x) (hy : rO s y) : rO s (.mk 5 0 0 0 0 [x, y]) := by
  have hw1 := wrap_succ s.size (by omega)
  have hb : ((s.size + 1 : Nat) : Int) ≤ 281474976710656 := by omega
  have hep : epsy (.mk 5 0 0 0 0 [x, y]) = false := by simp [epsy]
  intro p hp
  rw [img_alt2, hep]
  have c1 := hx.call hp
  have c2 := hy.call hp
  have la := img_len (x.mt s) p
  have lb := img_len (y.mt s) p
  have ea := fun h => epsy_img s x hox h p hp
  have eb := fun h => epsy_img s y hoy h p hp
  generalize img (x.mt s) p = a at c1 la ea ⊢
  generalize img (y.mt s) p = b at c2 lb eb ⊢
  have hol : (orL a b).length = s.size + 1 := by rw [orL_len (by omega)]; omega
  have hgl : ∀ i, i ≤ s.size + 1 → (orG (orL a b) (s.size + 1) i).length = s.size + 1 := by
    intro i hi
    unfold orG
    simp [hol]; omega
  have e0 : List.replicate (s.size + 1) [D.v (.bool false)] = bls (orG (orL a b) (s.size + 1) 0) := by
    unfold orG
    rw [bls_rep, List.take_zero, Nat.sub_zero, List.nil_append]
  have eE : orG (orL a b) (s.size + 1) (s.size + 1) = orL a b := by
    unfold orG
    rw [List.take_of_length_le (by omega), Nat.sub_self]; simp
  have hst : ∀ (i : Nat) (u v : Bool), a[i]? = some u → b[i]? = some v → (bls (orG (orL a b) (s.size + 1) i)).set i [.v (.bool (u || v))] = bls (orG (orL a b) (s.size + 1) (i + 1)) := by
    intro i u v hu hv
    rw [bls_set]
    congr 1
    exact take_set (orL_get hu hv) hol
  have hq : ∀ (om : List Ob) (ks : List (Option Nat)) (q : List Bool), Cv om (kF ks) ks (Bls q) (Bls q) := fun om ks q => .same (Bls_bl q)
  refine AC.lbody hT hm Try.func80 f80_nm f80_lc f80_res f80_nt ?_
  simp only [go_sem, Int.reduceEq, Int.reduceLE, Int.reduceLT, Int.reduceToNat, hw1, hb, Re.c_mk, Int.reduceBEq]
  refine ⟨by omega, by omega, ?_⟩
  refine ⟨_, c1 _, ?_⟩
  cases h1 : epsy x
  all_goals
    simp only [go_sem, Int.reduceEq, Int.reduceLE, Int.reduceLT, Int.reduceToNat, Re.c_mk]
    refine ⟨_, c2 _, ?_⟩
    rintro _ _ ⟨rfl, rfl⟩
  · clear ea
    cases h2 : epsy y
    · clear eb
      simp only [go_sem, Int.reduceEq, Int.reduceLE, Int.reduceLT, Int.reduceToNat, Re.c_mk, List.length_map, la]
      refine xl_loopM hT hm (fun i : Nat => ⟨f80_i24 (.own 1) (Bls a) (Bls b) (.i a.length) (.i i), [blOb p, blOb (orG (orL a b) (s.size + 1) i)]⟩)
        (fun i => i ≤ a.length) (fun i => a.length - i) 0 (Nat.zero_le _) ?_ ?_
      · refine Mv.of [some 0, some 1] rfl ⟨.slcS rfl (bls_bl _), .slcS (by rw [← e0]; rfl) (bls_bl _), trivial⟩ ?_
        simp [f80_i24, hq, la]
      intro i hi
      simp only [go_sem, Int.reduceEq, Int.reduceLE, Int.reduceLT, Int.reduceToNat]
      by_cases h : i < a.length
      case neg =>
        obtain rfl : i = s.size + 1 := by omega
        simp only [go_sem, Int.reduceEq, Int.reduceLE, Int.reduceLT, Int.reduceToNat, h]
        rw [eE]
        exact keepF p _ (.frzS rfl rfl (bls_bl _))
      obtain ⟨u, hu⟩ := get_ex (l := a) (i := i) (by omega)
      obtain ⟨v, hv⟩ := get_ex (l := b) (i := i) (by omega)
      have hgu := bls_get hu
      have hgv := bls_get hv
      have hwi := wrap_succ i (by omega)
      have e := hst i u v hu hv
      obtain ⟨z, hz⟩ := get_ex (l := orG (orL a b) (s.size + 1) i) (i := i) (by rw [hgl i (by omega)]; omega)
      have hgz := bls_get hz
      have hzl : i < (orG (orL a b) (s.size + 1) i).length := by rw [hgl i (by omega)]; omega
      cases u
      all_goals
        simp only [Bool.false_or, Bool.true_or] at e
        simp only [go_sem, Int.reduceEq, Int.reduceLE, Int.reduceLT, Int.reduceToNat, h, hgu, hgv, hgz, hzl, hu, hv, hwi, Nat.div_one, Nat.mod_one, List.length_map, e]
        refine ⟨i + 1, h, by omega, ?_⟩
        exact Mv.of [some 0, some 1] rfl ⟨.slcS rfl (bls_bl _), .slcS rfl (bls_bl _), trivial⟩ (by simp [f80_i24, hq, la])
    · have := eb h2
      subst this
      simp only [go_sem, Int.reduceEq, Int.reduceLE, Int.reduceLT, Int.reduceToNat, Re.c_mk, List.length_map, la]
      refine xl_loopM hT hm (fun i : Nat => ⟨f80_i24 (.own 1) (Bls a) (.own 0) (.i a.length) (.i i), [blOb b, blOb (orG (orL a b) (s.size + 1) i)]⟩)
        (fun i => i ≤ a.length) (fun i => a.length - i) 0 (Nat.zero_le _) ?_ ?_
      · refine Mv.of [some 0, some 1] rfl ⟨.slcS rfl (bls_bl _), .slcS (by rw [← e0]; rfl) (bls_bl _), trivial⟩ ?_
        simp [f80_i24, hq, la]
      intro i hi
      simp only [go_sem, Int.reduceEq, Int.reduceLE, Int.reduceLT, Int.reduceToNat]
      by_cases h : i < a.length
      case neg =>
        obtain rfl : i = s.size + 1 := by omega
        simp only [go_sem, Int.reduceEq, Int.reduceLE, Int.reduceLT, Int.reduceToNat, h]
        rw [eE]
        exact keepF b _ (.frzS rfl rfl (bls_bl _))
      obtain ⟨u, hu⟩ := get_ex (l := a) (i := i) (by omega)
      obtain ⟨v, hv⟩ := get_ex (l := b) (i := i) (by omega)
      have hgu := bls_get hu
      have hgv := bls_get hv
      have hwi := wrap_succ i (by omega)
      have e := hst i u v hu hv
      obtain ⟨z, hz⟩ := get_ex (l := orG (orL a b) (s.size + 1) i) (i := i) (by rw [hgl i (by omega)]; omega)
      have hgz := bls_get hz
      have hzl : i < (orG (orL a b) (s.size + 1) i).length := by rw [hgl i (by omega)]; omega
      cases u
      all_goals
        simp only [Bool.false_or, Bool.true_or] at e
        simp only [go_sem, Int.reduceEq, Int.reduceLE, Int.reduceLT, Int.reduceToNat, h, hgu, hgv, hgz, hzl, hu, hv, hwi, Nat.div_one, Nat.mod_one, List.length_map, e]
        refine ⟨i + 1, h, by omega, ?_⟩
        exact Mv.of [some 0, some 1] rfl ⟨.slcS rfl (bls_bl _), .slcS rfl (bls_bl _), trivial⟩ (by simp [f80_i24, hq, la])
  · have := ea h1
    subst this
    clear ea
    cases h2 : epsy y
    · clear eb
      simp only [go_sem, Int.reduceEq, Int.reduceLE, Int.reduceLT, Int.reduceToNat, Re.c_mk, List.length_map, la]
      refine xl_loopM hT hm (fun i : Nat => ⟨f80_i24 (.own 1) (.own 0) (Bls b) (.i a.length) (.i i), [blOb a, blOb (orG (orL a b) (s.size + 1) i)]⟩)
        (fun i => i ≤ a.length) (fun i => a.length - i) 0 (Nat.zero_le _) ?_ ?_
      · refine Mv.of [some 0, some 1] rfl ⟨.slcS rfl (bls_bl _), .slcS (by rw [← e0]; rfl) (bls_bl _), trivial⟩ ?_
        simp [f80_i24, hq, la]
      intro i hi
      simp only [go_sem, Int.reduceEq, Int.reduceLE, Int.reduceLT, Int.reduceToNat]
      by_cases h : i < a.length
      case neg =>
        obtain rfl : i = s.size + 1 := by omega
        simp only [go_sem, Int.reduceEq, Int.reduceLE, Int.reduceLT, Int.reduceToNat, h]
        rw [eE]
        exact keepF a _ (.frzS rfl rfl (bls_bl _))
      obtain ⟨u, hu⟩ := get_ex (l := a) (i := i) (by omega)
      obtain ⟨v, hv⟩ := get_ex (l := b) (i := i) (by omega)
      have hgu := bls_get hu
      have hgv := bls_get hv
      have hwi := wrap_succ i (by omega)
      have e := hst i u v hu hv
      obtain ⟨z, hz⟩ := get_ex (l := orG (orL a b) (s.size + 1) i) (i := i) (by rw [hgl i (by omega)]; omega)
      have hgz := bls_get hz
      have hzl : i < (orG (orL a b) (s.size + 1) i).length := by rw [hgl i (by omega)]; omega
      cases u
      all_goals
        simp only [Bool.false_or, Bool.true_or] at e
        simp only [go_sem, Int.reduceEq, Int.reduceLE, Int.reduceLT, Int.reduceToNat, h, hgu, hgv, hgz, hzl, hu, hv, hwi, Nat.div_one, Nat.mod_one, List.length_map, e]
        refine ⟨i + 1, h, by omega, ?_⟩
        exact Mv.of [some 0, some 1] rfl ⟨.slcS rfl (bls_bl _), .slcS rfl (bls_bl _), trivial⟩ (by simp [f80_i24, hq, la])
    · have := eb h2
      subst this
      simp only [go_sem, Int.reduceEq, Int.reduceLE, Int.reduceLT, Int.reduceToNat, Re.c_mk, List.length_map, la]
      refine xl_loopM hT hm (fun i : Nat => ⟨f80_i24 (.own 1) (.own 0) (.own 0) (.i b.length) (.i i), [blOb b, blOb (orG (orL b b) (s.size + 1) i)]⟩)
        (fun i => i ≤ b.length) (fun i => b.length - i) 0 (Nat.zero_le _) ?_ ?_
      · refine Mv.of [some 0, some 1] rfl ⟨.slcS rfl (bls_bl _), .slcS (by rw [← e0]; rfl) (bls_bl _), trivial⟩ ?_
        simp [f80_i24, hq, la]
      intro i hi
      simp only [go_sem, Int.reduceEq, Int.reduceLE, Int.reduceLT, Int.reduceToNat]
      by_cases h : i < b.length
      case neg =>
        obtain rfl : i = s.size + 1 := by omega
        simp only [go_sem, Int.reduceEq, Int.reduceLE, Int.reduceLT, Int.reduceToNat, h]
        rw [eE]
        exact keepF b _ (.frzS rfl rfl (bls_bl _))
      obtain ⟨u, hu⟩ := get_ex (l := b) (i := i) (by omega)
      obtain ⟨v, hv⟩ := get_ex (l := b) (i := i) (by omega)
      obtain rfl : u = v := by rw [hu] at hv; cases hv; rfl
      have hgu := bls_get hu
      have hgv := bls_get hv
      have hwi := wrap_succ i (by omega)
      have e := hst i u u hu hv
      obtain ⟨z, hz⟩ := get_ex (l := orG (orL b b) (s.size + 1) i) (i := i) (by rw [hgl i (by omega)]; omega)
      have hgz := bls_get hz
      have hzl : i < (orG (orL b b) (s.size + 1) i).length := by rw [hgl i (by omega)]; omega
      cases u
      all_goals
        simp only [Bool.false_or, Bool.true_or] at e
        simp only [go_sem, Int.reduceEq, Int.reduceLE, Int.reduceLT, Int.reduceToNat, h, hgu, hgv, hgz, hzl, hu, hv, hwi, Nat.div_one, Nat.mod_one, List.length_map, e]
        refine ⟨i + 1, h, by omega, ?_⟩
        exact Mv.of [some 0, some 1] rfl ⟨.slcS rfl (bls_bl _), .slcS rfl (bls_bl _), trivial⟩ (by simp [f80_i24, hq, la])
end Go.Proofs.Yteifkcgokjmcjaa.W
