/- What is left behind two texts, one behind the other. -/
import Derived.Test.YtlejbkfefpfolaaDoorDeriv
set_option linter.unusedVariables false
set_option linter.unusedSimpArgs false
set_option linter.unusedSectionVars false
set_option maxRecDepth 100000
/- What is left behind two texts, one behind the other. -/
namespace Go.Proofs.YtlejbkfefpfolaaDoor.W
open Go Go.Proofs Go.Proofs.YtlejbkfefpfolaaDoor.AWP
attribute [local irreducible] xl hide aop aops aopQ qops guardP condP
theorem zero_sz : zeroR.sz ≤ 10 := by decide +kernel
theorem wrd_gd {r : Re} (hw : r.wd) (s : ByteArray) : (wrd r s).1.sz ≤ 1048576 ∧ (wrd r s).1.wd := by
  by_cases h : (wlk r s).2 = 0
  · obtain ⟨h1, h2, _⟩ := wlk_ok h
    unfold wrd
    rw [if_pos h]
    exact stt_sz ⟨h1, hw⟩ h2
  · unfold wrd
    rw [if_neg h]
    exact ⟨by have := zero_sz; simp only; omega, zero_wd⟩
set_option maxHeartbeats 1000000 in
theorem derivParts (r : Re) (s t : ByteArray) (hz : r.sz ≤ 1048576) (hw : r.wd) : AP Tryd.prog 5 [.agg r.c, .s s, .s t] (.b true) := by
  have hG := great 40 r
  refine AC.lbody hT hm Tryd.func5 f5_nm f5_lc f5_res f5_nt ?_
  simp only [go_sem, Int.reduceEq, Int.reduceLE, Int.reduceLT, Int.reduceToNat]
  refine hG.pv ⟨.same (Re.d_bl _), .v, trivial⟩ ?_
  by_cases hg : 40 < r.cnt 40
  · simp only [go_sem, Int.reduceEq, Int.reduceLE, Int.reduceLT, Int.reduceToNat, decL _ _ hg]
    refine awake9.pv trivial ?_
    simp only [go_sem, Int.reduceEq, Int.reduceLE, Int.reduceLT, Int.reduceToNat]
    exact Fin.v rfl
  simp only [go_sem, Int.reduceEq, Int.reduceLE, Int.reduceLT, Int.reduceToNat, decF _ _ hg]
  by_cases hs : (6 : Int) < s.size
  · simp only [go_sem, Int.reduceEq, Int.reduceLE, Int.reduceLT, Int.reduceToNat, hs]
    refine awake9.pv trivial ?_
    simp only [go_sem, Int.reduceEq, Int.reduceLE, Int.reduceLT, Int.reduceToNat]
    exact Fin.v rfl
  simp only [go_sem, Int.reduceEq, Int.reduceLE, Int.reduceLT, Int.reduceToNat, hs]
  by_cases ht : (6 : Int) < t.size
  · simp only [go_sem, Int.reduceEq, Int.reduceLE, Int.reduceLT, Int.reduceToNat, ht]
    refine awake9.pv trivial ?_
    simp only [go_sem, Int.reduceEq, Int.reduceLE, Int.reduceLT, Int.reduceToNat]
    exact Fin.v rfl
  have hsz : (s ++ t).size ≤ 1000 := by rw [size_app]; omega
  have hst : s.size + t.size ≤ 9223372036854775807 := by omega
  have h1 := nWord r hz hw s (by omega)
  obtain ⟨x1, x2⟩ := wrd_gd hw s
  have h2 := nWord (wrd r s).1 x1 x2 t (by omega)
  have h3 := nWord r hz hw (s ++ t) hsz
  have pe := fun h => parts_err (r := r) hw s t h
  have po := fun h => parts_ok (r := r) hw s t h
  generalize wrd r (s ++ t) = z at h3 pe po
  generalize wrd r s = p at h1 h2 pe po
  obtain ⟨x, e⟩ := p
  simp only at h2 pe po
  simp only [go_sem, Int.reduceEq, Int.reduceLE, Int.reduceLT, Int.reduceToNat, ht]
  refine h1.pd ⟨.same (Re.d_bl _), .v, trivial⟩ (plD_bl _) ?_
  simp only [go_sem, Int.reduceEq, Int.reduceLE, Int.reduceLT, Int.reduceToNat]
  refine h2.pd ⟨.same (Re.d_bl _), .v, trivial⟩ (plD_bl _) ?_
  generalize wrd x t = y at po ⊢
  simp only [go_sem, Int.reduceEq, Int.reduceLE, Int.reduceLT, Int.reduceToNat, hst]
  refine h3.pd ⟨.same (Re.d_bl _), .v, trivial⟩ (plD_bl _) ?_
  by_cases he : e = 0
  case neg =>
    have z2 : (((e : Nat) : Int) != 0) = true := bne_true (by omega)
    have z3 : ((e : Int) == e) = true := beq_self_eq_true _
    rw [pe he]
    simp only [go_sem, Int.reduceEq, Int.reduceLE, Int.reduceLT, Int.reduceToNat, z2, z3]
    refine (sameS zeroR).pv ⟨.same (by simp [zeroR, Re.c_mk, Re.cs_eq]), .aggL (by simp [CvL, zeroR, Re.c_mk, Re.cs_eq]), trivial⟩ ?_
    simp only [go_sem, Int.reduceEq, Int.reduceLE, Int.reduceLT, Int.reduceToNat]
    refine awake9.pv trivial ?_
    simp only [go_sem, Int.reduceEq, Int.reduceLE, Int.reduceLT, Int.reduceToNat]
    exact Fin.v rfl
  have z1 : (((0 : Nat) : Int) != 0) = false := rfl
  subst he
  rw [po rfl]
  have z3 : ((y.2 : Int) == y.2) = true := beq_self_eq_true _
  simp only [go_sem, Int.reduceEq, Int.reduceLE, Int.reduceLT, Int.reduceToNat, z1, z3]
  refine (sameS y.1).pv ⟨.same (Re.d_bl _), .same (Re.d_bl _), trivial⟩ ?_
  simp only [go_sem, Int.reduceEq, Int.reduceLE, Int.reduceLT, Int.reduceToNat]
  refine awake9.pv trivial ?_
  simp only [go_sem, Int.reduceEq, Int.reduceLE, Int.reduceLT, Int.reduceToNat]
  exact Fin.v rfl
end Go.Proofs.YtlejbkfefpfolaaDoor.W
