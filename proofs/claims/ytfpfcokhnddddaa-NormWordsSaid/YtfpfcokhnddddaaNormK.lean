/- A text's bytes are their own normal form, however they are put together. -/
import Derived.Test.YtfpfcokhnddddaaGenB
import Derived.Test.YtfpfcokhnddddaaWord
set_option linter.unusedVariables false
set_option linter.unusedSimpArgs false
set_option linter.unusedSectionVars false
set_option maxRecDepth 100000
/- A text's bytes are their own normal form, however they are put together. -/
namespace Go.Proofs.Ytfpfcokhnddddaa.W
open Go Go.Proofs Go.Proofs.Ytfpfcokhnddddaa.AWP
attribute [local irreducible] xl hide aop aops aopQ qops guardP condP

theorem byL_cls (s : ByteArray) : ∀ x ∈ byL s, clsR x := by
  intro x hx
  obtain ⟨b, _, rfl⟩ := List.mem_map.1 hx
  exact ofS_cls b
theorem byL_len (s : ByteArray) : (byL s).length = s.size := by simp [byL]
theorem byL_cut (s : ByteArray) (n : Nat) (h : n ≤ s.size) : byL (s.extract 0 n) ++ byL (s.extract n s.size) = byL s := by
  unfold byL
  rw [← List.map_append]
  congr 1
  have h2 : s.size = s.data.toList.length := by simp
  simp only [ByteArray.data_extract, Array.toList_extract, List.extract, Nat.sub_zero, List.drop_zero]
  rw [h2, ← List.length_drop, List.take_length, List.take_append_drop]
theorem word_may (s : ByteArray) (hs : s.size ≤ 100) : mayB (foldL 4 2 (byL s)) = true := by
  have h1 := word_ok (byL s) (byL_cls s)
  have h2 := word_sz (byL s) (byL_cls s)
  rw [byL_len] at h2
  unfold mayB
  rw [h1, decide_eq_true (by omega)]; rfl
theorem pair_may (s : ByteArray) (n : Nat) (h : n ≤ s.size) (hs : s.size ≤ 100) : nrmZ (.mk 4 0 0 0 0 [foldL 4 2 (byL (s.extract 0 n)), foldL 4 2 (byL (s.extract n s.size))]) = foldL 4 2 (byL s) ∧ (Re.mk 4 0 0 0 0 [foldL 4 2 (byL (s.extract 0 n)), foldL 4 2 (byL (s.extract n s.size))]).sz ≤ 1000 := by
  have e1 : (s.extract 0 n).size = n := by rw [ByteArray.size_extract]; omega
  have e2 : (s.extract n s.size).size = s.size - n := by rw [ByteArray.size_extract]; omega
  have a1 := word_ok _ (byL_cls (s.extract 0 n))
  have a2 := word_ok _ (byL_cls (s.extract n s.size))
  have z1 := word_sz _ (byL_cls (s.extract 0 n))
  have z2 := word_sz _ (byL_cls (s.extract n s.size))
  rw [byL_len, e1] at z1
  rw [byL_len, e2] at z2
  have hz : (Re.mk 4 0 0 0 0 [foldL 4 2 (byL (s.extract 0 n)), foldL 4 2 (byL (s.extract n s.size))]).sz ≤ 1000 := by rw [sz_two]; omega
  refine ⟨?_, hz⟩
  have hm : mayB (Re.mk 4 0 0 0 0 [foldL 4 2 (byL (s.extract 0 n)), foldL 4 2 (byL (s.extract n s.size))]) = true := by
    unfold mayB
    rw [nodesOk_two (.inl rfl) a1 a2, decide_eq_true (by omega)]; rfl
  rw [nrmZ, if_pos hm, nrm_two _ _ _ (.inl rfl), if_pos rfl, word_nrm _ (byL_cls _), word_nrm _ (byL_cls _), word_sq _ (byL_cls _) _ (byL_cls _), byL_cut s n h]

theorem normWords (s : ByteArray) (k : UInt8) : AP Try.prog 4 [.s s, .y k] (.b true) := by
  by_cases hs : (100 : Int) < s.size
  · refine AC.lbody hT hm Try.func4 f4_nm f4_lc f4_res f4_nt ?_
    simp only [go_sem, Int.reduceEq, Int.reduceLE, Int.reduceLT, Int.reduceToNat, hs]
    refine awake8.pv trivial ?_
    simp only [go_sem, Int.reduceEq, Int.reduceLE, Int.reduceLT, Int.reduceToNat]
    exact Fin.v rfl
  have hs' : s.size ≤ 100 := by omega
  have w := rexWord s (by omega)
  have wm := word_may s hs'
  have wz := word_sz _ (byL_cls s)
  rw [byL_len] at wz
  have hi := nIs [foldL 4 2 (byL s)] (by simp) (by intro x hx; rw [List.mem_singleton.1 hx]; omega)
  have ei : [foldL 4 2 (byL s)].all isB1 = true := by
    simp only [List.all_cons, List.all_nil, Bool.and_true]
    rw [isB1, wm, word_nrm _ (byL_cls s), Re.same_self]; rfl
  rw [ei] at hi
  have hk := k.toNat_lt
  have g1 : IntKind.wrap .i64 ((s.size : Int) + 1) = ((s.size + 1 : Nat) : Int) := wrap_succ s.size (by omega)
  have g2 : IntKind.wrap .i64 (k.toNat : Int) = (k.toNat : Int) := wrap_nat _ (by omega)
  obtain ⟨n, hn, g3⟩ : ∃ n : Nat, n ≤ s.size ∧ (k.toNat : Int).tmod ((s.size + 1 : Nat) : Int) = n := by
    refine ⟨k.toNat % (s.size + 1), ?_, rfl⟩
    have := Nat.mod_lt k.toNat (show 0 < s.size + 1 by omega)
    omega
  have g4 : ¬ ((s.size + 1 : Nat) : Int) = 0 := by omega
  have e1 : (s.extract 0 n).size = n := by rw [ByteArray.size_extract]; omega
  have e2 : (s.extract n s.size).size = s.size - n := by rw [ByteArray.size_extract]; omega
  have w1 := rexWord (s.extract 0 n) (by omega)
  have w2 := rexWord (s.extract n s.size) (by omega)
  obtain ⟨hp, hpz⟩ := pair_may s n hn hs'
  generalize foldL 4 2 (byL (s.extract 0 n)) = W1 at *
  generalize foldL 4 2 (byL (s.extract n s.size)) = W2 at *
  have ht := rexThen [W1, W2] (by simp)
  rw [show foldL 4 2 [W1, W2] = .mk 4 0 0 0 0 [W1, W2] from rfl] at ht
  have hN := nNormZ (.mk 4 0 0 0 0 [W1, W2]) (by omega)
  rw [hp] at hN
  have hS := same (foldL 4 2 (byL s)) (foldL 4 2 (byL s))
  rw [Re.same_self] at hS
  generalize foldL 4 2 (byL s) = W at *
  refine AC.lbody hT hm Try.func4 f4_nm f4_lc f4_res f4_nt ?_
  simp only [go_sem, Int.reduceEq, Int.reduceLE, Int.reduceLT, Int.reduceToNat, hs, g1, g2, if_neg g4, g3]
  refine w.pd ⟨.v, trivial⟩ (Re.d_bl _) ?_
  simp only [go_sem, Int.reduceEq, Int.reduceLE, Int.reduceLT, Int.reduceToNat]
  refine hi.qv ⟨.same (Res_bl' [W]), trivial⟩ ?_
  simp only [go_sem, Int.reduceEq, Int.reduceLE, Int.reduceLT, Int.reduceToNat]
  rw [if_pos ⟨Nat.zero_le _, hn⟩]
  simp only [go_sem, Int.reduceEq, Int.reduceLE, Int.reduceLT, Int.reduceToNat]
  refine w1.qd ⟨.v, trivial⟩ (Re.d_bl _) ?_
  simp only [go_sem, Int.reduceEq, Int.reduceLE, Int.reduceLT, Int.reduceToNat]
  rw [if_pos ⟨hn, Nat.le_refl _⟩]
  simp only [go_sem, Int.reduceEq, Int.reduceLE, Int.reduceLT, Int.reduceToNat]
  refine w2.qd ⟨.v, trivial⟩ (Re.d_bl _) ?_
  simp only [go_sem, Int.reduceEq, Int.reduceLE, Int.reduceLT, Int.reduceToNat]
  refine ht.qd ⟨.same (Res_bl' [W1, W2]), trivial⟩ (Re.d_bl _) ?_
  simp only [go_sem, Int.reduceEq, Int.reduceLE, Int.reduceLT, Int.reduceToNat]
  refine hN.qd ⟨.same (by simp), trivial⟩ (Re.d_bl _) ?_
  simp only [go_sem, Int.reduceEq, Int.reduceLE, Int.reduceLT, Int.reduceToNat]
  refine hS.qv (by simp) ?_
  simp only [go_sem, Int.reduceEq, Int.reduceLE, Int.reduceLT, Int.reduceToNat]
  refine awake8.qv trivial ?_
  simp only [go_sem, Int.reduceEq, Int.reduceLE, Int.reduceLT, Int.reduceToNat]
  exact Fin.v rfl
end Go.Proofs.Ytfpfcokhnddddaa.W
