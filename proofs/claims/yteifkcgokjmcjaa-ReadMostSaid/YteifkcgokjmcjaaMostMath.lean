/- One letter over and over. -/
import Derived.Test.YteifkcgokjmcjaaMath
set_option linter.unusedVariables false
set_option linter.unusedSimpArgs false
set_option linter.unusedSectionVars false
set_option maxRecDepth 100000
/- One letter over and over. -/
namespace Go.Proofs.Yteifkcgokjmcjaa.AWP
open Go

def cA : Re := reS (ofS [97])
def aaa (n : Nat) : ByteArray := ⟨(List.replicate n (97 : UInt8)).toArray⟩
theorem aaa_size (n : Nat) : (aaa n).size = n := (ba_size _).trans (List.length_replicate ..)
theorem aaa_get {n p : Nat} (h : p < n) : (aaa n).data[p]? = some 97 := by simp [aaa, h]
theorem cA_ok : cA.nodesOk = true := by decide +kernel
theorem cA_sz : cA.sz = 1 := reS_sz _
section
variable {n : Nat} {A : Nat → PR}
theorem aaa_is {p : Nat} {l : ByteArray} (hl : decide (0 ≤ firstIdx l 97) = false) : isB (aaa n) p l = false := by
  by_cases h : p < n
  · rw [isB_at (aaa_get h), hl]
  · exact isB_end (by rw [aaa_size]; exact h)
theorem aaa_beg {p : Nat} (h : p < n) : begB (aaa n) p = true := by
  unfold begB
  rw [aaa_get h, aaa_is (by decide +kernel)]
  decide +kernel
theorem aaa_part {p : Nat} (h : p < n) : pPart A (aaa n) p = .ok cA (p + 1) := by
  have hs : pSign (aaa n) p = .ok 97 (p + 1) := by
    unfold pSign
    rw [if_pos (aaa_beg h), at_of (aaa_get h), if_neg (by decide)]
  have ha : pAtom A (aaa n) p = .ok cA (p + 1) := by
    unfold pAtom
    rw [aaa_is (by decide +kernel), aaa_is (by decide +kernel), aaa_is (by decide +kernel), if_neg (by simp), if_neg (by simp), if_neg (by simp), hs]
    rfl
  unfold pPart
  rw [ha]
  dsimp only
  rw [starGo_no (aaa_is (by decide +kernel))]
theorem aaa_row : ∀ (m : Nat) (l : List Re) (p : Nat), n - p = m → p ≤ n → rowGo A (aaa n) l p = .ok (foldL 4 2 (l ++ List.replicate m cA)) n := by
  intro m
  induction m with
  | zero =>
    intro l p hm hp
    have e : p = n := by omega
    subst e
    have e2 : begB (aaa p) p = false := begB_end (by rw [aaa_size]; omega)
    rw [rowGo, aaa_is (by decide +kernel), e2, if_neg (by simp)]
    simp
  | succ m ih =>
    intro l p hm hp
    rw [rowGo, aaa_beg (by omega), if_pos (by simp), aaa_part (by omega)]
    dsimp only
    rw [dif_pos (by rw [aaa_size]; omega), ih _ _ (by omega) (by omega), List.replicate_succ]
    simp
theorem aaa_alt (h : 1 ≤ n) : altF (aaa n) 0 = .ok (foldL 4 2 (List.replicate n cA)) n := by
  have hr : List.replicate n cA = [cA] ++ List.replicate (n - 1) cA := by
    conv => lhs; rw [show n = n - 1 + 1 from by omega, List.replicate_succ]
    rfl
  rw [altF_eq]
  unfold pAlt pRow
  rw [aaa_part (by omega)]
  dsimp only
  rw [aaa_row (n - 1) [cA] 1 (by omega) (by omega)]
  dsimp only
  rw [altGo, aaa_is (by decide +kernel), if_neg (by simp), ← hr]
  rfl
end
theorem foldR_ok (l : List Re) (x : Re) (h : ∀ y ∈ l, y.nodesOk = true) (hx : x.nodesOk = true) : (foldR 4 l x).nodesOk = true := by
  induction l with
  | nil => exact hx
  | cons y l ih =>
    show (Re.mk 4 0 0 0 0 [y, foldR 4 l x]).nodesOk = true
    rw [Re.nodesOk, Re.nodesOks, Re.nodesOks, Re.nodesOks, h y (by simp), ih fun z hz => h z (by simp [hz])]
    rfl
theorem foldL_ok (l : List Re) (hl : l ≠ []) (h : ∀ y ∈ l, y.nodesOk = true) : (foldL 4 2 l).nodesOk = true := by
  rcases List.eq_nil_or_concat l with h' | ⟨m, x, rfl⟩
  · exact absurd h' hl
  · rw [List.concat_eq_append] at h ⊢
    have e : foldL 4 2 (m ++ [x]) = foldR 4 m x := by simp [foldL]
    rw [e]
    exact foldR_ok m x (fun y hy => h y (by simp [hy])) (h x (by simp))
theorem szs_rep (n : Nat) : Re.szs (List.replicate n cA) = n := by
  induction n with
  | zero => rfl
  | succ n ih => rw [List.replicate_succ, Re.szs, ih, cA_sz]; omega
/-- What is said of a text of one letter: no. and place; the expression where there is an error. -/
theorem aaa_read (n : Nat) (h : 1 ≤ n) : (pRead (aaa n)).2 = (0, if 65536 < n then 3 else if 1000 < n then 4 else 0) ∧ (1000 < n → (pRead (aaa n)).1 = .mk 0 0 0 0 0 []) := by
  have hw : pWhole (aaa n) = (foldL 4 2 (List.replicate n cA), 0, 0) := by
    unfold pWhole
    rw [aaa_alt h]
    dsimp only
    rw [aaa_size, if_neg (by omega)]
  have hl : List.replicate n cA ≠ [] := by
    intro e
    have := congrArg List.length e
    simp at this; omega
  have hz := foldL_sz 4 2 (List.replicate n cA) hl
  rw [szs_rep, List.length_replicate] at hz
  have hok : (foldL 4 2 (List.replicate n cA)).nodesOk = true := foldL_ok _ hl fun y hy => by rw [List.eq_of_mem_replicate hy]; exact cA_ok
  have hm : mayB (foldL 4 2 (List.replicate n cA)) = decide (n ≤ 1000) := by
    unfold mayB
    rw [hok, Bool.true_and]
    exact decide_eq_decide.2 (by omega)
  unfold pRead
  rw [aaa_size, hw]
  dsimp only
  rw [hm]
  by_cases h1 : 65536 < n
  · rw [if_pos h1, if_pos h1]; exact ⟨rfl, fun _ => rfl⟩
  rw [if_neg h1, if_neg h1]
  by_cases h2 : 1000 < n
  · rw [if_pos ⟨rfl, by simp; omega⟩, if_pos h2]; exact ⟨rfl, fun _ => rfl⟩
  · rw [if_neg (by simp; omega), if_neg h2]; exact ⟨rfl, fun h => absurd h h2⟩
end Go.Proofs.Yteifkcgokjmcjaa.AWP
