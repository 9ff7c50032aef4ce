/- A text's bytes, one behind the other: their own normal form. -/
import Derived.Test.YtfpfcokhnddddaaMath
set_option linter.unusedVariables false
set_option linter.unusedSimpArgs false
set_option linter.unusedSectionVars false
set_option maxRecDepth 100000
/- A text's bytes, one behind the other: their own normal form. -/
namespace Go.Proofs.Ytfpfcokhnddddaa.AWP
open Go

theorem foldL_nil (k n : Int) : foldL k n [] = .mk n 0 0 0 0 [] := rfl
theorem foldL_one (k n : Int) (x : Re) : foldL k n [x] = x := rfl
theorem foldL_two (k n : Int) (x y : Re) (l : List Re) : foldL k n (x :: y :: l) = .mk k 0 0 0 0 [x, foldL k n (y :: l)] := by
  rcases List.eq_nil_or_concat (y :: l) with h | ⟨m, z, h⟩
  · cases h
  · rw [List.concat_eq_append] at h
    rw [h]
    have e0 : ∀ (m : List Re) (z : Re), foldL k n (m ++ [z]) = foldR k m z := by intro m z; simp [foldL]
    have e1 : foldL k n (x :: (m ++ [z])) = foldR k (x :: m) z := e0 (x :: m) z
    have e2 := e0 m z
    rw [e1, e2]; rfl
def clsR (x : Re) : Prop := ∃ a b c d : Int, x = .mk 3 a b c d [] ∧ ¬ (a = 0 ∧ b = 0 ∧ c = 0 ∧ d = 0)
theorem clsR.ok {x : Re} (h : clsR x) : x.nodesOk = true := by obtain ⟨a, b, c, d, rfl, h⟩ := h; exact nodesOk_cls h
theorem word_kd (l : List Re) (hl : ∀ x ∈ l, clsR x) : (foldL 4 2 l).kd ≠ 1 ∧ ((foldL 4 2 l).kd = 2 ↔ l = []) := by
  cases l with
  | nil => rw [foldL_nil]; simp [Re.kd]
  | cons x l =>
    cases l with
    | nil =>
      obtain ⟨a, b, c, d, rfl, _⟩ := hl x (by simp)
      rw [foldL_one]; simp [Re.kd]
    | cons y l => rw [foldL_two]; simp [Re.kd]
theorem cls_sq {x : Re} (h : clsR x) {r : Re} (h1 : r.kd ≠ 1) : x.sq r = if r.kd = 2 then x else .mk 4 0 0 0 0 [x, r] := by
  obtain ⟨a, b, c, d, rfl, _⟩ := h
  rw [Re.sq]
  · simp [h1]
  · intro x y e; cases e
theorem word_sq (l : List Re) (hl : ∀ x ∈ l, clsR x) (m : List Re) (hm : ∀ x ∈ m, clsR x) : (foldL 4 2 l).sq (foldL 4 2 m) = foldL 4 2 (l ++ m) := by
  obtain ⟨m1, m2⟩ := word_kd m hm
  cases l with
  | nil =>
    rw [foldL_nil, Re.sq, List.nil_append]
    · simp [m1]
    · intro x y e; cases e
  | cons x l =>
    induction l generalizing x with
    | nil =>
      rw [foldL_one, cls_sq (hl x (by simp)) m1]
      cases m with
      | nil => rw [if_pos (m2.2 rfl)]; rfl
      | cons y m => rw [if_neg (fun h => by simpa using m2.1 h), List.singleton_append, foldL_two]
    | cons y l ih =>
      rw [foldL_two, sq_two _ _ _ _ (.inl rfl), if_neg m1]
      cases m with
      | nil => rw [if_pos (m2.2 rfl), List.append_nil, foldL_two]
      | cons z m =>
        rw [if_neg (fun h => by simpa using m2.1 h), if_pos rfl, ih y (fun w hw => hl w (by simp at hw ⊢; exact .inr hw))]
        have hall : ∀ w ∈ y :: l ++ (z :: m), clsR w := by
          intro w hw
          rcases List.mem_append.1 hw with h | h
          · exact hl w (by simp at h ⊢; exact .inr h)
          · exact hm w h
        obtain ⟨q1, q2⟩ := word_kd _ hall
        rw [cls_sq (hl x (by simp)) q1, if_neg (fun h => by simpa using q2.1 h)]
        simp only [List.cons_append]
        rw [foldL_two]
theorem word_nrm (l : List Re) (hl : ∀ x ∈ l, clsR x) : (foldL 4 2 l).nrm = foldL 4 2 l := by
  cases l with
  | nil => rw [foldL_nil, nrm_leaf]
  | cons x l =>
    induction l generalizing x with
    | nil =>
      obtain ⟨a, b, c, d, rfl, _⟩ := hl x (by simp)
      rw [foldL_one, nrm_leaf]
    | cons y l ih =>
      have hx := hl x (by simp)
      rw [foldL_two, nrm_two _ _ _ (.inl rfl), if_pos rfl, ih y (fun w hw => hl w (by simp at hw ⊢; exact .inr hw))]
      obtain ⟨a, b, c, d, rfl, h⟩ := hx
      rw [nrm_leaf]
      obtain ⟨q1, q2⟩ := word_kd (y :: l) (fun w hw => hl w (by simp at hw ⊢; exact .inr hw))
      rw [cls_sq ⟨a, b, c, d, rfl, h⟩ q1, if_neg (fun h => by simpa using q2.1 h)]
theorem word_ok (l : List Re) (hl : ∀ x ∈ l, clsR x) : (foldL 4 2 l).nodesOk = true := foldL_ok (.inl rfl) (.inr rfl) l fun x hx => (hl x hx).ok
theorem word_sz (l : List Re) (hl : ∀ x ∈ l, clsR x) : (foldL 4 2 l).sz ≤ 2 * l.length + 1 := by
  cases l with
  | nil => rw [foldL_nil, sz_leaf]; omega
  | cons x l =>
    induction l generalizing x with
    | nil =>
      obtain ⟨a, b, c, d, rfl, _⟩ := hl x (by simp)
      rw [foldL_one, sz_leaf]; simp
    | cons y l ih =>
      have := ih y (fun w hw => hl w (by simp at hw ⊢; exact .inr hw))
      obtain ⟨a, b, c, d, rfl, _⟩ := hl x (by simp)
      rw [foldL_two, sz_two, sz_leaf]
      simp at this ⊢; omega
theorem ofS_ne (b : UInt8) : ofS [b] ≠ noneS := by
  have key : ∀ n : _root_.Fin 256, ofS [UInt8.ofNat n.val] ≠ noneS := by decide +kernel
  have := key ⟨b.toNat, b.toNat_lt⟩
  simpa using this
theorem ofS_cls (b : UInt8) : clsR (reS (ofS [b])) := by
  obtain ⟨x, y, z, w, h⟩ := four (show (ofS [b]).length = 4 from ofS_len [b])
  have hn := ofS_ne b
  rw [h] at hn ⊢
  refine ⟨x, y, z, w, if_neg hn, fun hh => hn ?_⟩
  obtain ⟨rfl, rfl, rfl, rfl⟩ := hh
  rfl
end Go.Proofs.Ytfpfcokhnddddaa.AWP
