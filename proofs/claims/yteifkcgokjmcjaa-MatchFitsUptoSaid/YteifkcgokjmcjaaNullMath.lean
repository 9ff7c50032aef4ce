/- Which expressions fit the empty text; which fit nothing. -/
import Derived.Test.YteifkcgokjmcjaaMath
set_option linter.unusedVariables false
set_option linter.unusedSimpArgs false
set_option linter.unusedSectionVars false
set_option maxRecDepth 100000
/- Which expressions fit the empty text; which fit nothing. -/
namespace Go.Proofs.Yteifkcgokjmcjaa.AWP
open Go

def Re.nul : Re → Bool
  | .mk k _ _ _ _ [x, y] => if k = 4 then x.nul && y.nul else if k = 5 then x.nul || y.nul else decide (k = 2 ∨ k = 6)
  | .mk k _ _ _ _ _ => decide (k = 2 ∨ k = 6)
def Re.fit : Re → Bool
  | .mk k _ _ _ _ [x, y] => if k = 4 then x.fit && y.fit else if k = 5 then x.fit || y.fit else decide (k ≠ 1)
  | .mk k _ _ _ _ _ => decide (k ≠ 1)

/-- First bytes. -/
def Re.fst : Re → List Int
  | .mk k _ _ _ _ [x, y] => if k = 4 then (if x.fit && y.fit then (if x.nul then joinAll [x.fst, y.fst] else x.fst) else noneS) else joinAll [x.fst, y.fst]
  | .mk _ _ _ _ _ [x] => x.fst
  | .mk k a b c d _ => if k = 3 then [a, b, c, d] else noneS

/-- What nodes there are. -/
theorem Re.ok_cases {r : Re} (h : r.nodesOk = true) : (∃ k, (k = 1 ∨ k = 2) ∧ r = .mk k 0 0 0 0 []) ∨ (∃ a b c d, ¬ (a = 0 ∧ b = 0 ∧ c = 0 ∧ d = 0) ∧ r = .mk 3 a b c d []) ∨
    (∃ k x y, (k = 4 ∨ k = 5) ∧ r = .mk k 0 0 0 0 [x, y] ∧ x.nodesOk = true ∧ y.nodesOk = true) ∨ ∃ x, r = .mk 6 0 0 0 0 [x] ∧ x.nodesOk = true := by
  obtain ⟨k, a, b, c, d, ks⟩ := r
  rw [Re.nodesOk, Bool.and_eq_true] at h
  obtain ⟨h1, h2⟩ := h
  unfold Re.nodeOk at h1
  dsimp only at h1
  split at h1
  · rename_i hk
    simp only [Bool.and_eq_true, decide_eq_true_eq] at h1
    obtain ⟨e, rfl, rfl, rfl, rfl⟩ := h1
    exact .inl ⟨k, hk, by rw [List.eq_nil_of_length_eq_zero e]⟩
  split at h1
  · rename_i hk
    subst hk
    simp only [Bool.and_eq_true, decide_eq_true_eq, Bool.not_eq_true', decide_eq_false_iff_not] at h1
    exact .inr (.inl ⟨a, b, c, d, h1.2, by rw [List.eq_nil_of_length_eq_zero h1.1]⟩)
  split at h1
  · rename_i hk
    simp only [Bool.and_eq_true, decide_eq_true_eq] at h1
    obtain ⟨e, rfl, rfl, rfl, rfl⟩ := h1
    match ks, e with
    | [x, y], _ =>
      rw [Re.nodesOks, Re.nodesOks, Re.nodesOks] at h2
      simp only [Bool.and_eq_true, and_true] at h2
      exact .inr (.inr (.inl ⟨k, x, y, hk, rfl, h2.1, h2.2⟩))
  split at h1
  · rename_i hk
    subst hk
    simp only [Bool.and_eq_true, decide_eq_true_eq] at h1
    obtain ⟨e, rfl, rfl, rfl, rfl⟩ := h1
    match ks, e with
    | [x], _ =>
      rw [Re.nodesOks, Re.nodesOks] at h2
      simp only [Bool.and_eq_true, and_true] at h2
      exact .inr (.inr (.inr ⟨x, rfl, h2⟩))
  · cases h1
/-- By these nodes. -/
theorem Re.indOk {p : Re → Prop} (h12 : ∀ k, (k = 1 ∨ k = 2) → p (.mk k 0 0 0 0 [])) (h3 : ∀ a b c d, ¬ (a = 0 ∧ b = 0 ∧ c = 0 ∧ d = 0) → p (.mk 3 a b c d []))
    (h45 : ∀ k x y, (k = 4 ∨ k = 5) → x.nodesOk = true → y.nodesOk = true → p x → p y → p (.mk k 0 0 0 0 [x, y])) (h6 : ∀ x, x.nodesOk = true → p x → p (.mk 6 0 0 0 0 [x])) (r : Re) : r.nodesOk = true → p r := by
  refine Re.ind (p := fun r => r.nodesOk = true → p r) ?_ r
  intro k a b c d ks ih h
  rcases Re.ok_cases h with ⟨k', hk, e⟩ | ⟨a', b', c', d', hn, e⟩ | ⟨k', x, y, hk, e, hx, hy⟩ | ⟨x, e, hx⟩
  · cases e; exact h12 k hk
  · cases e; exact h3 a b c d hn
  · cases e; exact h45 k x y hk hx hy (ih x (by simp) hx) (ih y (by simp) hy)
  · cases e; exact h6 x hx (ih x (by simp) hx)

/-! ### All words in range -/
mutual
def Re.wd : Re → Prop
  | .mk _ a b c d ks => W64 [a, b, c, d] ∧ Re.wds ks
def Re.wds : List Re → Prop
  | [] => True
  | r :: l => r.wd ∧ Re.wds l
end
theorem Re.wds_mem : ∀ {l : List Re} {x : Re}, Re.wds l → x ∈ l → x.wd
  | [], _, _, h => by cases h
  | r :: l, x, h, hx => by
    rw [Re.wds] at h
    rcases List.mem_cons.1 hx with rfl | hx
    · exact h.1
    · exact Re.wds_mem h.2 hx
theorem Re.wds_of : ∀ {l : List Re}, (∀ x ∈ l, x.wd) → Re.wds l
  | [], _ => by rw [Re.wds]; trivial
  | r :: l, h => by rw [Re.wds]; exact ⟨h r (by simp), Re.wds_of fun x hx => h x (by simp [hx])⟩

/-! ### Counted as far as some -/
theorem cnts_le {m : Int} (hm : m ≤ 4611686018427387903) : ∀ (l : List Re) (t : Int), (∀ x ∈ l, (1 ≤ x.cnt m) ∧ x.cnt m ≤ x.sz) → 1 ≤ t → t + Re.szs l ≤ 4611686018427387903 → t ≤ Re.cnts m l t ∧ Re.cnts m l t ≤ t + Re.szs l := by
  intro l
  induction l with
  | nil => intro t _ _ _; simp [Re.cnts, Re.szs]
  | cons x l ih =>
    intro t hx ht hs
    obtain ⟨h1, h2⟩ := hx x (by simp)
    rw [Re.szs] at hs ⊢
    rw [Re.cnts]
    split
    · omega
    · rw [wrap_int _ (by omega) (by omega)]
      have := ih (t + x.cnt m) (fun y hy => hx y (by simp [hy])) (by omega) (by omega)
      omega
theorem cnt_le (m : Int) (hm : m ≤ 4611686018427387903) (r : Re) : r.sz ≤ 4611686018427387903 → 1 ≤ r.cnt m ∧ r.cnt m ≤ r.sz := by
  refine Re.ind (p := fun r => r.sz ≤ 4611686018427387903 → 1 ≤ r.cnt m ∧ r.cnt m ≤ r.sz) ?_ r
  intro k a b c d ks ih hz
  rw [Re.sz] at hz ⊢
  rw [Re.cnt]
  have := cnts_le hm ks 1 (fun x hx => ih x hx (by have := Re.sz_mem hx; omega)) (by omega) (by omega)
  omega
theorem cnts_ge {m : Int} (hm : m ≤ 4611686018427387903) : ∀ (l : List Re) (t : Int), (∀ x ∈ l, (1 ≤ x.cnt m) ∧ x.cnt m ≤ x.sz ∧ (x.cnt m ≤ m → x.cnt m = x.sz)) → 1 ≤ t → t + Re.szs l ≤ 4611686018427387903 → Re.cnts m l t ≤ m → Re.cnts m l t = t + Re.szs l := by
  intro l
  induction l with
  | nil => intro t _ _ _ _; simp [Re.cnts, Re.szs]
  | cons x l ih =>
    intro t hx ht hs hle
    obtain ⟨h1, h2, h3⟩ := hx x (by simp)
    rw [Re.szs] at hs ⊢
    rw [Re.cnts] at hle ⊢
    split at hle
    · omega
    · rename_i hn
      rw [if_neg hn]
      rw [wrap_int _ (by omega) (by omega)] at hle ⊢
      have h4 := cnts_le hm l (t + x.cnt m) (fun y hy => ⟨(hx y (by simp [hy])).1, (hx y (by simp [hy])).2.1⟩) (by omega) (by omega)
      have h5 := ih (t + x.cnt m) (fun y hy => hx y (by simp [hy])) (by omega) (by omega) hle
      have h6 := h3 (by omega)
      omega
theorem cnt_sz (m : Int) (hm : m ≤ 4611686018427387903) (r : Re) : r.sz ≤ 4611686018427387903 → r.cnt m ≤ m → r.cnt m = r.sz := by
  refine Re.ind (p := fun r => r.sz ≤ 4611686018427387903 → r.cnt m ≤ m → r.cnt m = r.sz) ?_ r
  intro k a b c d ks ih hz hle
  rw [Re.sz] at hz ⊢
  rw [Re.cnt] at hle ⊢
  rw [cnts_ge hm ks 1 (fun x hx => by
    have hzx : x.sz ≤ 4611686018427387903 := by have := Re.sz_mem hx; omega
    exact ⟨(cnt_le m hm x hzx).1, (cnt_le m hm x hzx).2, ih x hx hzx⟩) (by omega) (by omega) hle]
  omega
theorem intsEq_W : ∀ (a b : List Int), a.length = b.length → intsEq (a.map wD) (b.map wD) = some (decide (a = b))
  | [], [], _ => rfl
  | [], _ :: _, h => by cases h
  | _ :: _, [], h => by cases h
  | x :: a, y :: b, h => by
    have ih := intsEq_W a b (by simpa using h)
    show (intsEq (a.map wD) (b.map wD)).map (fun r => x == y && r) = _
    rw [ih]
    show some (x == y && decide (a = b)) = _
    congr 1
    by_cases h1 : x = y
    · subst h1; simp
    · rw [beq_false h1]; simp [h1]
end Go.Proofs.Yteifkcgokjmcjaa.AWP
