/- A text's front; as often as one likes, from the front. -/
import Derived.Test.YteifkcgokjmcjaaMatchMath
set_option linter.unusedVariables false
set_option linter.unusedSimpArgs false
set_option linter.unusedSectionVars false
set_option maxRecDepth 100000
/- A text's front; as often as one likes, from the front. -/
namespace Go.Proofs.Yteifkcgokjmcjaa.AWP
open Go

theorem StarR.front {R R' : Nat → Nat → Prop} {n : Nat} (h : ∀ i j, j ≤ n → (R' i j ↔ R i j)) (hR : ∀ i j, R i j → i ≤ j) (hR' : ∀ i j, R' i j → i ≤ j) {i j : Nat} (hj : j ≤ n) : StarR R' i j ↔ StarR R i j := by
  constructor
  · intro hs
    induction hs with
    | refl => exact .refl _
    | step _ h2 ih =>
      have := hR' _ _ h2
      exact .step (ih (by omega)) ((h _ _ hj).1 h2)
  · intro hs
    induction hs with
    | refl => exact .refl _
    | step _ h2 ih =>
      have := hR _ _ h2
      exact .step (ih (by omega)) ((h _ _ hj).2 h2)
theorem mt_front {s s' : ByteArray} (hs : s'.size ≤ s.size) (hb : ∀ i, i < s'.size → byteAt s' i = byteAt s i) (r : Re) : r.nodesOk = true → ∀ i j, j ≤ s'.size → (r.mt s' i j ↔ r.mt s i j) := by
  have key : r.nodesOk = true → r.nodesOk = true ∧ ∀ i j, j ≤ s'.size → (r.mt s' i j ↔ r.mt s i j) := by
    refine Re.indOk (p := fun r => r.nodesOk = true ∧ ∀ i j, j ≤ s'.size → (r.mt s' i j ↔ r.mt s i j)) ?_ ?_ ?_ ?_ r
    · rintro k' (rfl | rfl)
      · exact ⟨by decide, fun i j _ => by rw [mt_1, mt_1]⟩
      · exact ⟨by decide, fun i j _ => by rw [mt_2, mt_2]⟩
    · intro a b c d hn
      refine ⟨?_, fun i j hj => ?_⟩
      · rw [Re.nodesOk, Re.nodesOks]
        simp [Re.nodeOk, hn]
      · rw [mt_3, mt_3]
        constructor
        · rintro ⟨h1, h2, h3⟩
          exact ⟨by omega, h2, by rw [← hb i h1]; exact h3⟩
        · rintro ⟨h1, h2, h3⟩
          have h1' : i < s'.size := by omega
          exact ⟨h1', h2, by rw [hb i h1']; exact h3⟩
    · rintro k' x y hk hox hoy ⟨_, hx⟩ ⟨_, hy⟩
      refine ⟨?_, fun i j hj => ?_⟩
      · rw [Re.nodesOk, Re.nodesOks, Re.nodesOks, Re.nodesOks, hox, hoy]
        rcases hk with rfl | rfl <;> rfl
      · rcases hk with rfl | rfl
        · rw [mt_4, mt_4]
          constructor
          · rintro ⟨m, h1, h2⟩
            have := (mt_le y hoy _ _ h2).1
            exact ⟨m, (hx _ _ (by omega)).1 h1, (hy _ _ hj).1 h2⟩
          · rintro ⟨m, h1, h2⟩
            have := (mt_le y hoy _ _ h2).1
            exact ⟨m, (hx _ _ (by omega)).2 h1, (hy _ _ hj).2 h2⟩
        · rw [mt_5, mt_5, hx _ _ hj, hy _ _ hj]
    · rintro x hox ⟨_, hx⟩
      refine ⟨?_, fun i j hj => ?_⟩
      · rw [Re.nodesOk, Re.nodesOks, Re.nodesOks, hox]; rfl
      · rw [mt_6, mt_6]
        exact StarR.front hx (fun i j h => (mt_le x hox _ _ h).1) (fun i j h => (mt_le x hox _ _ h).1) hj
  exact fun h => (key h).2
theorem StarR.head {R : Nat → Nat → Prop} {i j : Nat} (h : StarR R i j) : i = j ∨ ∃ m, i ≠ m ∧ R i m ∧ StarR R m j := by
  induction h with
  | refl => exact .inl rfl
  | step hs h2 ih =>
    rename_i m k
    rcases ih with rfl | ⟨m', h3, h4, h5⟩
    · by_cases e : i = k
      · exact .inl e
      · exact .inr ⟨k, e, h2, .refl k⟩
    · exact .inr ⟨m', h3, h4, .step h5 h2⟩
theorem StarR.cons {R : Nat → Nat → Prop} {i m j : Nat} (h : R i m) (h' : StarR R m j) : StarR R i j := (StarR.one h).trans h'
end Go.Proofs.Yteifkcgokjmcjaa.AWP
