/- The order of expressions: plain laws. -/
import Derived.Test.YtbpkppidbdhopaaReData
set_option linter.unusedSectionVars false
set_option linter.unusedVariables false
set_option linter.unusedSimpArgs false
/- The order of expressions: plain laws. -/
namespace Go.Proofs.Ytbpkppidbdhopaa.AWP
open Go

theorem cmpI_neg (x y : Int) : cmpI y x = - cmpI x y := by unfold cmpI; split <;> split <;> (try split) <;> omega
theorem orI_neg (x y : Int) : orI (-x) (-y) = - orI x y := by unfold orI; split <;> split <;> omega
theorem setCmp_neg (a b c d a' b' c' d' : Int) : setCmp a' b' c' d' a b c d = - setCmp a b c d a' b' c' d' := by
  simp only [setCmp, cmpI_neg a a', cmpI_neg b b', cmpI_neg c c', cmpI_neg d d', orI_neg]

mutual
theorem Re.cmp_neg : ∀ (x y : Re), y.cmp x = - x.cmp y
  | .mk k a b c d ks, .mk k' a' b' c' d' ks' => by
    rw [Re.cmp, Re.cmp, cmpI_neg k k', setCmp_neg a b c d, Re.cmps_neg ks ks', orI_neg, orI_neg]
theorem Re.cmps_neg : ∀ (l m : List Re), Re.cmps m l = - Re.cmps l m
  | [], [] => by simp [Re.cmps]
  | [], _ :: _ => by simp [Re.cmps]
  | _ :: _, [] => by simp [Re.cmps]
  | x :: l, y :: m => by rw [Re.cmps, Re.cmps, Re.cmp_neg x y, Re.cmps_neg l m, orI_neg]
end

def Rng (x : Int) : Prop := -1 ≤ x ∧ x ≤ 1
theorem Rng.orI {x y : Int} (h : Rng x) (h' : Rng y) : Rng (orI x y) := by unfold Rng AWP.orI at *; split <;> omega
theorem Rng.cmpI (x y : Int) : Rng (cmpI x y) := by unfold Rng AWP.cmpI; split <;> (try split) <;> omega
mutual
theorem Re.rng : ∀ (x y : Re), Rng (x.cmp y)
  | .mk k a b c d ks, .mk k' a' b' c' d' ks' => by
    rw [Re.cmp]
    exact (Rng.cmpI _ _).orI (((Rng.cmpI _ _).orI ((Rng.cmpI _ _).orI ((Rng.cmpI _ _).orI (Rng.cmpI _ _)))).orI (Re.rngs ks ks'))
theorem Re.rngs : ∀ (x y : List Re), Rng (Re.cmps x y)
  | [], [] => by simp [Re.cmps, Rng]
  | [], _ :: _ => by simp [Re.cmps, Rng]
  | _ :: _, [] => by simp [Re.cmps, Rng]
  | x :: l, y :: m => by
    rw [Re.cmps]
    exact (Re.rng x y).orI (Re.rngs l m)
end

/-- How three comparisons of three fit. -/
def Tri (p q r : Int) : Prop := (p = 0 → r = q) ∧ (q = 0 → r = p) ∧ (p < 0 → q < 0 → r < 0) ∧ (0 < p → 0 < q → 0 < r)
theorem Tri.orI {p q r p' q' r' : Int} (h : Tri p q r) (h' : Tri p' q' r') : Tri (orI p p') (orI q q') (orI r r') := by
  unfold Tri AWP.orI at *
  split <;> split <;> split <;> omega
theorem Tri.cmpI (x y z : Int) : Tri (cmpI x y) (cmpI y z) (cmpI x z) := by
  unfold Tri AWP.cmpI
  split <;> split <;> split <;> (try split) <;> (try split) <;> (try split) <;> omega
theorem Tri.set (a b c d a' b' c' d' a2 b2 c2 d2 : Int) : Tri (setCmp a b c d a' b' c' d') (setCmp a' b' c' d' a2 b2 c2 d2) (setCmp a b c d a2 b2 c2 d2) :=
  (Tri.cmpI _ _ _).orI ((Tri.cmpI _ _ _).orI ((Tri.cmpI _ _ _).orI (Tri.cmpI _ _ _)))
mutual
theorem Re.tri : ∀ (x y z : Re), Tri (x.cmp y) (y.cmp z) (x.cmp z)
  | .mk k a b c d ks, .mk k' a' b' c' d' ks', .mk k2 a2 b2 c2 d2 ks2 => by
    rw [Re.cmp, Re.cmp, Re.cmp]
    exact (Tri.cmpI _ _ _).orI ((Tri.set ..).orI (Re.tris ks ks' ks2))
theorem Re.tris : ∀ (x y z : List Re), Tri (Re.cmps x y) (Re.cmps y z) (Re.cmps x z)
  | [], [], [] => by simp [Re.cmps, Tri]
  | [], [], _ :: _ => by simp [Re.cmps, Tri]
  | [], _ :: _, [] => by simp [Re.cmps, Tri]
  | [], y :: m, z :: n => by rw [Re.cmps, Re.cmps, Re.cmps]; unfold Tri; omega
  | _ :: _, [], [] => by simp [Re.cmps, Tri]
  | _ :: _, [], _ :: _ => by simp [Re.cmps, Tri]
  | x :: l, y :: m, [] => by rw [Re.cmps, Re.cmps, Re.cmps]; unfold Tri; omega
  | x :: l, y :: m, z :: n => by
    rw [Re.cmps, Re.cmps, Re.cmps]
    exact (Re.tri x y z).orI (Re.tris l m n)
end

/-! ### Sameness -/
mutual
def Re.same : Re → Re → Bool
  | .mk k a b c d ks, .mk k' a' b' c' d' ks' => decide (k = k' ∧ a = a' ∧ b = b' ∧ c = c' ∧ d = d') && Re.sames ks ks'
def Re.sames : List Re → List Re → Bool
  | [], [] => true
  | x :: l, y :: m => x.same y && Re.sames l m
  | _, _ => false
end
theorem cmpI_zero (x y : Int) : cmpI x y = 0 ↔ x = y := by unfold cmpI; split <;> (try split) <;> omega
theorem orI_eq_zero (x y : Int) : orI x y = 0 ↔ x = 0 ∧ y = 0 := by unfold orI; split <;> simp_all
mutual
theorem Re.same_cmp : ∀ (x y : Re), x.same y = decide (x.cmp y = 0)
  | .mk k a b c d ks, .mk k' a' b' c' d' ks' => by
    rw [Re.same, Re.cmp, Re.sames_cmp ks ks']
    simp only [orI_eq_zero, cmpI_zero, setCmp]
    rw [Bool.eq_iff_iff]
    simp only [Bool.and_eq_true, decide_eq_true_eq]
    constructor
    · rintro ⟨⟨h1, h2, h3, h4, h5⟩, h6⟩; exact ⟨h1, ⟨h2, h3, h4, h5⟩, h6⟩
    · rintro ⟨h1, ⟨h2, h3, h4, h5⟩, h6⟩; exact ⟨⟨h1, h2, h3, h4, h5⟩, h6⟩
theorem Re.sames_cmp : ∀ (x y : List Re), Re.sames x y = decide (Re.cmps x y = 0)
  | [], [] => by simp [Re.sames, Re.cmps]
  | [], _ :: _ => by simp [Re.sames, Re.cmps]
  | _ :: _, [] => by simp [Re.sames, Re.cmps]
  | x :: l, y :: m => by
    rw [Re.sames, Re.cmps, Re.same_cmp x y, Re.sames_cmp l m]
    simp only [orI_eq_zero, Bool.decide_and]
end

theorem Re.sames_len : ∀ (x y : List Re), ¬ x.length = y.length → Re.sames x y = false
  | [], [], h => absurd rfl h
  | [], _ :: _, _ => by simp [Re.sames]
  | _ :: _, [], _ => by simp [Re.sames]
  | x :: l, y :: m, h => by
    rw [Re.sames, Re.sames_len l m (by simpa using h), Bool.and_false]

/-! ### Counting -/
mutual
def Re.cnt (most : Int) : Re → Int
  | .mk _ _ _ _ _ ks => Re.cnts most ks 1
def Re.cnts (most : Int) : List Re → Int → Int
  | [], t => t
  | x :: l, t => if most < t then t else Re.cnts most l (IntKind.wrap .i64 (t + Re.cnt most x))
end
end Go.Proofs.Ytbpkppidbdhopaa.AWP
