/- The lowest bit of a word. -/
import Derived.Test.YtlejbkfefpfolaaGreatDoorAwpT
import Derived.Laws.StandIn
import Derived.Test.YtlejbkfefpfolaaGreatDoorAwpU
set_option linter.unusedVariables false
set_option linter.unusedSimpArgs false
set_option linter.unusedSectionVars false
namespace Go.Proofs.YtlejbkfefpfolaaGreatDoor.AWP
open Go
inductive Re where
 | mk (k : Int) (a b c d : Int) (ks : List Re)
instance : Inhabited Re := ⟨.mk 0 0 0 0 0 []⟩
mutual
def Re.c : Re → List D
 | .mk k a b c d ks => [.v (.int .u8 k), .v (.int .u64 a), .v (.int .u64 b), .v (.int .u64 c), .v (.int .u64 d), .sl 6 (Re.cs ks)]
def Re.cs : List Re → List (List D)
 | [] => []
 | r :: l => r.c :: Re.cs l
end
abbrev Re.d (r : Re) : D := .agg r.c
abbrev Res (l : List Re) : D := .sl 6 (Re.cs l)
@[go_sem] theorem Re.c_mk (k a b c d : Int) (ks : List Re) : (Re.mk k a b c d ks).c = [.v (.int .u8 k), .v (.int .u64 a), .v (.int .u64 b), .v (.int .u64 c), .v (.int .u64 d), .sl 6 (Re.cs ks)] := by rw [Re.c]
@[go_sem] theorem Re.cs_eq : ∀ (l : List Re), Re.cs l = l.map Re.c
 | [] => by rw [Re.cs]; rfl
 | r :: l => by rw [Re.cs, Re.cs_eq l]; rfl
@[go_sem, simp] theorem Re.c_len (r : Re) : r.c.length = 6 := by cases r; rw [Re.c_mk]; rfl
@[go_sem, simp] theorem Re.c_take (r : Re) : r.c.take 6 = r.c := List.take_of_length_le (by simp)
mutual
theorem Re.c_bl : ∀ (r : Re), ∀ d ∈ r.c, Bl 0 d
 | .mk k a b c d ks => by
  have h := Re.cs_bl ks
  rw [Re.c_mk]
  intro x hx
  simp only [List.mem_cons, List.not_mem_nil, or_false] at hx
  rcases hx with rfl | rfl | rfl | rfl | rfl | rfl
  ·simp
  ·simp
  ·simp
  ·simp
  ·simp
  ·exact .sl h
theorem Re.cs_bl : ∀ (l : List Re), ∀ r ∈ Re.cs l, ∀ d ∈ r, Bl 0 d
 | [] => by rw [Re.cs]; simp
 | r :: l => by
  have h1 := Re.c_bl r
  have h2 := Re.cs_bl l
  rw [Re.cs]
  intro x hx
  rcases List.mem_cons.1 hx with rfl | hx
  ·exact h1
  ·exact h2 x hx
end
@[simp] theorem Re.c_blT (r : Re) : (∀ d ∈ r.c, Bl 0 d) = True := eq_true r.c_bl
@[simp] theorem Re.cs_blT (l : List Re) : (∀ r ∈ Re.cs l, ∀ d ∈ r, Bl 0 d) = True := eq_true (Re.cs_bl l)
theorem Re.map_bl (l : List Re) : ∀ r ∈ l.map Re.c, ∀ d ∈ r, Bl 0 d := by rw [← Re.cs_eq]; exact Re.cs_bl l
@[simp] theorem Re.d_bl (r : Re) : Bl 0 (.agg r.c) := .agg r.c_bl
@[simp] theorem Re.pel_bl (r : Re) : Bl 0 (.pel r.c) := .pel r.c_bl
@[simp] theorem Res_bl (l : List Re) : Bl 0 (.sl 6 (l.map Re.c)) := by rw [← Re.cs_eq]; exact .sl (Re.cs_bl l)
@[simp] theorem Res_bl' (l : List Re) : Bl 0 (.sl 6 (Re.cs l)) := .sl (Re.cs_bl l)
mutual
def Re.Ok : Re → Prop
 | .mk _ _ _ _ _ ks => Re.Oks ks ∧ ks.length ≤ 9223372036854775807
def Re.Oks : List Re → Prop
 | [] => True
 | r :: l => r.Ok ∧ Re.Oks l
end
mutual
theorem Re.ok_of : ∀ (r : Re), (∀ d ∈ r.c, Wf d) → r.Ok
 | .mk k a b c d ks, h => by
  rw [Re.c_mk] at h
  have h' := h (.sl 6 (Re.cs ks)) (by simp)
  rw [Re.Ok]
  exact ⟨Re.oks_of ks h'.sl_mem, by have := h'.sl_len; rw [Re.cs_eq, List.length_map] at this; exact this⟩
theorem Re.oks_of : ∀ (l : List Re), (∀ r ∈ Re.cs l, ∀ d ∈ r, Wf d) → Re.Oks l
 | [], h => by rw [Re.Oks]; trivial
 | r :: l, h => by
  rw [Re.cs] at h
  rw [Re.Oks]
  exact ⟨Re.ok_of r (h r.c (by simp)), Re.oks_of l fun x hx => h x (by simp [hx])⟩
end
theorem Re.ok_agg {r : Re} (h : Wf (.agg r.c)) : r.Ok := Re.ok_of r h.agg_mem
def cmpI (x y : Int) : Int := if x < y then -1 else if y < x then 1 else 0
def orI (x y : Int) : Int := if x = 0 then y else x
def setCmp (a b c d a' b' c' d' : Int) : Int := orI (cmpI a a') (orI (cmpI b b') (orI (cmpI c c') (cmpI d d')))
def cmpsI : List Int → List Int → Int
 | [], [] => 0
 | [], _ :: _ => -1
 | _ :: _, [] => 1
 | x :: l, y :: m => orI (cmpI x y) (cmpsI l m)
mutual
def Re.cmp : Re → Re → Int
 | .mk k a b c d ks, .mk k' a' b' c' d' ks' => orI (cmpI k k') (orI (setCmp a b c d a' b' c' d') (Re.cmps ks ks'))
def Re.cmps : List Re → List Re → Int
 | [], [] => 0
 | [], _ :: _ => -1
 | _ :: _, [] => 1
 | x :: l, y :: m => orI (x.cmp y) (Re.cmps l m)
end
theorem drop_get {α : Type} {l : List α} {i : Nat} {x : α} (h : l[i]? = some x) : l.drop i = x :: l.drop (i + 1) := by
 obtain ⟨hi, rfl⟩ := List.getElem?_eq_some_iff.1 h
 exact List.drop_eq_getElem_cons hi
theorem get_ex {α : Type} {l : List α} {i : Nat} (h : i < l.length) : ∃ x, l[i]? = some x := ⟨_, List.getElem?_eq_getElem h⟩
theorem drop_end {α : Type} {l : List α} {i : Nat} (h : ¬ i < l.length) : l.drop i = [] := List.drop_of_length_le (by omega)
@[simp] theorem orI_zero (x : Int) : orI x 0 = x := by unfold orI; split <;> simp_all
@[simp] theorem zero_orI (x : Int) : orI 0 x = x := by simp [orI]
theorem orI_ne {x y : Int} (h : x ≠ 0) : orI x y = x := by simp [orI, h]
section
variable {p : Re → Prop} (h : ∀ (k a b c d : Int) (ks : List Re), (∀ x ∈ ks, p x) → p (.mk k a b c d ks))
include h
mutual
theorem Re.ind : ∀ r : Re, p r
 | .mk k a b c d ks => h k a b c d ks (Re.inds ks)
theorem Re.inds : ∀ (l : List Re), ∀ x ∈ l, p x
 | [], _, hx => absurd hx (by simp)
 | r :: l, x, hx => (List.mem_cons.1 hx).elim (fun e => e ▸ Re.ind r) (Re.inds l x)
end
end
end Go.Proofs.YtlejbkfefpfolaaGreatDoor.AWP
namespace Go.Proofs.YtlejbkfefpfolaaGreatDoor.AWP
open Go
theorem cmpI_neg (x y : Int) : cmpI y x = - cmpI x y := by unfold cmpI; split <;> split <;> (try split) <;> omega
theorem orI_neg (x y : Int) : orI (-x) (-y) = - orI x y := by unfold orI; split <;> split <;> omega
theorem setCmp_neg (a b c d a' b' c' d' : Int) : setCmp a' b' c' d' a b c d = - setCmp a b c d a' b' c' d' := by
 simp only [setCmp, cmpI_neg a a', cmpI_neg b b', cmpI_neg c c', cmpI_neg d d', orI_neg]
mutual
theorem Re.cmp_neg : ∀ (x y : Re), y.cmp x = - x.cmp y
 | .mk k a b c d ks, .mk k' a' b' c' d' ks' => by
  rw [Re.cmp, Re.cmp, cmpI_neg k k', setCmp_neg a b c d, Re.cmps_neg ks ks', orI_neg, orI_neg]
theorem Re.cmps_neg : ∀ (l m : List Re), Re.cmps m l = - Re.cmps l m
 | [], [] => by simp [Re.cmps]
 | [], _ :: _ => by simp [Re.cmps]
 | _ :: _, [] => by simp [Re.cmps]
 | x :: l, y :: m => by rw [Re.cmps, Re.cmps, Re.cmp_neg x y, Re.cmps_neg l m, orI_neg]
end
def Rng (x : Int) : Prop := -1 ≤ x ∧ x ≤ 1
theorem Rng.orI {x y : Int} (h : Rng x) (h' : Rng y) : Rng (orI x y) := by unfold Rng AWP.orI at *; split <;> omega
theorem Rng.cmpI (x y : Int) : Rng (cmpI x y) := by unfold Rng AWP.cmpI; split <;> (try split) <;> omega
mutual
theorem Re.rng : ∀ (x y : Re), Rng (x.cmp y)
 | .mk k a b c d ks, .mk k' a' b' c' d' ks' => by
  rw [Re.cmp]
  exact (Rng.cmpI _ _).orI (((Rng.cmpI _ _).orI ((Rng.cmpI _ _).orI ((Rng.cmpI _ _).orI (Rng.cmpI _ _)))).orI (Re.rngs ks ks'))
theorem Re.rngs : ∀ (x y : List Re), Rng (Re.cmps x y)
 | [], [] => by simp [Re.cmps, Rng]
 | [], _ :: _ => by simp [Re.cmps, Rng]
 | _ :: _, [] => by simp [Re.cmps, Rng]
 | x :: l, y :: m => by
  rw [Re.cmps]
  exact (Re.rng x y).orI (Re.rngs l m)
end
def Tri (p q r : Int) : Prop := (p = 0 → r = q) ∧ (q = 0 → r = p) ∧ (p < 0 → q < 0 → r < 0) ∧ (0 < p → 0 < q → 0 < r)
theorem Tri.orI {p q r p' q' r' : Int} (h : Tri p q r) (h' : Tri p' q' r') : Tri (orI p p') (orI q q') (orI r r') := by
 unfold Tri AWP.orI at *
 split <;> split <;> split <;> omega
theorem Tri.cmpI (x y z : Int) : Tri (cmpI x y) (cmpI y z) (cmpI x z) := by
 unfold Tri AWP.cmpI
 split <;> split <;> split <;> (try split) <;> (try split) <;> (try split) <;> omega
theorem Tri.set (a b c d a' b' c' d' a2 b2 c2 d2 : Int) : Tri (setCmp a b c d a' b' c' d') (setCmp a' b' c' d' a2 b2 c2 d2) (setCmp a b c d a2 b2 c2 d2) :=
 (Tri.cmpI _ _ _).orI ((Tri.cmpI _ _ _).orI ((Tri.cmpI _ _ _).orI (Tri.cmpI _ _ _)))
mutual
theorem Re.tri : ∀ (x y z : Re), Tri (x.cmp y) (y.cmp z) (x.cmp z)
 | .mk k a b c d ks, .mk k' a' b' c' d' ks', .mk k2 a2 b2 c2 d2 ks2 => by
  rw [Re.cmp, Re.cmp, Re.cmp]
  exact (Tri.cmpI _ _ _).orI ((Tri.set ..).orI (Re.tris ks ks' ks2))
theorem Re.tris : ∀ (x y z : List Re), Tri (Re.cmps x y) (Re.cmps y z) (Re.cmps x z)
 | [], [], [] => by simp [Re.cmps, Tri]
 | [], [], _ :: _ => by simp [Re.cmps, Tri]
 | [], _ :: _, [] => by simp [Re.cmps, Tri]
 | [], y :: m, z :: n => by rw [Re.cmps, Re.cmps, Re.cmps]; unfold Tri; omega
 | _ :: _, [], [] => by simp [Re.cmps, Tri]
 | _ :: _, [], _ :: _ => by simp [Re.cmps, Tri]
 | x :: l, y :: m, [] => by rw [Re.cmps, Re.cmps, Re.cmps]; unfold Tri; omega
 | x :: l, y :: m, z :: n => by
  rw [Re.cmps, Re.cmps, Re.cmps]
  exact (Re.tri x y z).orI (Re.tris l m n)
end
mutual
def Re.same : Re → Re → Bool
 | .mk k a b c d ks, .mk k' a' b' c' d' ks' => decide (k = k' ∧ a = a' ∧ b = b' ∧ c = c' ∧ d = d') && Re.sames ks ks'
def Re.sames : List Re → List Re → Bool
 | [], [] => true
 | x :: l, y :: m => x.same y && Re.sames l m
 | _, _ => false
end
theorem cmpI_zero (x y : Int) : cmpI x y = 0 ↔ x = y := by unfold cmpI; split <;> (try split) <;> omega
theorem orI_eq_zero (x y : Int) : orI x y = 0 ↔ x = 0 ∧ y = 0 := by unfold orI; split <;> simp_all
mutual
theorem Re.same_cmp : ∀ (x y : Re), x.same y = decide (x.cmp y = 0)
 | .mk k a b c d ks, .mk k' a' b' c' d' ks' => by
  rw [Re.same, Re.cmp, Re.sames_cmp ks ks']
  simp only [orI_eq_zero, cmpI_zero, setCmp]
  rw [Bool.eq_iff_iff]
  simp only [Bool.and_eq_true, decide_eq_true_eq]
  constructor
  ·rintro ⟨⟨h1, h2, h3, h4, h5⟩, h6⟩; exact ⟨h1, ⟨h2, h3, h4, h5⟩, h6⟩
  ·rintro ⟨h1, ⟨h2, h3, h4, h5⟩, h6⟩; exact ⟨⟨h1, h2, h3, h4, h5⟩, h6⟩
theorem Re.sames_cmp : ∀ (x y : List Re), Re.sames x y = decide (Re.cmps x y = 0)
 | [], [] => by simp [Re.sames, Re.cmps]
 | [], _ :: _ => by simp [Re.sames, Re.cmps]
 | _ :: _, [] => by simp [Re.sames, Re.cmps]
 | x :: l, y :: m => by
  rw [Re.sames, Re.cmps, Re.same_cmp x y, Re.sames_cmp l m]
  simp only [orI_eq_zero, Bool.decide_and]
end
theorem Re.sames_len : ∀ (x y : List Re), ¬ x.length = y.length → Re.sames x y = false
 | [], [], h => absurd rfl h
 | [], _ :: _, _ => by simp [Re.sames]
 | _ :: _, [], _ => by simp [Re.sames]
 | x :: l, y :: m, h => by
  rw [Re.sames, Re.sames_len l m (by simpa using h), Bool.and_false]
mutual
def Re.cnt (most : Int) : Re → Int
 | .mk _ _ _ _ _ ks => Re.cnts most ks 1
def Re.cnts (most : Int) : List Re → Int → Int
 | [], t => t
 | x :: l, t => if most < t then t else Re.cnts most l (IntKind.wrap .i64 (t + Re.cnt most x))
end
end Go.Proofs.YtlejbkfefpfolaaGreatDoor.AWP
namespace Go.Proofs.YtlejbkfefpfolaaGreatDoor.AWP
open Go
mutual
theorem Re.same_eq : ∀ (x y : Re), x.same y = true → x = y
 | .mk k a b c d ks, .mk k' a' b' c' d' ks', h => by
  rw [Re.same] at h
  simp only [Bool.and_eq_true, decide_eq_true_eq] at h
  obtain ⟨⟨rfl, rfl, rfl, rfl, rfl⟩, h⟩ := h
  rw [Re.sames_eq ks ks' h]
theorem Re.sames_eq : ∀ (x y : List Re), Re.sames x y = true → x = y
 | [], [], _ => rfl
 | [], _ :: _, h => by simp [Re.sames] at h
 | _ :: _, [], h => by simp [Re.sames] at h
 | x :: l, y :: m, h => by
  rw [Re.sames, Bool.and_eq_true] at h
  rw [Re.same_eq x y h.1, Re.sames_eq l m h.2]
end
theorem Re.cmp_zero {x y : Re} : x.cmp y = 0 ↔ x = y := by
 constructor
 ·intro h; exact Re.same_eq x y (by rw [Re.same_cmp]; simpa using h)
 ·rintro rfl
  have := Re.cmp_neg x x
  omega
theorem Re.same_iff {x y : Re} : x.same y = true ↔ x = y := by rw [Re.same_cmp, decide_eq_true_eq, Re.cmp_zero]
theorem Re.same_self (x : Re) : x.same x = true := Re.same_iff.2 rfl
theorem Re.sames_self (l : List Re) : Re.sames l l = true := by
 induction l with
 | nil => simp [Re.sames]
 | cons x l ih => rw [Re.sames, Re.same_self, ih]; rfl
def Re.le (x y : Re) : Prop := x.cmp y ≤ 0
theorem Re.le_refl (x : Re) : x.le x := by unfold Re.le; rw [Re.cmp_zero.2 rfl]; omega
theorem Re.le_trans {x y z : Re} (h : x.le y) (h' : y.le z) : x.le z := by
 have t := x.tri y z
 unfold Re.le Tri at *
 omega
theorem Re.le_antisymm {x y : Re} (h : x.le y) (h' : y.le x) : x = y := by
 have := Re.cmp_neg x y
 unfold Re.le at *
 exact Re.cmp_zero.1 (by omega)
theorem Re.not_lt {x y : Re} : ¬ x.cmp y < 0 ↔ y.le x := by unfold Re.le; have := Re.cmp_neg x y; omega
theorem Re.lt_le {x y : Re} (h : x.cmp y < 0) : x.le y := by unfold Re.le; omega
def Sorted (l : List Re) : Prop := l.Pairwise Re.le
def insR (x : Re) : List Re → List Re
 | [] => [x]
 | y :: l => if x.cmp y < 0 then x :: y :: l else y :: insR x l
def sortR (l : List Re) : List Re := l.foldl (fun o x => insR x o) []
theorem insR_len (x : Re) (l : List Re) : (insR x l).length = l.length + 1 := by
 induction l with
 | nil => rfl
 | cons y l ih => rw [insR]; split <;> simp [ih]
theorem insR_mem {x y : Re} {l : List Re} : y ∈ insR x l ↔ y = x ∨ y ∈ l := by
 induction l with
 | nil => simp [insR]
 | cons z l ih =>
  rw [insR]
  split
  ·simp
  ·simp only [List.mem_cons, ih]
   constructor
   ·rintro (h | h | h) <;> simp [h]
   ·rintro (h | h | h) <;> simp [h]
theorem insR_perm (x : Re) (l : List Re) : (insR x l).Perm (x :: l) := by
 induction l with
 | nil => exact List.Perm.refl _
 | cons y l ih =>
  rw [insR]
  split
  ·exact List.Perm.refl _
  ·exact (ih.cons y).trans (List.Perm.swap x y l)
theorem insR_sorted {x : Re} {l : List Re} (h : Sorted l) : Sorted (insR x l) := by
 induction l with
 | nil => simp [insR, Sorted]
 | cons y l ih =>
  unfold Sorted at h ih ⊢
  rw [List.pairwise_cons] at h
  rw [insR]
  split
  ·rename_i hxy
   rw [List.pairwise_cons, List.pairwise_cons]
   refine ⟨fun z hz => ?_, h⟩
   rcases List.mem_cons.1 hz with rfl | hz
   ·exact Re.lt_le hxy
   ·exact Re.le_trans (Re.lt_le hxy) (h.1 z hz)
  ·rename_i hxy
   rw [List.pairwise_cons]
   refine ⟨fun z hz => ?_, ih h.2⟩
   rcases insR_mem.1 hz with rfl | hz
   ·exact Re.not_lt.1 hxy
   ·exact h.1 z hz
theorem insR_split {x : Re} {p q : List Re} (hp : ∀ y ∈ p, ¬ x.cmp y < 0) (hq : ∀ y ∈ q.head?, x.cmp y < 0) : insR x (p ++ q) = p ++ x :: q := by
 induction p with
 | nil =>
  cases q with
  | nil => rfl
  | cons y q => rw [List.nil_append, insR, if_pos (hq y (by simp))]; rfl
 | cons y p ih =>
  rw [List.cons_append, insR, if_neg (hp y (by simp)), ih fun z hz => hp z (by simp [hz])]; rfl
theorem sortR_snoc (l : List Re) (x : Re) : sortR (l ++ [x]) = insR x (sortR l) := by simp [sortR, List.foldl_append]
theorem sortR_take {l : List Re} {i : Nat} {x : Re} (h : l[i]? = some x) : sortR (l.take (i + 1)) = insR x (sortR (l.take i)) := by
 rw [List.take_add_one, h]
 exact sortR_snoc _ _
theorem snocInd {p : List Re → Prop} (h0 : p []) (h1 : ∀ l x, p l → p (l ++ [x])) (l : List Re) : p l := by
 rw [← List.reverse_reverse l]
 induction l.reverse with
 | nil => exact h0
 | cons x l ih => rw [List.reverse_cons]; exact h1 _ _ ih
theorem sortR_len (l : List Re) : (sortR l).length = l.length := by
 induction l using snocInd with
 | h0 => rfl
 | h1 l x ih => rw [sortR_snoc, insR_len, ih]; simp
theorem sortR_sorted (l : List Re) : Sorted (sortR l) := by
 induction l using snocInd with
 | h0 => exact List.Pairwise.nil
 | h1 l x ih => rw [sortR_snoc]; exact insR_sorted ih
theorem sortR_perm (l : List Re) : (sortR l).Perm l := by
 induction l using snocInd with
 | h0 => exact List.Perm.refl _
 | h1 l x ih =>
  rw [sortR_snoc]
  exact ((insR_perm _ _).trans (ih.cons x)).trans (List.perm_append_singleton x l).symm
theorem sorted_unique : ∀ {l m : List Re}, Sorted l → Sorted m → l.Perm m → l = m
 | [], m, _, _, h => (List.nil_perm.1 h).symm
 | x :: l, [], _, _, h => by have := h.length_eq; simp at this
 | x :: l, y :: m, h1, h2, h => by
  have q1 := List.pairwise_cons.1 h1
  have q2 := List.pairwise_cons.1 h2
  have exy : x = y := by
   have hx : x ∈ y :: m := h.mem_iff.1 (by simp)
   have hy : y ∈ x :: l := h.mem_iff.2 (by simp)
   rcases List.mem_cons.1 hx with e | hx
   ·exact e
   ·rcases List.mem_cons.1 hy with e | hy
    ·exact e.symm
    ·exact Re.le_antisymm (q1.1 y hy) (q2.1 x hx)
  subst exy
  rw [sorted_unique q1.2 q2.2 (List.Perm.cons_inv h)]
def onceStep (o : List Re) (x : Re) : List Re := if o.any (fun y => y.same x) then o else o ++ [x]
def onceR (l : List Re) : List Re := l.foldl onceStep []
theorem any_same {o : List Re} {x : Re} : o.any (fun y => y.same x) = true ↔ x ∈ o := by
 rw [List.any_eq_true]
 constructor
 ·rintro ⟨y, h1, h2⟩; rw [← Re.same_iff.1 h2]; exact h1
 ·intro h; exact ⟨x, h, Re.same_self x⟩
theorem onceStep_in {o : List Re} {x : Re} (h : x ∈ o) : onceStep o x = o := by unfold onceStep; rw [if_pos (any_same.2 h)]
theorem onceStep_out {o : List Re} {x : Re} (h : x ∉ o) : onceStep o x = o ++ [x] := by unfold onceStep; rw [if_neg (fun e => h (any_same.1 e))]
theorem onceR_snoc (l : List Re) (x : Re) : onceR (l ++ [x]) = onceStep (onceR l) x := by simp [onceR, List.foldl_append]
theorem onceR_take {l : List Re} {i : Nat} {x : Re} (h : l[i]? = some x) : onceR (l.take (i + 1)) = onceStep (onceR (l.take i)) x := by
 rw [List.take_add_one, h]
 exact onceR_snoc _ _
theorem onceR_len (l : List Re) : (onceR l).length ≤ l.length := by
 induction l using snocInd with
 | h0 => exact Nat.le_refl _
 | h1 l x ih =>
  rw [onceR_snoc]
  unfold onceStep
  split <;> simp <;> omega
theorem onceR_mem {l : List Re} {y : Re} : y ∈ onceR l ↔ y ∈ l := by
 induction l using snocInd with
 | h0 => rfl
 | h1 l x ih =>
  rw [onceR_snoc]
  by_cases h : x ∈ onceR l
  ·rw [onceStep_in h]
   simp only [ih, List.mem_append, List.mem_singleton]
   constructor
   ·exact .inl
   ·rintro (h' | rfl)
    ·exact h'
    ·exact ih.1 h
  ·rw [onceStep_out h]; simp [ih]
def putR (x : Re) (o : List Re) : Bool × List Re := (o.any fun y => decide (x.cmp y < 0), if (o.any fun y => decide (x.cmp y < 0)) then insR x o else o)
theorem insR_none {x : Re} {o : List Re} (h : (o.any fun y => decide (x.cmp y < 0)) = false) : insR x o = o ++ [x] := by
 have := insR_split (x := x) (p := o) (q := []) (fun y hy hc => by
  rw [List.any_eq_false] at h
  exact h y hy (by simpa using hc)) (by simp)
 simpa using this
theorem insR_some {x y : Re} : ∀ {o : List Re}, (o.any fun y => decide (x.cmp y < 0)) = true → insR x (o ++ [y]) = insR x o ++ [y]
 | [], h => by simp at h
 | z :: o, h => by
  rw [List.cons_append, insR, insR]
  split
  ·rfl
  ·rename_i hc
   rw [insR_some (o := o) (by simpa [hc] using h)]; rfl
theorem putR_snoc (x y : Re) (o : List Re) : putR x (o ++ [y]) = if (!(putR x o).1 && decide (x.cmp y < 0)) then (true, (putR x o).2 ++ [x] ++ [y]) else ((putR x o).1, (putR x o).2 ++ [y]) := by
 unfold putR
 simp only [List.any_append, List.any_cons, List.any_nil, Bool.or_false]
 cases h : o.any fun y => decide (x.cmp y < 0) with
 | true => simp [insR_some h]
 | false =>
  by_cases hc : x.cmp y < 0
  ·simp only [hc, decide_true, Bool.or_true, Bool.not_false, Bool.and_self, if_true, Bool.false_eq_true, if_false]
   rw [insR_split (p := o) (q := [y]) (fun z hz hz' => by
    rw [List.any_eq_false] at h
    exact h z hz (by simpa using hz')) (by simpa using hc)]
   simp
  ·simp [hc]
theorem putR_end (x : Re) (o : List Re) : (if (putR x o).1 then (putR x o).2 else (putR x o).2 ++ [x]) = insR x o := by
 unfold putR
 cases h : o.any fun y => decide (x.cmp y < 0) with
 | true => simp
 | false => simp [insR_none h]
theorem putR_take {x y : Re} {o : List Re} {k : Nat} (h : o[k]? = some y) : putR x (o.take (k + 1)) = if (!(putR x (o.take k)).1 && decide (x.cmp y < 0)) then (true, (putR x (o.take k)).2 ++ [x] ++ [y]) else ((putR x (o.take k)).1, (putR x (o.take k)).2 ++ [y]) := by
 rw [List.take_add_one, h]
 exact putR_snoc _ _ _
theorem putR_len (x : Re) (o : List Re) : (putR x o).2.length ≤ o.length + 1 := by
 unfold putR
 dsimp only
 split
 ·rw [insR_len]; exact Nat.le_refl _
 ·omega
end Go.Proofs.YtlejbkfefpfolaaGreatDoor.AWP
set_option maxRecDepth 100000
namespace Go.Proofs.YtlejbkfefpfolaaGreatDoor.AWP
open Go
abbrev D.y (b : UInt8) : D := .v (.int .u8 b.toNat)
theorem all_bytes {p : Nat → Prop} (h : ∀ n : _root_.Fin 256, p n.val) (b : UInt8) : p b.toNat := h ⟨b.toNat, b.toNat_lt⟩
theorem all_ofNat {p : UInt8 → Prop} (h : ∀ n : _root_.Fin 256, p (UInt8.ofNat n.val)) (b : UInt8) : p b := by
 have := h ⟨b.toNat, b.toNat_lt⟩
 simpa using this
def hexS : ByteArray := ⟨#[48, 49, 50, 51, 52, 53, 54, 55, 56, 57, 97, 98, 99, 100, 101, 102]⟩
def hexD (n : Nat) : UInt8 := hexS.data.getD (n % 16) 0
theorem hexD_get (n : Nat) : hexS.data[n % 16]? = some (hexD n) := by
 have : n % 16 < hexS.data.size := by show n % 16 < 16; omega
 rw [hexD, Array.getD_eq_getD_getElem?, Array.getElem?_eq_getElem this]; rfl
theorem and15 (b : UInt8) : bits .and .u8 b.toNat 15 = ((b.toNat % 16 : Nat) : Int) := all_bytes (p := fun n => bits .and .u8 n 15 = ((n % 16 : Nat) : Int)) (by decide +kernel) b
theorem shr4 (b : UInt8) : (b.toNat : Int).fdiv 16 = ((UInt8.ofNat (b.toNat / 16)).toNat : Int) :=
 all_bytes (p := fun n => (n : Int).fdiv 16 = ((UInt8.ofNat (n / 16)).toNat : Int)) (by decide +kernel) b
theorem pow4 : (2 : Int) ^ (min (Int.toNat 4) 8) = 16 := rfl
def hexB (b : UInt8) : List UInt8 := [hexD (b.toNat / 16), hexD b.toNat]
def hexL (l : List UInt8) : List UInt8 := l.flatMap hexB
theorem hexL_take {l : List UInt8} {i : Nat} {b : UInt8} (h : l[i]? = some b) : hexL (l.take (i + 1)) = hexL (l.take i) ++ hexB b := by
 rw [List.take_add_one, h]; simp [hexL]
theorem hexL_len (l : List UInt8) : (hexL l).length = 2 * l.length := by
 induction l with
 | nil => rfl
 | cons b l ih => simp [hexL, hexB] at ih ⊢; omega
abbrev Bys (l : List UInt8) : D := .sl 1 (byteRows l)
theorem byteRows_get {l : List UInt8} {i : Nat} {b : UInt8} (h : l[i]? = some b) : (byteRows l)[i]? = some [.y b] := by simp [byteRows, h]
@[go_sem, simp] theorem byteRows_len (l : List UInt8) : (byteRows l).length = l.length := by simp [byteRows]
theorem byteRows_app (l m : List UInt8) : byteRows l ++ byteRows m = byteRows (l ++ m) := by simp [byteRows]
@[simp] theorem byteRows_bl (l : List UInt8) : (∀ r ∈ byteRows l, ∀ d ∈ r, Bl 0 d) = True := by
 apply eq_true
 intro r hr d hd
 simp only [byteRows, List.mem_map] at hr
 obtain ⟨b, _, rfl⟩ := hr
 simp at hd
 subst hd
 exact .v _
def spec1 : ByteArray := ⟨#[92, 124, 42, 40, 41, 91, 93, 46, 45]⟩
def plain (b : UInt8) : Bool := !(decide (b.toNat < 33) || decide (126 < b.toNat) || decide (0 ≤ firstIdx spec1 b))
def signB (b : UInt8) : List UInt8 := if plain b then [b] else 92 :: hexB b
theorem ba_app (l m : List UInt8) : (⟨l.toArray⟩ : ByteArray) ++ ⟨m.toArray⟩ = ⟨(l ++ m).toArray⟩ := by
 apply ByteArray.ext
 show ((⟨l.toArray⟩ : ByteArray).append ⟨m.toArray⟩).data = _
 simp [ByteArray.append, ByteArray.copySlice]
theorem ba_size (l : List UInt8) : (⟨l.toArray⟩ : ByteArray).size = l.length := by simp [ByteArray.size]
def wD (w : Int) : D := .v (.int .u64 w)
abbrev Ws (ws : List Int) : D := .agg (ws.map wD)
@[simp] theorem Bl_wD {n : Nat} {w : Int} : Bl n (wD w) := .v _
def bit (n : Nat) : Int := IntKind.wrap .u64 (1 * 2 ^ (min n 64))
def setBit (ws : List Int) (n : Nat) : List Int := ws.set (n / 64) (bits .or .u64 (ws.getD (n / 64) 0) (bit (n % 64)))
theorem setBit_len (ws : List Int) (n : Nat) : (setBit ws n).length = ws.length := by simp [setBit]
def noneS : List Int := [0, 0, 0, 0]
def ofS (l : List UInt8) : List Int := l.foldl (fun ws b => setBit ws b.toNat) noneS
def rangeS (low : Nat) : Nat → List Int
 | 0 => noneS
 | n + 1 => setBit (rangeS low n) (low + n)
def joinW (a b : List Int) : List Int := List.zipWith (fun x y => bits .or .u64 x y) a b
theorem ofS_take {l : List UInt8} {i : Nat} {b : UInt8} (h : l[i]? = some b) : ofS (l.take (i + 1)) = setBit (ofS (l.take i)) b.toNat := by
 rw [List.take_add_one, h]; simp [ofS]
theorem ofS_len (l : List UInt8) : (ofS l).length = 4 := by
 unfold ofS
 suffices ∀ ws : List Int, ws.length = 4 → (l.foldl (fun ws b => setBit ws b.toNat) ws).length = 4 from this _ rfl
 induction l with
 | nil => intro ws h; exact h
 | cons b l ih => intro ws h; exact ih _ (by rw [setBit_len]; exact h)
theorem rangeS_len (low n : Nat) : (rangeS low n).length = 4 := by
 induction n with
 | zero => rfl
 | succ n ih => rw [rangeS, setBit_len, ih]
theorem q64 (b : UInt8) : IntKind.u8.wrap ((b.toNat : Int).tdiv 64) = ((b.toNat / 64 : Nat) : Int) := all_bytes (p := fun n => IntKind.u8.wrap ((n : Int).tdiv 64) = ((n / 64 : Nat) : Int)) (by decide +kernel) b
theorem r64 (b : UInt8) : (b.toNat : Int).tmod 64 = ((b.toNat % 64 : Nat) : Int) := all_bytes (p := fun n => (n : Int).tmod 64 = ((n % 64 : Nat) : Int)) (by decide +kernel) b
theorem q64i (b : UInt8) : IntKind.i64.wrap ((b.toNat : Int).tdiv 64) = ((b.toNat / 64 : Nat) : Int) := all_bytes (p := fun n => IntKind.i64.wrap ((n : Int).tdiv 64) = ((n / 64 : Nat) : Int)) (by decide +kernel) b
theorem lt4 (b : UInt8) : b.toNat / 64 < 4 := by have := b.toNat_lt; omega
theorem ws_get {ws : List Int} {i : Nat} (h : i < ws.length) : ws[i]? = some (ws.getD i 0) := by simp [List.getD_eq_getElem?_getD, h]
theorem wD_eq (w : Int) : wD w = .v (.int .u64 w) := rfl
theorem wD_get {ws : List Int} {i : Nat} (h : i < ws.length) : (ws.map wD)[i]? = some (wD (ws.getD i 0)) := by
 simp [List.getD_eq_getElem?_getD, h]
def reS (ws : List Int) : Re := if ws = noneS then .mk 1 0 0 0 0 [] else .mk 3 (ws.getD 0 0) (ws.getD 1 0) (ws.getD 2 0) (ws.getD 3 0) []
theorem splc_all {α : Type} {c d : List α} (h : d.length = c.length) : splc c 0 d = d := by
 simp [splc, List.drop_eq_nil_of_le (show c.length ≤ d.length by omega)]
theorem W_take {ws : List Int} (h : ws.length = 4) : (ws.map wD).take 4 = ws.map wD := List.take_of_length_le (by simp [h])
theorem W_drop0 {ws : List Int} : (ws.map wD).drop 0 = ws.map wD := rfl
theorem W_put {ty : Nat} {a ws : List Int} (h : a.length = 4) (h' : ws.length = 4) : obPut (.var ty (a.map wD)) 0 (ws.map wD) = some (.var ty (ws.map wD)) := by
 rw [obPut_var (by simp [h, h']), splc_all (by simp [h, h'])]
theorem four {ws : List Int} (h : ws.length = 4) : ∃ a b c d, ws = [a, b, c, d] := by
 match ws, h with
 | [a, b, c, d], _ => exact ⟨a, b, c, d, rfl⟩
theorem joinW_len {a b : List Int} (h : a.length = 4) (h' : b.length = 4) : (joinW a b).length = 4 := by simp [joinW, h, h']
def jn (a b : List Int) (k : Nat) : List Int := (joinW a b).take k ++ a.drop k
theorem jn_len {a b : List Int} {k : Nat} (h : a.length = 4) (h' : b.length = 4) (hk : k ≤ 4) : (jn a b k).length = 4 := by
 simp [jn, joinW, h, h']; omega
theorem jn_step {a b : List Int} {k : Nat} (h : a.length = 4) (h' : b.length = 4) (hk : k < 4) : (jn a b k).set k (bits .or .u64 ((jn a b k).getD k 0) (b.getD k 0)) = jn a b (k + 1) := by
 obtain ⟨p, q, r, s, rfl⟩ := four h
 obtain ⟨p', q', r', s', rfl⟩ := four h'
 have : k = 0 ∨ k = 1 ∨ k = 2 ∨ k = 3 := by omega
 rcases this with rfl | rfl | rfl | rfl <;> rfl
theorem jn_end {a b : List Int} (h : a.length = 4) (h' : b.length = 4) : jn a b 4 = joinW a b := by
 obtain ⟨p, q, r, s, rfl⟩ := four h
 obtain ⟨p', q', r', s', rfl⟩ := four h'
 rfl
def joinAll (l : List (List Int)) : List Int := l.foldl joinW noneS
theorem joinAll_take {l : List (List Int)} {i : Nat} {x : List Int} (h : l[i]? = some x) : joinAll (l.take (i + 1)) = joinW (joinAll (l.take i)) x := by
 rw [List.take_add_one, h]; simp [joinAll]
theorem joinAll_len {l : List (List Int)} (h : ∀ x ∈ l, x.length = 4) : (joinAll l).length = 4 := by
 unfold joinAll
 suffices ∀ ws : List Int, ws.length = 4 → (l.foldl joinW ws).length = 4 from this _ rfl
 induction l with
 | nil => intro ws h; exact h
 | cons x l ih => intro ws hw; exact ih (fun y hy => h y (by simp [hy])) _ (joinW_len hw (h x (by simp)))
abbrev Wss (l : List (List Int)) : D := .sl 4 (l.map fun ws => ws.map wD)
theorem Wss_bl (l : List (List Int)) : ∀ r ∈ l.map (fun ws => ws.map wD), ∀ d ∈ r, Bl 0 d := by
 intro r hr d hd
 obtain ⟨ws, _, rfl⟩ := List.mem_map.1 hr
 obtain ⟨w, _, rfl⟩ := List.mem_map.1 hd
 exact .v _
def isB (s : ByteArray) (p : Nat) (l : ByteArray) : Bool :=
 match s.data[p]? with
 | some b => decide (0 ≤ firstIdx l b)
 | none => false
theorem isB_lt {s l : ByteArray} {p : Nat} (h : isB s p l = true) : p < s.size := by
 unfold isB at h
 split at h
 ·rename_i b hb; exact (Array.getElem?_eq_some_iff.1 hb).1
 ·cases h
def begB (s : ByteArray) (p : Nat) : Bool := isB s p ⟨#[92]⟩ ||
 match s.data[p]? with
 | some b => plain b
 | none => false
theorem begB_lt {s : ByteArray} {p : Nat} (h : begB s p = true) : p < s.size := by
 unfold begB at h
 rw [Bool.or_eq_true] at h
 rcases h with h | h
 ·exact isB_lt h
 ·split at h
  ·rename_i b hb; exact (Array.getElem?_eq_some_iff.1 hb).1
  ·cases h
end Go.Proofs.YtlejbkfefpfolaaGreatDoor.AWP
set_option maxRecDepth 100000
namespace Go.Proofs.YtlejbkfefpfolaaGreatDoor.AWP
open Go
theorem Fin.mvp {om0 om om' : List Ob} {d d' : D} {R : Out → List Ob → Prop} (ks : List (Option Nat)) (hk : ksOk om0.length ks = true) (hob : MvL om (kF ks) ks ks om') (hd : Cv om (kF ks) ks d d') (hr : R (.panic d') om') : Fin om0 om (.panic d) R := by
 intro E0 E e hR0 hx hR ho
 obtain ⟨E', h1, h2, h3, ok⟩ := mv_ok' (base := om0.length) ks hk hob hR
 refine ⟨E', .panic d', om', hr, h1, ?_, h3, ?_⟩
 ·have := (hx.toB (base := om0.length) (Nat.le_of_eq hR0.len)).trans h2
  rw [hR0.len] at this
  exact this.toExt
 ·cases e <;> simp only [OutR] at ho ⊢
  obtain ⟨y, h1, h2⟩ := ho
  exact ⟨y, h1, hd.rd hR ok h2⟩
def foldR (kind : Int) (l : List Re) (x : Re) : Re := l.foldr (fun y acc => .mk kind 0 0 0 0 [y, acc]) x
def foldL (kind none : Int) (l : List Re) : Re :=
 match l.getLast? with
 | Option.none => .mk none 0 0 0 0 []
 | some x => foldR kind l.dropLast x
theorem ext1 {s : ByteArray} {p : Nat} {b : UInt8} (h : s.data[p]? = some b) : (s.extract p (p + 1)).data.toList = [b] := by
 obtain ⟨hp, rfl⟩ := Array.getElem?_eq_some_iff.1 h
 have hp' : p < s.size := hp
 refine List.ext_getElem? fun i => ?_
 cases i with
 | zero => simp [ByteArray.data_extract, hp]
 | succ i => simp [ByteArray.data_extract]; omega
theorem ext2 {s : ByteArray} {p : Nat} {a b : UInt8} (h : s.data[p]? = some a) (h' : s.data[p + 1]? = some b) : s.extract p (p + 2) = ⟨#[a, b]⟩ := by
 obtain ⟨hp, rfl⟩ := Array.getElem?_eq_some_iff.1 h
 obtain ⟨hp', rfl⟩ := Array.getElem?_eq_some_iff.1 h'
 apply ByteArray.ext
 apply Array.ext'
 refine List.ext_getElem? fun i => ?_
 match i with
 | 0 => simp [ByteArray.data_extract, hp]
 | 1 => simp [ByteArray.data_extract, hp']
 | i + 2 => simp [ByteArray.data_extract]; omega
theorem hexS_le (b : UInt8) : firstIdx hexS b ≤ 15 := all_ofNat (p := fun b => firstIdx hexS b ≤ 15) (by decide +kernel) b
theorem hex16 (m n : _root_.Fin 16) : IntKind.u8.wrap (bits .or .i64 (IntKind.i64.wrap ((m.val : Int) * 2 ^ (min 4 64))) (n.val : Int)) = ((UInt8.ofNat (16 * m.val + n.val)).toNat : Int) := by
 revert m n; decide +kernel
theorem at_of {s : ByteArray} {p : Nat} {b : UInt8} (h : s.data[p]? = some b) : s.data.getD p 0 = b := by
 simp [Array.getD_eq_getD_getElem?, h]
theorem get_lt {s : ByteArray} {p : Nat} (h : p < s.size) : ∃ b, s.data[p]? = some b := ⟨_, Array.getElem?_eq_getElem h⟩
theorem isB_at {s l : ByteArray} {p : Nat} {b : UInt8} (hb : s.data[p]? = some b) : isB s p l = decide (0 ≤ firstIdx l b) := by unfold isB; rw [hb]
theorem isB_end {s l : ByteArray} {p : Nat} (h : ¬ p < s.size) : isB s p l = false := by unfold isB; rw [Array.getElem?_eq_none (by exact Nat.le_of_not_lt h)]
theorem begB_end {s : ByteArray} {p : Nat} (h : ¬ p < s.size) : begB s p = false := by unfold begB; rw [isB_end h, Array.getElem?_eq_none (by exact Nat.le_of_not_lt h)]; rfl
inductive PR where
 | ok (r : Re) (p : Nat)
 | bad (p : Nat)
inductive PB where
 | ok (b : UInt8) (p : Nat)
 | bad (p : Nat)
def hexAt (s : ByteArray) (p : Nat) : Nat := (firstIdx hexS (s.data.getD p 0)).toNat
def pSign (s : ByteArray) (p : Nat) : PB :=
 if begB s p = true then
  if (s.data.getD p 0).toNat = 92 then
   if isB s (p + 1) hexS = true then
    if isB s (p + 2) hexS = true then .ok (UInt8.ofNat (16 * hexAt s (p + 1) + hexAt s (p + 2))) (p + 3) else .bad (p + 2)
   else .bad (p + 1)
  else .ok (s.data.getD p 0) (p + 1)
 else .bad p
theorem pSign_lt {s : ByteArray} {p : Nat} {b : UInt8} {q : Nat} (h : pSign s p = .ok b q) : p < q ∧ q ≤ s.size := by
 unfold pSign at h
 split at h
 case isFalse => cases h
 rename_i h0
 have := begB_lt h0
 split at h
 ·split at h
  ·split at h
   ·rename_i h2
    have := isB_lt h2
    cases h
    omega
   ·cases h
  ·cases h
 ·cases h
  omega
abbrev cRb : ByteArray := ⟨#[93]⟩
abbrev cDash : ByteArray := ⟨#[45]⟩
abbrev cDot : ByteArray := ⟨#[46]⟩
abbrev cLb : ByteArray := ⟨#[91]⟩
abbrev cLp : ByteArray := ⟨#[40]⟩
abbrev cRp : ByteArray := ⟨#[41]⟩
abbrev cStar : ByteArray := ⟨#[42]⟩
abbrev cBar : ByteArray := ⟨#[124]⟩
abbrev cAtom : ByteArray := ⟨#[46, 91, 40]⟩
def clsGo (s : ByteArray) (ws : List Int) (p : Nat) : PR :=
 if isB s p cRb = true then .ok (reS ws) (p + 1) else
 match pSign s p with
 | .bad e => .bad e
 | .ok lo q =>
  if hq : p < q ∧ q ≤ s.size then
   if isB s q cDash = true then
    match pSign s (q + 1) with
    | .bad e => .bad e
    | .ok hi q' =>
     if hi.toNat < lo.toNat then .bad (q + 1) else
     if hq' : p < q' ∧ q' ≤ s.size then clsGo s (joinAll [ws, rangeS lo.toNat (hi.toNat + 1 - lo.toNat)]) q' else .bad 0
   else clsGo s (joinAll [ws, rangeS lo.toNat (lo.toNat + 1 - lo.toNat)]) q
  else .bad 0
termination_by s.size - p
def starGo (s : ByteArray) (r : Re) (p : Nat) : Re × Nat :=
 if h : isB s p cStar = true then starGo s (.mk 6 0 0 0 0 [r]) (p + 1) else (r, p)
termination_by s.size - p
decreasing_by have := isB_lt h; omega
section
variable (A : Nat → PR) (s : ByteArray)
def pAtom (p : Nat) : PR :=
 if isB s p cDot = true then .ok (reS (rangeS 0 256)) (p + 1)
 else if isB s p cLb = true then clsGo s noneS (p + 1)
 else if isB s p cLp = true then
  if isB s (p + 1) cRp = true then .ok (.mk 2 0 0 0 0 []) (p + 2)
  else match A (p + 1) with
   | .bad e => .bad e
   | .ok r q => if isB s q cRp = true then .ok r (q + 1) else .bad q
 else match pSign s p with
  | .bad e => .bad e
  | .ok b q => .ok (reS (ofS [b])) q
def pPart (p : Nat) : PR :=
 match pAtom A s p with
 | .bad e => .bad e
 | .ok r q => .ok (starGo s r q).1 (starGo s r q).2
def rowGo (l : List Re) (p : Nat) : PR :=
 if (isB s p cAtom || begB s p) = true then
  match pPart A s p with
  | .bad e => .bad e
  | .ok r q => if hq : p < q ∧ q ≤ s.size then rowGo (l ++ [r]) q else .bad 0
 else .ok (foldL 4 2 l) p
termination_by s.size - p
def pRow (p : Nat) : PR :=
 match pPart A s p with
 | .bad e => .bad e
 | .ok r q => rowGo A s [r] q
def altGo (l : List Re) (p : Nat) : PR :=
 if isB s p cBar = true then
  match pRow A s (p + 1) with
  | .bad e => .bad e
  | .ok r q => if hq : p < q ∧ q ≤ s.size then altGo (l ++ [r]) q else .bad 0
 else .ok (foldL 5 1 l) p
termination_by s.size - p
def pAlt (p : Nat) : PR :=
 match pRow A s p with
 | .bad e => .bad e
 | .ok r q => altGo A s [r] q
end
def altF (s : ByteArray) (p : Nat) : PR := pAlt (fun q => if h : p < q ∧ q ≤ s.size then altF s q else .bad 0) s p
termination_by s.size - p
theorem clsGo_lt {s : ByteArray} : ∀ (n : Nat) (ws : List Int) (p : Nat) {r : Re} {q : Nat}, s.size - p ≤ n → clsGo s ws p = .ok r q → p < q ∧ q ≤ s.size := by
 intro n
 induction n with
 | zero =>
  intro ws p r q hn h
  rw [clsGo] at h
  split at h
  ·rename_i h0; have := isB_lt h0; omega
  ·split at h
   ·cases h
   ·rename_i lo q1 hs
    have := pSign_lt hs
    omega
 | succ n ih =>
  intro ws p r q hn h
  rw [clsGo] at h
  split at h
  ·rename_i h0; have := isB_lt h0; cases h; omega
  ·split at h
   ·cases h
   ·rename_i lo q1 hs
    split at h
    case isFalse => cases h
    split at h
    ·split at h
     ·cases h
     ·split at h
      ·cases h
      ·split at h
       case isFalse => cases h
       have := ih _ _ (by omega) h
       omega
    ·have := ih _ _ (by omega) h
     omega
theorem starGo_le {s : ByteArray} : ∀ (n : Nat) (r : Re) (p : Nat), s.size - p ≤ n → p ≤ s.size → p ≤ (starGo s r p).2 ∧ (starGo s r p).2 ≤ s.size := by
 intro n
 induction n with
 | zero =>
  intro r p hn hp
  rw [starGo]
  split
  ·rename_i h; have := isB_lt h; omega
  ·exact ⟨Nat.le_refl _, hp⟩
 | succ n ih =>
  intro r p hn hp
  rw [starGo]
  split
  ·rename_i h; have := isB_lt h
   have := ih (.mk 6 0 0 0 0 [r]) (p + 1) (by omega) (by omega)
   omega
  ·exact ⟨Nat.le_refl _, hp⟩
def Fwd (A : Nat → PR) (s : ByteArray) : Prop := ∀ {p r q}, A p = .ok r q → p ≤ q ∧ q ≤ s.size
section
variable {A : Nat → PR} {s : ByteArray}
theorem pAtom_lt (hA : Fwd A s) {p : Nat} {r : Re} {q : Nat} (h : pAtom A s p = .ok r q) : p < q ∧ q ≤ s.size := by
 unfold pAtom at h
 split at h
 ·rename_i h0; have := isB_lt h0; cases h; omega
 split at h
 ·have := clsGo_lt _ _ _ (Nat.le_refl _) h; omega
 split at h
 ·split at h
  ·rename_i h0; have := isB_lt h0; cases h; omega
  ·split at h
   ·cases h
   ·rename_i h1
    have := hA h1
    split at h
    ·rename_i h0; have := isB_lt h0; cases h; omega
    ·cases h
 ·split at h
  ·cases h
  ·rename_i h1
   have := pSign_lt h1
   cases h; exact this
theorem pPart_lt (hA : Fwd A s) {p : Nat} {r : Re} {q : Nat} (h : pPart A s p = .ok r q) : p < q ∧ q ≤ s.size := by
 unfold pPart at h
 split at h
 ·cases h
 ·rename_i r1 q1 h1
  have h2 := pAtom_lt hA h1
  have := starGo_le _ r1 q1 (Nat.le_refl _) h2.2
  cases h
  omega
theorem rowGo_le (hA : Fwd A s) : ∀ (n : Nat) (l : List Re) (p : Nat) {r : Re} {q : Nat}, s.size - p ≤ n → p ≤ s.size → rowGo A s l p = .ok r q → p ≤ q ∧ q ≤ s.size := by
 intro n
 induction n with
 | zero =>
  intro l p r q hn hp h
  rw [rowGo] at h
  split at h
  ·split at h
   ·cases h
   ·rename_i h1
    have := pPart_lt hA h1
    omega
  ·cases h; exact ⟨Nat.le_refl _, hp⟩
 | succ n ih =>
  intro l p r q hn hp h
  rw [rowGo] at h
  split at h
  ·split at h
   ·cases h
   ·split at h
    case isFalse => cases h
    have := ih _ _ (by omega) (by omega) h
    omega
  ·cases h; exact ⟨Nat.le_refl _, hp⟩
theorem pRow_lt (hA : Fwd A s) {p : Nat} {r : Re} {q : Nat} (h : pRow A s p = .ok r q) : p < q ∧ q ≤ s.size := by
 unfold pRow at h
 split at h
 ·cases h
 ·rename_i h1
  have h2 := pPart_lt hA h1
  have := rowGo_le hA _ _ _ (Nat.le_refl _) h2.2 h
  omega
theorem altGo_le (hA : Fwd A s) : ∀ (n : Nat) (l : List Re) (p : Nat) {r : Re} {q : Nat}, s.size - p ≤ n → p ≤ s.size → altGo A s l p = .ok r q → p ≤ q ∧ q ≤ s.size := by
 intro n
 induction n with
 | zero =>
  intro l p r q hn hp h
  rw [altGo] at h
  split at h
  ·rename_i h0; have := isB_lt h0; omega
  ·cases h; exact ⟨Nat.le_refl _, hp⟩
 | succ n ih =>
  intro l p r q hn hp h
  rw [altGo] at h
  split at h
  ·split at h
   ·cases h
   ·split at h
    case isFalse => cases h
    have := ih _ _ (by omega) (by omega) h
    omega
  ·cases h; exact ⟨Nat.le_refl _, hp⟩
theorem pAlt_lt (hA : Fwd A s) {p : Nat} {r : Re} {q : Nat} (h : pAlt A s p = .ok r q) : p < q ∧ q ≤ s.size := by
 unfold pAlt at h
 split at h
 ·cases h
 ·rename_i h1
  have h2 := pRow_lt hA h1
  have := altGo_le hA _ _ _ (Nat.le_refl _) h2.2 h
  omega
end
def altA (s : ByteArray) (p q : Nat) : PR := if p < q ∧ q ≤ s.size then altF s q else .bad 0
theorem altF_eq (s : ByteArray) (p : Nat) : altF s p = pAlt (altA s p) s p := by
 rw [altF]
 rfl
theorem altF_lt {s : ByteArray} : ∀ (n p : Nat) {r : Re} {q : Nat}, s.size - p ≤ n → altF s p = .ok r q → p < q ∧ q ≤ s.size := by
 intro n
 induction n with
 | zero =>
  intro p r q hn h
  rw [altF_eq] at h
  refine pAlt_lt ?_ h
  intro p' r' q' h'
  unfold altA at h'
  split at h'
  ·omega
  ·cases h'
 | succ n ih =>
  intro p r q hn h
  rw [altF_eq] at h
  refine pAlt_lt ?_ h
  intro p' r' q' h'
  unfold altA at h'
  split at h'
  ·have := ih _ (by omega) h'; omega
  ·cases h'
theorem altA_fwd (s : ByteArray) (p : Nat) : Fwd (altA s p) s := by
 intro p' r q h
 unfold altA at h
 split at h
 ·have := altF_lt _ _ (Nat.le_refl _) h; omega
 ·cases h
def pWhole (s : ByteArray) : Re × Nat × Nat :=
 match altF s 0 with
 | .bad e => (.mk 0 0 0 0 0 [], e, 2)
 | .ok r q => if q < s.size then (.mk 0 0 0 0 0 [], q, 2) else (r, 0, 0)
end Go.Proofs.YtlejbkfefpfolaaGreatDoor.AWP
set_option maxRecDepth 100000
namespace Go.Proofs.YtlejbkfefpfolaaGreatDoor.AWP
open Go
theorem u64_wrap (n : Nat) (h : n < 2 ^ 64) : IntKind.wrap .u64 (n : Int) = (n : Int) := by
 rw [IntKind.wrap_u64]; omega
theorem orW (m n : Nat) (hm : m < 2 ^ 64) (hn : n < 2 ^ 64) : bits .or .u64 (m : Int) (n : Int) = ((m ||| n : Nat) : Int) := by
 have h : m ||| n < 2 ^ 64 := Nat.or_lt_two_pow hm hn
 show IntKind.wrap .u64 ((BitVec.ofInt 64 (m : Int) ||| BitVec.ofInt 64 (n : Int)).toNat : Int) = _
 have e1 : (BitVec.ofInt 64 (m : Int)).toNat = m := by simp [BitVec.toNat_ofInt]; omega
 have e2 : (BitVec.ofInt 64 (n : Int)).toNat = n := by simp [BitVec.toNat_ofInt]; omega
 rw [BitVec.toNat_or, e1, e2, u64_wrap _ h]
theorem bit_eq (n : Nat) (h : n < 64) : bit n = ((2 ^ n : Nat) : Int) := by
 unfold bit
 rw [Nat.min_eq_left (by omega), Int.one_mul]
 have : (2 : Int) ^ n = ((2 ^ n : Nat) : Int) := by simp
 rw [this, u64_wrap]
 exact Nat.pow_lt_pow_right (by omega) h
def W64 (ws : List Int) : Prop := ∃ ms : List Nat, ws = ms.map (fun m : Nat => (m : Int)) ∧ ms.length = 4 ∧ ∀ m ∈ ms, m < 2 ^ 64
def hasB (ws : List Int) (n : Nat) : Bool := ((ws.getD (n / 64) 0).toNat).testBit (n % 64)
theorem W64.len {ws : List Int} (h : W64 ws) : ws.length = 4 := by obtain ⟨ms, rfl, h, _⟩ := h; simpa using h
theorem W64.getD {ws : List Int} (h : W64 ws) {j : Nat} (hj : j < 4) : ∃ m : Nat, ws.getD j 0 = (m : Int) ∧ m < 2 ^ 64 := by
 obtain ⟨ms, rfl, hl, hb⟩ := h
 have hj' : j < ms.length := by omega
 refine ⟨ms[j], by simp [List.getD_eq_getElem?_getD, hj'], hb _ (List.getElem_mem hj')⟩
theorem W64.of {ws : List Int} (hl : ws.length = 4) (h : ∀ j, j < 4 → ∃ m : Nat, ws.getD j 0 = (m : Int) ∧ m < 2 ^ 64) : W64 ws := by
 obtain ⟨a, b, c, d, rfl⟩ := four hl
 obtain ⟨m0, e0, h0⟩ := h 0 (by omega)
 obtain ⟨m1, e1, h1⟩ := h 1 (by omega)
 obtain ⟨m2, e2, h2⟩ := h 2 (by omega)
 obtain ⟨m3, e3, h3⟩ := h 3 (by omega)
 simp at e0 e1 e2 e3
 subst e0 e1 e2 e3
 refine ⟨[m0, m1, m2, m3], rfl, rfl, ?_⟩
 intro m hm
 simp only [List.mem_cons, List.not_mem_nil, or_false] at hm
 rcases hm with rfl | rfl | rfl | rfl <;> assumption
theorem W64.ext {a b : List Int} (ha : W64 a) (hb : W64 b) (h : ∀ n, n < 256 → hasB a n = hasB b n) : a = b := by
 refine List.ext_getElem? fun j => ?_
 by_cases hj : j < 4
 case neg => rw [List.getElem?_eq_none (by rw [ha.len]; omega), List.getElem?_eq_none (by rw [hb.len]; omega)]
 obtain ⟨m, e1, h1⟩ := ha.getD hj
 obtain ⟨n, e2, h2⟩ := hb.getD hj
 have hmn : m = n := by
  refine Nat.eq_of_testBit_eq fun i => ?_
  by_cases hi : i < 64
  ·have := h (64 * j + i) (by omega)
   unfold hasB at this
   rw [show (64 * j + i) / 64 = j by omega, show (64 * j + i) % 64 = i by omega, e1, e2] at this
   simpa using this
  ·have p1 : m < 2 ^ i := Nat.lt_of_lt_of_le h1 (Nat.pow_le_pow_right (by omega) (by omega))
   have p2 : n < 2 ^ i := Nat.lt_of_lt_of_le h2 (Nat.pow_le_pow_right (by omega) (by omega))
   rw [Nat.testBit_lt_two_pow p1, Nat.testBit_lt_two_pow p2]
 subst hmn
 rw [ws_get (by rw [ha.len]; exact hj), ws_get (by rw [hb.len]; exact hj), e1, e2]
theorem W64.none : W64 noneS := ⟨[0, 0, 0, 0], rfl, rfl, by simp⟩
theorem hasB_none (n : Nat) (h : n < 256) : hasB noneS n = false := by
 unfold hasB noneS
 have : n / 64 = 0 ∨ n / 64 = 1 ∨ n / 64 = 2 ∨ n / 64 = 3 := by omega
 rcases this with e | e | e | e <;> rw [e] <;> simp
theorem W64.set {ws : List Int} (h : W64 ws) {j m : Nat} (hm : m < 2 ^ 64) : W64 (ws.set j (m : Int)) := by
 obtain ⟨ms, rfl, hl, hb⟩ := h
 refine ⟨ms.set j m, by rw [List.map_set], by simpa using hl, fun x hx => ?_⟩
 rcases List.mem_or_eq_of_mem_set hx with h | h
 ·exact hb x h
 ·exact h ▸ hm
theorem hasB_set {ws : List Int} (h : W64 ws) {j m n : Nat} (hn : n < 256) (hj : j < 4) : hasB (ws.set j (m : Int)) n = if n / 64 = j then m.testBit (n % 64) else hasB ws n := by
 unfold hasB
 simp only [List.getD_eq_getElem?_getD, List.getElem?_set, h.len]
 by_cases e : j = n / 64
 ·subst e
  rw [if_pos rfl, if_pos (by omega), if_pos rfl]; simp
 ·rw [if_neg e, if_neg (fun h => e h.symm)]
theorem setBit_w {ws : List Int} (h : W64 ws) {n : Nat} (hn : n < 256) : ∃ m : Nat, ws.getD (n / 64) 0 = (m : Int) ∧ m < 2 ^ 64 ∧ setBit ws n = ws.set (n / 64) ((m ||| 2 ^ (n % 64) : Nat) : Int) ∧ m ||| 2 ^ (n % 64) < 2 ^ 64 := by
 obtain ⟨m, e, hm⟩ := h.getD (j := n / 64) (by omega)
 have hk : 2 ^ (n % 64) < 2 ^ 64 := Nat.pow_lt_pow_right (by omega) (Nat.mod_lt _ (by omega))
 exact ⟨m, e, hm, by unfold setBit; rw [e, bit_eq _ (Nat.mod_lt _ (by omega)), orW m _ hm hk], Nat.or_lt_two_pow hm hk⟩
theorem W64.setBit {ws : List Int} (h : W64 ws) {n : Nat} (hn : n < 256) : W64 (setBit ws n) := by
 obtain ⟨m, _, _, e, hm⟩ := setBit_w h hn
 rw [e]
 exact h.set hm
theorem hasB_setBit {ws : List Int} (h : W64 ws) {n k : Nat} (hn : n < 256) (hk : k < 256) : hasB (setBit ws n) k = (hasB ws k || decide (k = n)) := by
 obtain ⟨m, e1, hm, e, hm'⟩ := setBit_w h hn
 rw [e, hasB_set h hk (by omega)]
 by_cases ej : k / 64 = n / 64
 ·rw [if_pos ej, Nat.testBit_or, Nat.testBit_two_pow]
  have : hasB ws k = m.testBit (k % 64) := by unfold hasB; rw [ej, e1]; rfl
  rw [this]
  congr 1
  rw [decide_eq_decide]
  omega
 ·rw [if_neg ej]
  have : ¬ k = n := fun e => ej (by rw [e])
  simp [this]
theorem setBit_has {ws : List Int} (h : W64 ws) {n : Nat} (hn : n < 256) (hh : hasB ws n = true) : setBit ws n = ws := by
 refine (h.setBit hn).ext h fun k hk => ?_
 rw [hasB_setBit h hn hk]
 by_cases e : k = n
 ·subst e; rw [hh]; rfl
 ·simp [e]
theorem add_or (m k : Nat) (h : m.testBit k = false) : m + 2 ^ k = m ||| 2 ^ k := by
 have e : m = 2 ^ (k + 1) * (m / 2 ^ (k + 1)) + m % 2 ^ (k + 1) := (Nat.div_add_mod m (2 ^ (k + 1))).symm
 have hlt : m % 2 ^ (k + 1) < 2 ^ k := by
  rcases Nat.lt_or_ge (m % 2 ^ (k + 1)) (2 ^ k) with h' | h'
  ·exact h'
  ·exfalso
   have h1 : m % 2 ^ (k + 1) < 2 ^ (k + 1) := Nat.mod_lt _ (Nat.two_pow_pos _)
   have : (m % 2 ^ (k + 1)).testBit k = true := by
    rw [Nat.testBit_eq_decide_div_mod_eq]
    have : m % 2 ^ (k + 1) / 2 ^ k = 1 := by
     rw [Nat.pow_succ] at h1
     refine Nat.div_eq_of_lt_le (by rw [Nat.one_mul]; rw [Nat.pow_succ]; exact h') (by rw [Nat.pow_succ]; omega)
    simp [this]
   rw [Nat.testBit_mod_two_pow] at this
   simp [h] at this
 have h2 : m % 2 ^ (k + 1) + 2 ^ k < 2 ^ (k + 1) := by rw [Nat.pow_succ] at *; omega
 have h3 : m % 2 ^ (k + 1) + 2 ^ k = m % 2 ^ (k + 1) ||| 2 ^ k := by
  have := Nat.two_pow_add_eq_or_of_lt hlt 1
  rw [Nat.mul_one] at this
  rw [Nat.add_comm, this, Nat.or_comm]
 calc m + 2 ^ k = 2 ^ (k + 1) * (m / 2 ^ (k + 1)) + (m % 2 ^ (k + 1) + 2 ^ k) := by omega
  _ = 2 ^ (k + 1) * (m / 2 ^ (k + 1)) ||| (m % 2 ^ (k + 1) + 2 ^ k) := Nat.two_pow_add_eq_or_of_lt h2 _
  _ = 2 ^ (k + 1) * (m / 2 ^ (k + 1)) ||| (m % 2 ^ (k + 1) ||| 2 ^ k) := by rw [h3]
  _ = (2 ^ (k + 1) * (m / 2 ^ (k + 1)) ||| m % 2 ^ (k + 1)) ||| 2 ^ k := (Nat.or_assoc ..).symm
  _ = m ||| 2 ^ k := by rw [← Nat.two_pow_add_eq_or_of_lt (Nat.mod_lt _ (Nat.two_pow_pos _)), ← e]
theorem setBit_add {ws : List Int} (h : W64 ws) {n : Nat} (hn : n < 256) (hh : hasB ws n = false) : setBit ws n = ws.set (n / 64) (IntKind.wrap .u64 (ws.getD (n / 64) 0 + ((2 ^ (n % 64) : Nat) : Int))) := by
 obtain ⟨m, e1, hm, e, hm'⟩ := setBit_w h hn
 have hb : m.testBit (n % 64) = false := by
  have : hasB ws n = m.testBit (n % 64) := by unfold hasB; rw [e1]; rfl
  rw [← this, hh]
 have h1 := add_or m (n % 64) hb
 have hlt : m + 2 ^ (n % 64) < 2 ^ 64 := by rw [h1]; exact hm'
 rw [e, e1, ← h1]
 congr 1
 have : ((m : Int) + ((2 ^ (n % 64) : Nat) : Int)) = ((m + 2 ^ (n % 64) : Nat) : Int) := by simp
 rw [this, u64_wrap _ hlt]
theorem joinW_get {a b : List Int} (ha : W64 a) (hb : W64 b) {j : Nat} (hj : j < 4) : ∃ m n : Nat, a.getD j 0 = (m : Int) ∧ b.getD j 0 = (n : Int) ∧ (joinW a b).getD j 0 = ((m ||| n : Nat) : Int) ∧ m ||| n < 2 ^ 64 := by
 obtain ⟨m, e1, h1⟩ := ha.getD hj
 obtain ⟨n, e2, h2⟩ := hb.getD hj
 refine ⟨m, n, e1, e2, ?_, Nat.or_lt_two_pow h1 h2⟩
 have ga := ws_get (ws := a) (i := j) (by rw [ha.len]; exact hj)
 have gb := ws_get (ws := b) (i := j) (by rw [hb.len]; exact hj)
 rw [e1] at ga
 rw [e2] at gb
 have : (joinW a b)[j]? = some (bits .or .u64 (m : Int) (n : Int)) := by
  unfold joinW
  rw [List.getElem?_zipWith, ga, gb]
 rw [List.getD_eq_getElem?_getD, this, Option.getD_some, orW m n h1 h2]
theorem W64.joinW {a b : List Int} (ha : W64 a) (hb : W64 b) : W64 (joinW a b) :=
 W64.of (joinW_len ha.len hb.len) fun j hj => let ⟨m, n, _, _, h1, h2⟩ := joinW_get ha hb hj; ⟨_, h1, h2⟩
theorem hasB_joinW {a b : List Int} (ha : W64 a) (hb : W64 b) {n : Nat} (hn : n < 256) : hasB (joinW a b) n = (hasB a n || hasB b n) := by
 obtain ⟨m, k, e1, e2, e3, _⟩ := joinW_get ha hb (j := n / 64) (by omega)
 unfold hasB
 rw [e1, e2, e3]
 show (m ||| k).testBit _ = (m.testBit _ || k.testBit _)
 rw [Nat.testBit_or]
theorem W64.joinAll2 {a b : List Int} (ha : W64 a) (hb : W64 b) : W64 (joinAll [a, b]) := (W64.none.joinW ha).joinW hb
theorem hasB_joinAll2 {a b : List Int} (ha : W64 a) (hb : W64 b) {n : Nat} (hn : n < 256) : hasB (joinAll [a, b]) n = (hasB a n || hasB b n) := by
 show hasB (AWP.joinW (AWP.joinW noneS a) b) n = _
 rw [hasB_joinW (W64.none.joinW ha) hb hn, hasB_joinW W64.none ha hn, hasB_none n hn, Bool.false_or]
theorem specAny (b : UInt8) : decide (0 ≤ firstIdx spec1 b) = (List.range 9).any fun j => spec1.data[j]? == some b :=
 all_ofNat (p := fun b => decide (0 ≤ firstIdx spec1 b) = (List.range 9).any fun j => spec1.data[j]? == some b) (by decide +kernel) b
theorem plain_of (b : UInt8) (h : ∀ j, j < 9 → spec1.data[j]? ≠ some b) : plain b = !(decide (b.toNat < 33) || decide (126 < b.toNat)) := by
 have : decide (0 ≤ firstIdx spec1 b) = false := by
  rw [specAny, List.any_eq_false]
  intro j hj
  simpa using h j (by simpa using hj)
 unfold plain
 rw [this, Bool.or_false]
theorem plain_not (b : UInt8) {j : Nat} (hj : j < 9) (h : spec1.data[j]? = some b) : plain b = false := by
 have : decide (0 ≤ firstIdx spec1 b) = true := by
  rw [specAny, List.any_eq_true]
  exact ⟨j, by simpa using hj, by simp [h]⟩
 unfold plain
 rw [this, Bool.or_true]; rfl
theorem hexD_ext (n : Nat) (h : n < 16) : hexS.extract n (n + 1) = ⟨#[hexD n]⟩ := by
 have e : n = 0 ∨ n = 1 ∨ n = 2 ∨ n = 3 ∨ n = 4 ∨ n = 5 ∨ n = 6 ∨ n = 7 ∨ n = 8 ∨ n = 9 ∨ n = 10 ∨ n = 11 ∨ n = 12 ∨ n = 13 ∨ n = 14 ∨ n = 15 := by omega
 rcases e with rfl | rfl | rfl | rfl | rfl | rfl | rfl | rfl | rfl | rfl | rfl | rfl | rfl | rfl | rfl | rfl <;> rfl
end Go.Proofs.YtlejbkfefpfolaaGreatDoor.AWP
set_option maxRecDepth 100000
namespace Go.Proofs.YtlejbkfefpfolaaGreatDoor.AWP
open Go
mutual
def Re.sz : Re → Nat
 | .mk _ _ _ _ _ ks => 1 + Re.szs ks
def Re.szs : List Re → Nat
 | [] => 0
 | r :: l => r.sz + Re.szs l
end
theorem Re.szs_app (l m : List Re) : Re.szs (l ++ m) = Re.szs l + Re.szs m := by
 induction l with
 | nil => simp [Re.szs]
 | cons r l ih => simp only [List.cons_append, Re.szs, ih]; omega
theorem Re.sz_pos (r : Re) : 1 ≤ r.sz := by cases r; rw [Re.sz]; omega
theorem Re.len_szs (l : List Re) : l.length ≤ Re.szs l := by
 induction l with
 | nil => simp
 | cons r l ih => have := r.sz_pos; simp only [List.length_cons, Re.szs]; omega
theorem Re.sz_mem {l : List Re} {r : Re} (h : r ∈ l) : r.sz ≤ Re.szs l := by
 induction l with
 | nil => cases h
 | cons x l ih =>
  rw [Re.szs]
  rcases List.mem_cons.1 h with rfl | h
  ·omega
  ·have := ih h; omega
def Re.kids : Re → List Re
 | .mk _ _ _ _ _ ks => ks
theorem Re.sz_kids (r : Re) : r.sz = 1 + Re.szs r.kids := by cases r; rw [Re.sz]; rfl
def Re.nodeOk : Re → Bool
 | .mk k a b c d ks =>
  let bare := decide (a = 0 ∧ b = 0 ∧ c = 0 ∧ d = 0)
  if k = 1 ∨ k = 2 then decide (ks.length = 0) && bare
  else if k = 3 then decide (ks.length = 0) && !bare
  else if k = 4 ∨ k = 5 then decide (ks.length = 2) && bare
  else if k = 6 then decide (ks.length = 1) && bare
  else false
mutual
def Re.nodesOk : Re → Bool
 | .mk k a b c d ks => Re.nodeOk (.mk k a b c d ks) && Re.nodesOks ks
def Re.nodesOks : List Re → Bool
 | [] => true
 | r :: l => r.nodesOk && Re.nodesOks l
end
theorem Re.nodesOks_any (l : List Re) : Re.nodesOks l = !(l.any fun r => !r.nodesOk) := by
 induction l with
 | nil => rfl
 | cons r l ih => rw [Re.nodesOks, ih]; simp
def mayB (r : Re) : Bool := r.nodesOk && decide (r.sz ≤ 2000)
theorem Re.c_5 (r : Re) : r.c[5]? = some (Res r.kids) := by cases r; rw [Re.c_mk]; rfl
theorem Re.szs_take {l : List Re} {i : Nat} {x : Re} (h : l[i]? = some x) : Re.szs (l.take (i + 1)) = Re.szs (l.take i) + 1 + Re.szs x.kids := by
 rw [List.take_add_one, h, Re.szs_app]
 have := x.sz_kids
 simp [Re.szs]; omega
theorem Re.szs_take_le (l : List Re) (i : Nat) : Re.szs (l.take i) ≤ Re.szs l := by
 have := Re.szs_app (l.take i) (l.drop i)
 rw [List.take_append_drop] at this
 omega
mutual
def Re.pre : Re → List Re
 | .mk k a b c d ks => .mk k a b c d ks :: Re.pres ks
def Re.pres : List Re → List Re
 | [] => []
 | r :: l => r.pre ++ Re.pres l
end
theorem Re.pres_app (l m : List Re) : Re.pres (l ++ m) = Re.pres l ++ Re.pres m := by
 induction l with
 | nil => simp [Re.pres]
 | cons r l ih => simp only [List.cons_append, Re.pres, ih, List.append_assoc]
theorem Re.pres_take {l : List Re} {i : Nat} {x : Re} (h : l[i]? = some x) : Re.pres (l.take (i + 1)) = Re.pres (l.take i) ++ x.pre := by
 rw [List.take_add_one, h, Re.pres_app]
 simp [Re.pres]
theorem Re.pres_len1 (l : List Re) (h : ∀ r ∈ l, r.pre.length = r.sz) : (Re.pres l).length = Re.szs l := by
 induction l with
 | nil => simp [Re.pres, Re.szs]
 | cons r l ih =>
  rw [Re.pres, Re.szs, List.length_append, h r (by simp), ih fun x hx => h x (by simp [hx])]
theorem Re.pre_len (r : Re) : r.pre.length = r.sz := by
 refine Re.ind (p := fun r => r.pre.length = r.sz) ?_ r
 intro k a b c d ks ih
 rw [Re.pre, Re.sz, List.length_cons, Re.pres_len1 ks ih]; omega
theorem Re.pres_len (l : List Re) : (Re.pres l).length = Re.szs l := Re.pres_len1 l fun r _ => r.pre_len
theorem Re.nodesOks_pres (l : List Re) (h : ∀ r ∈ l, r.nodesOk = r.pre.all Re.nodeOk) : Re.nodesOks l = (Re.pres l).all Re.nodeOk := by
 induction l with
 | nil => simp [Re.pres, Re.nodesOks]
 | cons r l ih =>
  rw [Re.pres, Re.nodesOks, List.all_append, h r (by simp), ih fun x hx => h x (by simp [hx])]
theorem Re.nodesOk_pre (r : Re) : r.nodesOk = r.pre.all Re.nodeOk := by
 refine Re.ind (p := fun r => r.nodesOk = r.pre.all Re.nodeOk) ?_ r
 intro k a b c d ks ih
 rw [Re.pre, Re.nodesOk, List.all_cons, Re.nodesOks_pres ks ih]
theorem reS_sz (ws : List Int) : (reS ws).sz = 1 := by unfold reS; split <;> simp [Re.sz, Re.szs]
theorem foldR_sz (kind : Int) (l : List Re) (x : Re) : (foldR kind l x).sz = Re.szs l + x.sz + l.length := by
 induction l with
 | nil => simp [foldR, Re.szs]
 | cons y l ih =>
  show (Re.mk kind 0 0 0 0 [y, foldR kind l x]).sz = _
  rw [Re.sz]
  simp only [Re.szs, ih, List.length_cons]
  omega
theorem foldL_sz (kind none : Int) (l : List Re) (h : l ≠ []) : (foldL kind none l).sz + 1 = Re.szs l + l.length := by
 rcases List.eq_nil_or_concat l with h' | ⟨m, x, rfl⟩
 ·exact absurd h' h
 ·rw [List.concat_eq_append]
  have e : foldL kind none (m ++ [x]) = foldR kind m x := by simp [foldL]
  rw [e, foldR_sz, Re.szs_app]
  simp [Re.szs]; omega
theorem clsGo_sz {s : ByteArray} : ∀ (n : Nat) (ws : List Int) (p : Nat) {r : Re} {q : Nat}, s.size - p ≤ n → clsGo s ws p = .ok r q → r.sz = 1 := by
 intro n
 induction n with
 | zero =>
  intro ws p r q hn h
  rw [clsGo] at h
  split at h
  ·cases h; exact reS_sz _
  ·split at h
   ·cases h
   ·rename_i lo q1 hs
    have := pSign_lt hs
    omega
 | succ n ih =>
  intro ws p r q hn h
  rw [clsGo] at h
  split at h
  ·cases h; exact reS_sz _
  ·split at h
   ·cases h
   ·rename_i lo q1 hs
    split at h
    case isFalse => cases h
    split at h
    ·split at h
     ·cases h
     ·split at h
      ·cases h
      ·split at h
       case isFalse => cases h
       exact ih _ _ (by omega) h
    ·exact ih _ _ (by omega) h
theorem starGo_sz {s : ByteArray} : ∀ (n : Nat) (r : Re) (p : Nat), s.size - p ≤ n → p ≤ s.size → (starGo s r p).1.sz + p = r.sz + (starGo s r p).2 := by
 intro n
 induction n with
 | zero =>
  intro r p hn hp
  rw [starGo]
  split
  ·rename_i h; have := isB_lt h; omega
  ·rfl
 | succ n ih =>
  intro r p hn hp
  rw [starGo]
  split
  ·rename_i h; have := isB_lt h
   have := ih (.mk 6 0 0 0 0 [r]) (p + 1) (by omega) (by omega)
   have e : (Re.mk 6 0 0 0 0 [r]).sz = 1 + r.sz := by rw [Re.sz]; simp [Re.szs]
   rw [e] at this
   omega
  ·rfl
def Szd (A : Nat → PR) (s : ByteArray) : Prop := ∀ {p r q}, A p = .ok r q → r.sz + 1 ≤ 2 * (q - p) ∧ p < q ∧ q ≤ s.size
section
variable {A : Nat → PR} {s : ByteArray}
theorem Szd.fwd (h : Szd A s) : Fwd A s := fun h' => by have := h h'; omega
theorem pAtom_sz (hA : Szd A s) {p : Nat} {r : Re} {q : Nat} (h : pAtom A s p = .ok r q) : r.sz + 1 ≤ 2 * (q - p) := by
 have hlt := pAtom_lt hA.fwd h
 unfold pAtom at h
 split at h
 ·cases h; rw [reS_sz]; omega
 split at h
 ·have := clsGo_sz _ _ _ (Nat.le_refl _) h; omega
 split at h
 ·split at h
  ·cases h; simp [Re.sz, Re.szs]
  ·split at h
   ·cases h
   ·rename_i h1
    have := hA h1
    split at h
    ·cases h; omega
    ·cases h
 ·split at h
  ·cases h
  ·cases h; rw [reS_sz]; omega
theorem pPart_sz (hA : Szd A s) {p : Nat} {r : Re} {q : Nat} (h : pPart A s p = .ok r q) : r.sz + 1 ≤ 2 * (q - p) := by
 unfold pPart at h
 split at h
 ·cases h
 ·rename_i r1 q1 h1
  have h2 := pAtom_sz hA h1
  have h3 := pAtom_lt hA.fwd h1
  have h4 := starGo_sz _ r1 q1 (Nat.le_refl _) h3.2
  have h5 := starGo_le _ r1 q1 (Nat.le_refl _) h3.2
  cases h
  omega
theorem rowGo_sz (hA : Szd A s) (p0 : Nat) : ∀ (n : Nat) (l : List Re) (p : Nat) {r : Re} {q : Nat}, s.size - p ≤ n → p0 ≤ p → p ≤ s.size → l ≠ [] → Re.szs l + l.length ≤ 2 * (p - p0) → rowGo A s l p = .ok r q → r.sz + 1 ≤ 2 * (q - p0) := by
 intro n
 induction n with
 | zero =>
  intro l p r q hn hp0 hp hl hz h
  rw [rowGo] at h
  split at h
  ·split at h
   ·cases h
   ·rename_i h1
    have := pPart_lt hA.fwd h1
    omega
  ·cases h; rw [foldL_sz _ _ _ hl]; exact hz
 | succ n ih =>
  intro l p r q hn hp0 hp hl hz h
  rw [rowGo] at h
  split at h
  ·split at h
   ·cases h
   ·rename_i r1 q1 h1
    have h2 := pPart_sz hA h1
    split at h
    case isFalse => cases h
    refine ih _ _ (by omega) (by omega) (by omega) (by simp) ?_ h
    rw [Re.szs_app]
    simp [Re.szs]
    omega
  ·cases h; rw [foldL_sz _ _ _ hl]; exact hz
theorem pRow_sz (hA : Szd A s) {p : Nat} {r : Re} {q : Nat} (h : pRow A s p = .ok r q) : r.sz + 1 ≤ 2 * (q - p) := by
 unfold pRow at h
 split at h
 ·cases h
 ·rename_i r1 q1 h1
  have h2 := pPart_lt hA.fwd h1
  have h3 := pPart_sz hA h1
  exact rowGo_sz hA p _ _ _ (Nat.le_refl _) (by omega) h2.2 (by simp) (by simp [Re.szs]; omega) h
theorem altGo_sz (hA : Szd A s) (p0 : Nat) : ∀ (n : Nat) (l : List Re) (p : Nat) {r : Re} {q : Nat}, s.size - p ≤ n → p0 ≤ p → p ≤ s.size → l ≠ [] → Re.szs l + l.length ≤ 2 * (p - p0) → altGo A s l p = .ok r q → r.sz + 1 ≤ 2 * (q - p0) := by
 intro n
 induction n with
 | zero =>
  intro l p r q hn hp0 hp hl hz h
  rw [altGo] at h
  split at h
  ·rename_i h0; have := isB_lt h0; omega
  ·cases h; rw [foldL_sz _ _ _ hl]; exact hz
 | succ n ih =>
  intro l p r q hn hp0 hp hl hz h
  rw [altGo] at h
  split at h
  ·split at h
   ·cases h
   ·rename_i r1 q1 h1
    have h2 := pRow_sz hA h1
    have h3 := pRow_lt hA.fwd h1
    split at h
    case isFalse => cases h
    refine ih _ _ (by omega) (by omega) (by omega) (by simp) ?_ h
    rw [Re.szs_app]
    simp [Re.szs]
    omega
  ·cases h; rw [foldL_sz _ _ _ hl]; exact hz
theorem pAlt_sz (hA : Szd A s) {p : Nat} {r : Re} {q : Nat} (h : pAlt A s p = .ok r q) : r.sz + 1 ≤ 2 * (q - p) := by
 unfold pAlt at h
 split at h
 ·cases h
 ·rename_i r1 q1 h1
  have h2 := pRow_lt hA.fwd h1
  have h3 := pRow_sz hA h1
  exact altGo_sz hA p _ _ _ (Nat.le_refl _) (by omega) h2.2 (by simp) (by simp [Re.szs]; omega) h
end
theorem altF_sz {s : ByteArray} : ∀ (n p : Nat) {r : Re} {q : Nat}, s.size - p ≤ n → altF s p = .ok r q → r.sz + 1 ≤ 2 * (q - p) := by
 intro n
 induction n with
 | zero =>
  intro p r q hn h
  rw [altF_eq] at h
  refine pAlt_sz ?_ h
  intro p' r' q' h'
  unfold altA at h'
  split at h'
  ·omega
  ·cases h'
 | succ n ih =>
  intro p r q hn h
  rw [altF_eq] at h
  refine pAlt_sz ?_ h
  intro p' r' q' h'
  unfold altA at h'
  split at h'
  ·have := ih _ (by omega) h'
   have := altF_lt _ _ (Nat.le_refl _) h'
   omega
  ·cases h'
theorem pWhole_sz (s : ByteArray) : (pWhole s).1.sz ≤ 2 * s.size + 1 := by
 unfold pWhole
 split
 ·simp [Re.sz, Re.szs]
 ·rename_i r q h
  have h1 := altF_sz _ _ (Nat.le_refl _) h
  have h2 := altF_lt _ _ (Nat.le_refl _) h
  split
  ·simp [Re.sz, Re.szs]
  ·dsimp only; omega
def pRead (s : ByteArray) : Re × Nat × Nat :=
 if 65536 < s.size then (.mk 0 0 0 0 0 [], 0, 3) else
 if (pWhole s).2.2 = 0 ∧ mayB (pWhole s).1 = false then (.mk 0 0 0 0 0 [], 0, 4) else pWhole s
end Go.Proofs.YtlejbkfefpfolaaGreatDoor.AWP
set_option maxRecDepth 100000
namespace Go.Proofs.YtlejbkfefpfolaaGreatDoor.AWP
open Go
structure Sh (s s' : ByteArray) (k : Nat) : Prop where
 get : ∀ i, i < s.size → s'.data[k + i]? = s.data[i]?
 stop : s'.data[k + s.size]? = some 41
section
variable {s s' : ByteArray} {k : Nat}
theorem Sh.lt (h : Sh s s' k) : k + s.size < s'.size := (Array.getElem?_eq_some_iff.1 h.stop).1
theorem Sh.isI (h : Sh s s' k) {p : Nat} (hp : p < s.size) (l : ByteArray) : isB s' (k + p) l = isB s p l := by
 unfold isB
 rw [h.get p hp]
theorem Sh.isE (h : Sh s s' k) {p : Nat} (hp : p ≤ s.size) {l : ByteArray} (hl : decide (0 ≤ firstIdx l 41) = false) : isB s' (k + p) l = isB s p l := by
 by_cases h1 : p < s.size
 ·exact h.isI h1 l
 ·have e : p = s.size := by omega
  subst e
  rw [isB_end h1, isB_at h.stop, hl]
theorem Sh.beg (h : Sh s s' k) {p : Nat} (hp : p ≤ s.size) : begB s' (k + p) = begB s p := by
 unfold begB
 rw [h.isE hp (by decide +kernel)]
 by_cases h1 : p < s.size
 ·rw [h.get p h1]
 ·have e : p = s.size := by omega
  subst e
  rw [h.stop, Array.getElem?_eq_none (by exact Nat.le_of_not_lt h1)]
  simp only [show plain 41 = false from by decide +kernel]
theorem Sh.getD (h : Sh s s' k) {p : Nat} (hp : p < s.size) : s'.data.getD (k + p) 0 = s.data.getD p 0 := by
 rw [Array.getD_eq_getD_getElem?, Array.getD_eq_getD_getElem?, h.get p hp]
theorem Sh.sign (h : Sh s s' k) {p : Nat} {b : UInt8} {q : Nat} (hs : pSign s p = .ok b q) : pSign s' (k + p) = .ok b (k + q) := by
 unfold pSign at hs ⊢
 split at hs
 case isFalse => cases hs
 rename_i h0
 have hp := begB_lt h0
 rw [h.beg (by omega), if_pos h0, h.getD hp]
 split at hs
 case isFalse hn =>
  rw [if_neg hn]
  cases hs; rfl
 rename_i h92
 rw [if_pos h92]
 split at hs
 case isFalse => cases hs
 rename_i h1
 have hp1 := isB_lt h1
 split at hs
 case isFalse => cases hs
 rename_i h2
 have hp2 := isB_lt h2
 rw [show k + p + 1 = k + (p + 1) from by omega, show k + p + 2 = k + (p + 2) from by omega, h.isI hp1, h.isI hp2, if_pos h1, if_pos h2]
 unfold hexAt
 rw [h.getD hp1, h.getD hp2]
 cases hs; rfl
theorem Sh.cls (h : Sh s s' k) : ∀ (n : Nat) (ws : List Int) (p : Nat) {r : Re} {q : Nat}, s.size - p ≤ n → p ≤ s.size → clsGo s ws p = .ok r q → clsGo s' ws (k + p) = .ok r (k + q) := by
 intro n
 induction n with
 | zero =>
  intro ws p r q hn hp h'
  have := clsGo_lt _ _ _ (Nat.le_refl _) h'
  omega
 | succ n ih =>
  intro ws p r q hn hp h'
  have hsz := h.lt
  rw [clsGo] at h' ⊢
  rw [h.isE hp (by decide +kernel)]
  split at h'
  ·rename_i h0
   rw [if_pos h0]; cases h'; rfl
  rename_i h0
  rw [if_neg h0]
  split at h'
  ·cases h'
  rename_i lo q1 hs
  have hq := pSign_lt hs
  rw [h.sign hs]
  dsimp only
  rw [dif_pos (by omega)]
  rw [dif_pos hq] at h'
  rw [h.isE hq.2 (by decide +kernel)]
  split at h'
  ·rename_i hd
   have hd' := isB_lt hd
   rw [if_pos hd]
   split at h'
   ·cases h'
   rename_i hi q2 hs2
   have hq2 := pSign_lt hs2
   rw [show k + q1 + 1 = k + (q1 + 1) from by omega, h.sign hs2]
   dsimp only
   split at h'
   ·cases h'
   rename_i hlt
   rw [if_neg hlt, dif_pos (by omega)]
   rw [dif_pos (by omega)] at h'
   exact ih _ _ (by omega) (by omega) h'
  ·rename_i hd
   rw [if_neg hd]
   exact ih _ _ (by omega) (by omega) h'
theorem Sh.star (h : Sh s s' k) : ∀ (n : Nat) (r : Re) (p : Nat), s.size - p ≤ n → p ≤ s.size → starGo s' r (k + p) = ((starGo s r p).1, k + (starGo s r p).2) := by
 intro n
 induction n with
 | zero =>
  intro r p hn hp
  have e := h.isE (l := cStar) hp (by decide +kernel)
  have e2 : isB s p cStar = false := isB_end (by omega)
  have e1 : isB s' (k + p) cStar = false := by rw [e, e2]
  rw [starGo, dif_neg (by rw [e1]; simp)]
  conv => rhs; rw [starGo, dif_neg (by rw [e2]; simp)]
 | succ n ih =>
  intro r p hn hp
  have e := h.isE (l := cStar) hp (by decide +kernel)
  rw [starGo]
  conv => rhs; rw [starGo]
  by_cases hb : isB s p cStar = true
  ·have := isB_lt hb
   rw [dif_pos (by rw [e]; exact hb), dif_pos hb]
   exact ih _ (p + 1) (by omega) (by omega)
  ·rw [dif_neg (by rw [e]; exact hb), dif_neg hb]
variable {A A' : Nat → PR}
theorem Sh.atom (h : Sh s s' k) (hA : Fwd A s) (hh : ∀ {p r q}, A p = .ok r q → A' (k + p) = .ok r (k + q)) {p : Nat} {r : Re} {q : Nat} (hp : p ≤ s.size) (h' : pAtom A s p = .ok r q) : pAtom A' s' (k + p) = .ok r (k + q) := by
 unfold pAtom at h' ⊢
 rw [h.isE hp (by decide +kernel), h.isE hp (by decide +kernel), h.isE hp (by decide +kernel)]
 split at h'
 ·rename_i h0
  rw [if_pos h0]; cases h'; rfl
 rename_i h0
 rw [if_neg h0]
 split at h'
 ·rename_i h1
  have := isB_lt h1
  rw [if_pos h1]
  exact h.cls _ _ (p + 1) (Nat.le_refl _) (by omega) h'
 rename_i h1
 rw [if_neg h1]
 split at h'
 ·rename_i h2
  have hlt := isB_lt h2
  rw [if_pos h2, show k + p + 1 = k + (p + 1) from by omega]
  split at h'
  ·rename_i h3
   have hlt3 := isB_lt h3
   rw [h.isI hlt3, if_pos h3]
   cases h'; rfl
  rename_i h3
  split at h'
  ·cases h'
  rename_i r1 q1 ha
  have hf := hA ha
  split at h'
  case isFalse => cases h'
  rename_i h4
  have hlt4 := isB_lt h4
  rw [h.isI (by omega), if_neg h3, hh ha]
  dsimp only
  rw [h.isI hlt4, if_pos h4]
  cases h'; rfl
 rename_i h2
 rw [if_neg h2]
 split at h'
 ·cases h'
 rename_i b q1 hs
 rw [h.sign hs]
 cases h'; rfl
theorem Sh.part (h : Sh s s' k) (hA : Fwd A s) (hh : ∀ {p r q}, A p = .ok r q → A' (k + p) = .ok r (k + q)) {p : Nat} {r : Re} {q : Nat} (hp : p ≤ s.size) (h' : pPart A s p = .ok r q) : pPart A' s' (k + p) = .ok r (k + q) := by
 unfold pPart at h' ⊢
 split at h'
 ·cases h'
 rename_i r1 q1 h1
 have hlt := pAtom_lt hA h1
 rw [h.atom hA hh hp h1]
 dsimp only
 rw [h.star _ _ q1 (Nat.le_refl _) hlt.2]
 cases h'; rfl
theorem Sh.rowG (h : Sh s s' k) (hA : Fwd A s) (hh : ∀ {p r q}, A p = .ok r q → A' (k + p) = .ok r (k + q)) : ∀ (n : Nat) (l : List Re) (p : Nat) {r : Re} {q : Nat}, s.size - p ≤ n → p ≤ s.size → rowGo A s l p = .ok r q → rowGo A' s' l (k + p) = .ok r (k + q) := by
 intro n
 induction n with
 | zero =>
  intro l p r q hn hp h'
  have e : (isB s p cAtom || begB s p) = false := by rw [isB_end (by omega), begB_end (by omega)]; rfl
  rw [rowGo] at h' ⊢
  rw [h.isE hp (by decide +kernel), h.beg hp, e]
  rw [e] at h'
  rw [if_neg (by simp)] at h' ⊢
  cases h'; rfl
 | succ n ih =>
  intro l p r q hn hp h'
  have hsz := h.lt
  rw [rowGo] at h' ⊢
  rw [h.isE hp (by decide +kernel), h.beg hp]
  split at h'
  ·rename_i h0
   rw [if_pos h0]
   split at h'
   ·cases h'
   rename_i r1 q1 h1
   have hlt := pPart_lt hA h1
   rw [h.part hA hh hp h1]
   dsimp only
   rw [dif_pos (by omega)] at h' ⊢
   exact ih _ _ (by omega) (by omega) h'
  ·rename_i h0
   rw [if_neg h0]
   cases h'; rfl
theorem Sh.row (h : Sh s s' k) (hA : Fwd A s) (hh : ∀ {p r q}, A p = .ok r q → A' (k + p) = .ok r (k + q)) {p : Nat} {r : Re} {q : Nat} (hp : p ≤ s.size) (h' : pRow A s p = .ok r q) : pRow A' s' (k + p) = .ok r (k + q) := by
 unfold pRow at h' ⊢
 split at h'
 ·cases h'
 rename_i r1 q1 h1
 have hlt := pPart_lt hA h1
 rw [h.part hA hh hp h1]
 exact h.rowG hA hh _ _ q1 (Nat.le_refl _) hlt.2 h'
theorem Sh.altG (h : Sh s s' k) (hA : Fwd A s) (hh : ∀ {p r q}, A p = .ok r q → A' (k + p) = .ok r (k + q)) : ∀ (n : Nat) (l : List Re) (p : Nat) {r : Re} {q : Nat}, s.size - p ≤ n → p ≤ s.size → altGo A s l p = .ok r q → altGo A' s' l (k + p) = .ok r (k + q) := by
 intro n
 induction n with
 | zero =>
  intro l p r q hn hp h'
  have e : isB s p cBar = false := isB_end (by omega)
  rw [altGo] at h' ⊢
  rw [h.isE hp (by decide +kernel), e]
  rw [e] at h'
  rw [if_neg (by simp)] at h' ⊢
  cases h'; rfl
 | succ n ih =>
  intro l p r q hn hp h'
  have hsz := h.lt
  rw [altGo] at h' ⊢
  rw [h.isE hp (by decide +kernel)]
  split at h'
  ·rename_i h0
   have hb := isB_lt h0
   rw [if_pos h0]
   split at h'
   ·cases h'
   rename_i r1 q1 h1
   have hlt := pRow_lt hA h1
   rw [show k + p + 1 = k + (p + 1) from by omega, h.row hA hh (by omega) h1]
   dsimp only
   rw [dif_pos (by omega)] at h' ⊢
   exact ih _ _ (by omega) (by omega) h'
  ·rename_i h0
   rw [if_neg h0]
   cases h'; rfl
theorem Sh.alt (h : Sh s s' k) (hA : Fwd A s) (hh : ∀ {p r q}, A p = .ok r q → A' (k + p) = .ok r (k + q)) {p : Nat} {r : Re} {q : Nat} (hp : p ≤ s.size) (h' : pAlt A s p = .ok r q) : pAlt A' s' (k + p) = .ok r (k + q) := by
 unfold pAlt at h' ⊢
 split at h'
 ·cases h'
 rename_i r1 q1 h1
 have hlt := pRow_lt hA h1
 rw [h.row hA hh hp h1]
 exact h.altG hA hh _ _ q1 (Nat.le_refl _) hlt.2 h'
end
theorem starGo_no {s : ByteArray} {r : Re} {p : Nat} (h : isB s p cStar = false) : starGo s r p = (r, p) := by
 rw [starGo, dif_neg (by rw [h]; simp)]
end Go.Proofs.YtlejbkfefpfolaaGreatDoor.AWP
set_option maxRecDepth 100000
namespace Go.Proofs.YtlejbkfefpfolaaGreatDoor.AWP
open Go
def Re.nul : Re → Bool
 | .mk k _ _ _ _ [x, y] => if k = 4 then x.nul && y.nul else if k = 5 then x.nul || y.nul else decide (k = 2 ∨ k = 6)
 | .mk k _ _ _ _ _ => decide (k = 2 ∨ k = 6)
def Re.fit : Re → Bool
 | .mk k _ _ _ _ [x, y] => if k = 4 then x.fit && y.fit else if k = 5 then x.fit || y.fit else decide (k ≠ 1)
 | .mk k _ _ _ _ _ => decide (k ≠ 1)
def Re.fst : Re → List Int
 | .mk k _ _ _ _ [x, y] => if k = 4 then (if x.fit && y.fit then (if x.nul then joinAll [x.fst, y.fst] else x.fst) else noneS) else joinAll [x.fst, y.fst]
 | .mk _ _ _ _ _ [x] => x.fst
 | .mk k a b c d _ => if k = 3 then [a, b, c, d] else noneS
theorem Re.ok_cases {r : Re} (h : r.nodesOk = true) : (∃ k, (k = 1 ∨ k = 2) ∧ r = .mk k 0 0 0 0 []) ∨ (∃ a b c d, ¬ (a = 0 ∧ b = 0 ∧ c = 0 ∧ d = 0) ∧ r = .mk 3 a b c d []) ∨
  (∃ k x y, (k = 4 ∨ k = 5) ∧ r = .mk k 0 0 0 0 [x, y] ∧ x.nodesOk = true ∧ y.nodesOk = true) ∨ ∃ x, r = .mk 6 0 0 0 0 [x] ∧ x.nodesOk = true := by
 obtain ⟨k, a, b, c, d, ks⟩ := r
 rw [Re.nodesOk, Bool.and_eq_true] at h
 obtain ⟨h1, h2⟩ := h
 unfold Re.nodeOk at h1
 dsimp only at h1
 split at h1
 ·rename_i hk
  simp only [Bool.and_eq_true, decide_eq_true_eq] at h1
  obtain ⟨e, rfl, rfl, rfl, rfl⟩ := h1
  exact .inl ⟨k, hk, by rw [List.eq_nil_of_length_eq_zero e]⟩
 split at h1
 ·rename_i hk
  subst hk
  simp only [Bool.and_eq_true, decide_eq_true_eq, Bool.not_eq_true', decide_eq_false_iff_not] at h1
  exact .inr (.inl ⟨a, b, c, d, h1.2, by rw [List.eq_nil_of_length_eq_zero h1.1]⟩)
 split at h1
 ·rename_i hk
  simp only [Bool.and_eq_true, decide_eq_true_eq] at h1
  obtain ⟨e, rfl, rfl, rfl, rfl⟩ := h1
  match ks, e with
  | [x, y], _ =>
   rw [Re.nodesOks, Re.nodesOks, Re.nodesOks] at h2
   simp only [Bool.and_eq_true, and_true] at h2
   exact .inr (.inr (.inl ⟨k, x, y, hk, rfl, h2.1, h2.2⟩))
 split at h1
 ·rename_i hk
  subst hk
  simp only [Bool.and_eq_true, decide_eq_true_eq] at h1
  obtain ⟨e, rfl, rfl, rfl, rfl⟩ := h1
  match ks, e with
  | [x], _ =>
   rw [Re.nodesOks, Re.nodesOks] at h2
   simp only [Bool.and_eq_true, and_true] at h2
   exact .inr (.inr (.inr ⟨x, rfl, h2⟩))
 ·cases h1
theorem Re.indOk {p : Re → Prop} (h12 : ∀ k, (k = 1 ∨ k = 2) → p (.mk k 0 0 0 0 [])) (h3 : ∀ a b c d, ¬ (a = 0 ∧ b = 0 ∧ c = 0 ∧ d = 0) → p (.mk 3 a b c d []))
  (h45 : ∀ k x y, (k = 4 ∨ k = 5) → x.nodesOk = true → y.nodesOk = true → p x → p y → p (.mk k 0 0 0 0 [x, y])) (h6 : ∀ x, x.nodesOk = true → p x → p (.mk 6 0 0 0 0 [x])) (r : Re) : r.nodesOk = true → p r := by
 refine Re.ind (p := fun r => r.nodesOk = true → p r) ?_ r
 intro k a b c d ks ih h
 rcases Re.ok_cases h with ⟨k', hk, e⟩ | ⟨a', b', c', d', hn, e⟩ | ⟨k', x, y, hk, e, hx, hy⟩ | ⟨x, e, hx⟩
 ·cases e; exact h12 k hk
 ·cases e; exact h3 a b c d hn
 ·cases e; exact h45 k x y hk hx hy (ih x (by simp) hx) (ih y (by simp) hy)
 ·cases e; exact h6 x hx (ih x (by simp) hx)
mutual
def Re.wd : Re → Prop
 | .mk _ a b c d ks => W64 [a, b, c, d] ∧ Re.wds ks
def Re.wds : List Re → Prop
 | [] => True
 | r :: l => r.wd ∧ Re.wds l
end
theorem Re.wds_mem : ∀ {l : List Re} {x : Re}, Re.wds l → x ∈ l → x.wd
 | [], _, _, h => by cases h
 | r :: l, x, h, hx => by
  rw [Re.wds] at h
  rcases List.mem_cons.1 hx with rfl | hx
  ·exact h.1
  ·exact Re.wds_mem h.2 hx
theorem Re.wds_of : ∀ {l : List Re}, (∀ x ∈ l, x.wd) → Re.wds l
 | [], _ => by rw [Re.wds]; trivial
 | r :: l, h => by rw [Re.wds]; exact ⟨h r (by simp), Re.wds_of fun x hx => h x (by simp [hx])⟩
theorem intsEq_W : ∀ (a b : List Int), a.length = b.length → intsEq (a.map wD) (b.map wD) = some (decide (a = b))
 | [], [], _ => rfl
 | [], _ :: _, h => by cases h
 | _ :: _, [], h => by cases h
 | x :: a, y :: b, h => by
  have ih := intsEq_W a b (by simpa using h)
  show (intsEq (a.map wD) (b.map wD)).map (fun r => x == y && r) = _
  rw [ih]
  show some (x == y && decide (a = b)) = _
  congr 1
  by_cases h1 : x = y
  ·subst h1; simp
  ·rw [beq_false h1]; simp [h1]
end Go.Proofs.YtlejbkfefpfolaaGreatDoor.AWP
namespace Go.Proofs.YtlejbkfefpfolaaGreatDoor.AWP
open Go
theorem sortR_eq {l m : List Re} (h : Sorted m) (p : m.Perm l) : sortR l = m := sorted_unique (sortR_sorted l) h ((sortR_perm l).trans p.symm)
theorem sortR_self {l : List Re} (h : Sorted l) : sortR l = l := sortR_eq h (List.Perm.refl _)
theorem sorted_app {A B : List Re} : Sorted (A ++ B) ↔ Sorted A ∧ Sorted B ∧ ∀ x ∈ A, ∀ y ∈ B, x.le y := List.pairwise_append
theorem sorted_last {A : List Re} (h : Sorted A) {x z : Re} (hx : x ∈ A) (hz : A[A.length - 1]? = some z) : x.le z := by
 obtain ⟨i, hi⟩ := List.getElem?_of_mem hx
 obtain ⟨hl, e⟩ := List.getElem?_eq_some_iff.1 hi
 obtain ⟨hl', e'⟩ := List.getElem?_eq_some_iff.1 hz
 by_cases h1 : i = A.length - 1
 ·subst h1
  rw [hi] at hz
  cases hz
  exact Re.le_refl _
 ·rw [← e, ← e']
  exact List.pairwise_iff_getElem.1 h i (A.length - 1) hl hl' (by omega)
theorem sorted_head {A : List Re} (h : Sorted A) {x z : Re} (hx : x ∈ A) (hz : A[0]? = some z) : z.le x := by
 cases A with
 | nil => cases hx
 | cons y A =>
  cases hz
  rcases List.mem_cons.1 hx with rfl | hx
  ·exact Re.le_refl _
  ·exact (List.pairwise_cons.1 h).1 x hx
theorem sort_cut {A1 A2 B1 B2 : List Re} (h : ∀ x ∈ A1 ++ B1, ∀ y ∈ A2 ++ B2, x.le y) : sortR (A1 ++ B1) ++ sortR (A2 ++ B2) = sortR ((A1 ++ A2) ++ (B1 ++ B2)) := by
 refine (sortR_eq (sorted_app.2 ⟨sortR_sorted _, sortR_sorted _, fun x hx y hy => h x ((sortR_perm _).mem_iff.1 hx) y ((sortR_perm _).mem_iff.1 hy)⟩) ?_).symm
 refine ((sortR_perm _).append (sortR_perm _)).trans ?_
 simp only [List.append_assoc]
 exact (List.perm_append_comm_assoc B1 A2 B2).append_left A1
theorem cut_le {A1 A2 B1 B2 : List Re} (hA : Sorted (A1 ++ A2)) (hB : Sorted (B1 ++ B2)) (h1 : ∀ x y, A1[A1.length - 1]? = some x → B2[0]? = some y → x.le y) (h2 : ∀ x y, B1[B1.length - 1]? = some x → A2[0]? = some y → x.le y) :
  ∀ x ∈ A1 ++ B1, ∀ y ∈ A2 ++ B2, x.le y := by
 obtain ⟨a1, a2, a3⟩ := sorted_app.1 hA
 obtain ⟨b1, b2, b3⟩ := sorted_app.1 hB
 have key : ∀ {U V : List Re}, Sorted U → Sorted V → (∀ x y, U[U.length - 1]? = some x → V[0]? = some y → x.le y) → ∀ x ∈ U, ∀ y ∈ V, x.le y := by
  intro U V hU hV h x hx y hy
  have lu : 0 < U.length := List.length_pos_of_mem hx
  have lv : 0 < V.length := List.length_pos_of_mem hy
  have e1 := List.getElem?_eq_getElem (l := U) (i := U.length - 1) (by omega)
  have e2 := List.getElem?_eq_getElem (l := V) (i := 0) lv
  exact Re.le_trans (sorted_last hU hx e1) (Re.le_trans (h _ _ e1 e2) (sorted_head hV hy e2))
 intro x hx y hy
 rcases List.mem_append.1 hx with hx | hx <;> rcases List.mem_append.1 hy with hy | hy
 ·exact a3 x hx y hy
 ·exact key a1 b2 h1 x hx y hy
 ·exact key b1 a2 h2 x hx y hy
 ·exact b3 x hx y hy
theorem sort_one {x : Re} {B1 B2 : List Re} (hB : Sorted (B1 ++ B2)) (h1 : ∀ y, B1[B1.length - 1]? = some y → y.le x) (h2 : ∀ y, B2[0]? = some y → x.le y) : Sorted (B1 ++ x :: B2) := by
 obtain ⟨b1, b2, b3⟩ := sorted_app.1 hB
 refine sorted_app.2 ⟨b1, List.pairwise_cons.2 ⟨fun y hy => ?_, b2⟩, fun y hy z hz => ?_⟩
 ·have e := List.getElem?_eq_getElem (l := B2) (i := 0) (List.length_pos_of_mem hy)
  exact Re.le_trans (h2 _ e) (sorted_head b2 hy e)
 ·rcases List.mem_cons.1 hz with rfl | hz
  ·have hl := List.length_pos_of_mem hy
   have e := List.getElem?_eq_getElem (l := B1) (i := B1.length - 1) (by omega)
   exact Re.le_trans (sorted_last b1 hy e) (h1 _ e)
  ·exact b3 y hy z hz
theorem sort_front {x : Re} {B1 B2 : List Re} (hB : Sorted (B1 ++ B2)) (h1 : ∀ y, B1[B1.length - 1]? = some y → y.le x) (h2 : ∀ y, B2[0]? = some y → x.le y) : sortR ([x] ++ (B1 ++ B2)) = B1 ++ x :: B2 :=
 sortR_eq (sort_one hB h1 h2) List.perm_middle
theorem sort_back {x : Re} {B1 B2 : List Re} (hB : Sorted (B1 ++ B2)) (h1 : ∀ y, B1[B1.length - 1]? = some y → y.le x) (h2 : ∀ y, B2[0]? = some y → x.le y) : sortR ((B1 ++ B2) ++ [x]) = B1 ++ x :: B2 :=
 sortR_eq (sort_one hB h1 h2) (by rw [List.append_assoc]; exact List.Perm.append_left _ (List.perm_append_singleton x B2).symm)
end Go.Proofs.YtlejbkfefpfolaaGreatDoor.AWP
set_option maxRecDepth 100000
namespace Go.Proofs.YtlejbkfefpfolaaGreatDoor.AWP
open Go
def Re.kd : Re → Int
 | .mk k _ _ _ _ _ => k
def Re.set : Re → List Int
 | .mk _ a b c d _ => [a, b, c, d]
abbrev empR : Re := .mk 1 0 0 0 0 []
abbrev epsR : Re := .mk 2 0 0 0 0 []
def Re.sq : Re → Re → Re
 | .mk k a b c d [x, y], r =>
  if k = 1 ∨ r.kd = 1 then empR else if k = 2 then r else if r.kd = 2 then .mk k a b c d [x, y] else if k = 4 then x.sq (y.sq r) else .mk 4 0 0 0 0 [.mk k a b c d [x, y], r]
 | .mk k a b c d ks, r => if k = 1 ∨ r.kd = 1 then empR else if k = 2 then r else if r.kd = 2 then .mk k a b c d ks else .mk 4 0 0 0 0 [.mk k a b c d ks, r]
def Re.fl : Re → List Re
 | .mk k a b c d [x, y] => if k = 1 then [] else if k = 5 then x.fl ++ y.fl else [.mk k a b c d [x, y]]
 | .mk k a b c d ks => if k = 1 then [] else [.mk k a b c d ks]
def clsStep (s : List Int) (r : Re) : List Int := if r.kd = 3 then joinAll [s, r.set] else s
def clsS (l : List Re) : List Int := l.foldl clsStep noneS
def nocls (l : List Re) : List Re := l.filter fun r => decide (r.kd ≠ 3)
def gather (l : List Re) : List Re := if clsS l = noneS then nocls l else nocls l ++ [reS (clsS l)]
def altR (l : List Re) : Re := foldL 5 1 (onceR (sortR (gather (l.flatMap Re.fl))))
def starR (r : Re) : Re := if r.kd = 1 ∨ r.kd = 2 then epsR else if r.kd = 6 then r else .mk 6 0 0 0 0 [r]
def Re.nrm : Re → Re
 | .mk k a b c d [x, y] => if k = 4 then x.nrm.sq y.nrm else if k = 5 then altR [x.nrm, y.nrm] else .mk k a b c d [x, y]
 | .mk k a b c d [x] => if k = 6 then starR x.nrm else .mk k a b c d [x]
 | r => r
theorem nodesOk_bare {k : Int} (h : k = 1 ∨ k = 2) : (Re.mk k 0 0 0 0 []).nodesOk = true := by
 rw [Re.nodesOk, Re.nodesOks]; rcases h with rfl | rfl <;> rfl
theorem nodesOk_two {k : Int} {x y : Re} (hk : k = 4 ∨ k = 5) (hx : x.nodesOk = true) (hy : y.nodesOk = true) : (Re.mk k 0 0 0 0 [x, y]).nodesOk = true := by
 rw [Re.nodesOk, Re.nodesOks, Re.nodesOks, Re.nodesOks, hx, hy]; rcases hk with rfl | rfl <;> rfl
theorem nodesOk_star {x : Re} (hx : x.nodesOk = true) : (Re.mk 6 0 0 0 0 [x]).nodesOk = true := by
 rw [Re.nodesOk, Re.nodesOks, Re.nodesOks, hx]; rfl
theorem nodesOk_cls {a b c d : Int} (h : ¬ (a = 0 ∧ b = 0 ∧ c = 0 ∧ d = 0)) : (Re.mk 3 a b c d []).nodesOk = true := by
 rw [Re.nodesOk, Re.nodesOks]; simp [Re.nodeOk, h]
theorem sq_two (k : Int) (x y r : Re) (hk : k = 4 ∨ k = 5) : Re.sq (.mk k 0 0 0 0 [x, y]) r = if r.kd = 1 then empR else if r.kd = 2 then .mk k 0 0 0 0 [x, y] else if k = 4 then x.sq (y.sq r) else .mk 4 0 0 0 0 [.mk k 0 0 0 0 [x, y], r] := by
 rw [Re.sq]
 rcases hk with rfl | rfl <;> simp
theorem sq_ok (a : Re) : a.nodesOk = true → ∀ r : Re, r.nodesOk = true → (a.sq r).nodesOk = true := by
 refine Re.indOk (p := fun a => ∀ r : Re, r.nodesOk = true → (a.sq r).nodesOk = true) ?_ ?_ ?_ ?_ a
 ·intro k hk r hr
  rw [Re.sq]
  ·split
   ·exact nodesOk_bare (.inl rfl)
   split
   ·exact hr
   ·rename_i h1 h2; rcases hk with rfl | rfl <;> simp at h1 h2
  ·intro x y h; cases h
 ·intro a b c d hn r hr
  rw [Re.sq]
  ·split
   ·exact nodesOk_bare (.inl rfl)
   split
   ·exact hr
   split
   ·exact nodesOk_cls hn
   ·exact nodesOk_two (.inl rfl) (nodesOk_cls hn) hr
  ·intro x y h; cases h
 ·intro k x y hk hx hy ihx ihy r hr
  rw [sq_two k x y r hk]
  split
  ·exact nodesOk_bare (.inl rfl)
  split
  ·exact nodesOk_two hk hx hy
  split
  ·exact ihx _ (ihy _ hr)
  ·exact nodesOk_two (.inl rfl) (nodesOk_two hk hx hy) hr
 ·intro x hx ih r hr
  rw [Re.sq]
  ·split
   ·exact nodesOk_bare (.inl rfl)
   split
   ·exact hr
   split
   ·exact nodesOk_star hx
   ·exact nodesOk_two (.inl rfl) (nodesOk_star hx) hr
  ·intro x y h; cases h
theorem fl_two (k : Int) (x y : Re) (hk : k = 4 ∨ k = 5) : Re.fl (.mk k 0 0 0 0 [x, y]) = if k = 5 then x.fl ++ y.fl else [.mk k 0 0 0 0 [x, y]] := by
 rw [Re.fl]
 rcases hk with rfl | rfl <;> simp
theorem fl_one (k a b c d : Int) (ks : List Re) (h : ks.length ≠ 2) : Re.fl (.mk k a b c d ks) = if k = 1 then [] else [.mk k a b c d ks] := by
 rw [Re.fl]
 intro x y e
 rw [e] at h
 simp at h
theorem fl_ok (a : Re) : a.nodesOk = true → ∀ x ∈ a.fl, x.nodesOk = true := by
 refine Re.indOk (p := fun a => ∀ x ∈ a.fl, x.nodesOk = true) ?_ ?_ ?_ ?_ a
 ·intro k hk x hx
  rw [fl_one _ _ _ _ _ _ (by simp)] at hx
  split at hx
  ·cases hx
  ·rw [List.mem_singleton.1 hx]; exact nodesOk_bare hk
 ·intro a b c d hn x hx
  rw [fl_one _ _ _ _ _ _ (by simp), if_neg (by omega)] at hx
  rw [List.mem_singleton.1 hx]; exact nodesOk_cls hn
 ·intro k y z hk hy hz ihy ihz x hx
  rw [fl_two k y z hk] at hx
  split at hx
  ·rcases List.mem_append.1 hx with h | h
   ·exact ihy x h
   ·exact ihz x h
  ·rw [List.mem_singleton.1 hx]; exact nodesOk_two hk hy hz
 ·intro y hy ih x hx
  rw [fl_one _ _ _ _ _ _ (by simp), if_neg (by omega)] at hx
  rw [List.mem_singleton.1 hx]; exact nodesOk_star hy
theorem clsS_snoc (l : List Re) (x : Re) : clsS (l ++ [x]) = clsStep (clsS l) x := by simp [clsS, List.foldl_append]
theorem Re.wd_set {r : Re} (h : r.wd) : W64 r.set := by obtain ⟨k, a, b, c, d, ks⟩ := r; rw [Re.wd] at h; exact h.1
theorem clsS_w (l : List Re) (h : ∀ x ∈ l, x.wd) : W64 (clsS l) := by
 induction l using snocInd with
 | h0 => exact W64.none
 | h1 l x ih =>
  rw [clsS_snoc]
  unfold clsStep
  split
  ·exact (ih fun y hy => h y (by simp [hy])).joinAll2 (Re.wd_set (h x (by simp)))
  ·exact ih fun y hy => h y (by simp [hy])
theorem wd_zero (k : Int) {ks : List Re} (h : ∀ x ∈ ks, x.wd) : (Re.mk k 0 0 0 0 ks).wd := by rw [Re.wd]; exact ⟨W64.none, Re.wds_of h⟩
theorem reS_wd {ws : List Int} (h : W64 ws) : (reS ws).wd := by
 obtain ⟨a, b, c, d, rfl⟩ := four h.len
 unfold reS
 split
 ·exact wd_zero 1 (by simp)
 ·show (Re.mk 3 _ _ _ _ []).wd
  rw [Re.wd, Re.wds]
  exact ⟨by simpa using h, trivial⟩
theorem reS_ok {ws : List Int} (h : ws.length = 4) : (reS ws).nodesOk = true := by
 obtain ⟨a, b, c, d, rfl⟩ := four h
 unfold reS
 split
 ·exact nodesOk_bare (.inl rfl)
 ·rename_i hn
  refine nodesOk_cls fun hh => hn ?_
  obtain ⟨rfl, rfl, rfl, rfl⟩ := hh
  rfl
theorem once_sort_mem {l : List Re} {x : Re} (h : x ∈ onceR (sortR l)) : x ∈ l := (sortR_perm l).mem_iff.1 (onceR_mem.1 h)
theorem gather_mem {l : List Re} {x : Re} (h : x ∈ gather l) : x ∈ l ∨ x = reS (clsS l) := by
 unfold gather at h
 split at h
 ·exact .inl (List.mem_filter.1 h).1
 ·rcases List.mem_append.1 h with h | h
  ·exact .inl (List.mem_filter.1 h).1
  ·exact .inr (List.mem_singleton.1 h)
theorem flatMap_fl {l : List Re} {x : Re} (h : x ∈ l.flatMap Re.fl) : ∃ y ∈ l, x ∈ y.fl := List.mem_flatMap.1 h
theorem clsS_len (l : List Re) : (clsS l).length = 4 := by
 induction l using snocInd with
 | h0 => rfl
 | h1 l x ih =>
  rw [clsS_snoc]
  unfold clsStep
  split
  ·obtain ⟨k, a, b, c, d, ks⟩ := x
   exact joinAll_len (by simp [ih, Re.set])
  ·exact ih
theorem altR_all {p : Re → Prop} (l : List Re) (h2 : ∀ k x y, k = 5 → p x → p y → p (.mk k 0 0 0 0 [x, y])) (h1 : p empR) (hl : ∀ x ∈ l, ∀ y ∈ x.fl, p y) (hs : p (reS (clsS (l.flatMap Re.fl)))) : p (altR l) := by
 have key : ∀ m : List Re, (∀ x ∈ m, p x) → p (foldL 5 1 m) := by
  intro m hm
  rcases List.eq_nil_or_concat m with rfl | ⟨m, x, rfl⟩
  ·exact h1
  ·rw [List.concat_eq_append] at hm ⊢
   have e : foldL 5 1 (m ++ [x]) = foldR 5 m x := by simp [foldL]
   rw [e]
   have hx := hm x (by simp)
   have hm' : ∀ y ∈ m, p y := fun y hy => hm y (by simp [hy])
   clear hm e
   induction m with
   | nil => exact hx
   | cons y m ih => exact h2 5 y _ rfl (hm' y (by simp)) (ih fun z hz => hm' z (by simp [hz]))
 refine key _ fun x hx => ?_
 rcases gather_mem (once_sort_mem hx) with h | h
 ·obtain ⟨y, hy, h⟩ := flatMap_fl h
  exact hl y hy x h
 ·rw [h]; exact hs
theorem altR_ok (l : List Re) (h : ∀ x ∈ l, x.nodesOk = true) : (altR l).nodesOk = true :=
 altR_all (p := fun r => r.nodesOk = true) l (fun k x y hk hx hy => nodesOk_two (.inr hk) hx hy) (nodesOk_bare (.inl rfl)) (fun x hx y hy => fl_ok x (h x hx) y hy) (reS_ok (clsS_len _))
theorem starR_ok {r : Re} (h : r.nodesOk = true) : (starR r).nodesOk = true := by
 unfold starR
 split
 ·exact nodesOk_bare (.inr rfl)
 split
 ·exact h
 ·exact nodesOk_star h
theorem nrm_two (k : Int) (x y : Re) (hk : k = 4 ∨ k = 5) : Re.nrm (.mk k 0 0 0 0 [x, y]) = if k = 4 then x.nrm.sq y.nrm else altR [x.nrm, y.nrm] := by
 rw [Re.nrm]; rcases hk with rfl | rfl <;> simp
theorem nrm_star (x : Re) : Re.nrm (.mk 6 0 0 0 0 [x]) = starR x.nrm := by rw [Re.nrm]; simp
theorem nrm_leaf (k a b c d : Int) : Re.nrm (.mk k a b c d []) = .mk k a b c d [] := by rw [Re.nrm] <;> simp
theorem nrm_ok (r : Re) : r.nodesOk = true → r.nrm.nodesOk = true := by
 refine Re.indOk (p := fun r => r.nrm.nodesOk = true) ?_ ?_ ?_ ?_ r
 ·intro k hk; rw [nrm_leaf]; exact nodesOk_bare hk
 ·intro a b c d hn; rw [nrm_leaf]; exact nodesOk_cls hn
 ·intro k x y hk hx hy ihx ihy
  rw [nrm_two k x y hk]
  split
  ·exact sq_ok _ ihx _ ihy
  ·exact altR_ok _ (by simp [ihx, ihy])
 ·intro x hx ih; rw [nrm_star]; exact starR_ok ih
theorem sz_leaf (k a b c d : Int) : (Re.mk k a b c d []).sz = 1 := by rw [Re.sz, Re.szs]
theorem sz_two (k a b c d : Int) (x y : Re) : (Re.mk k a b c d [x, y]).sz = 1 + x.sz + y.sz := by rw [Re.sz, Re.szs, Re.szs, Re.szs]; omega
theorem sz_one (k a b c d : Int) (x : Re) : (Re.mk k a b c d [x]).sz = 1 + x.sz := by rw [Re.sz, Re.szs, Re.szs]; omega
theorem sq_sz (a : Re) : a.nodesOk = true → ∀ r : Re, (a.sq r).sz ≤ a.sz + r.sz + 1 := by
 refine Re.indOk (p := fun a => ∀ r : Re, (a.sq r).sz ≤ a.sz + r.sz + 1) ?_ ?_ ?_ ?_ a
 ·intro k hk r
  rw [Re.sq]
  ·split
   ·rw [sz_leaf, sz_leaf]; omega
   split
   ·omega
   ·rename_i h1 h2; rcases hk with rfl | rfl <;> simp at h1 h2
  ·intro x y h; cases h
 ·intro a b c d hn r
  rw [Re.sq]
  ·split
   ·rw [sz_leaf, sz_leaf]; omega
   split
   ·omega
   split
   ·omega
   ·rw [sz_two]; omega
  ·intro x y h; cases h
 ·intro k x y hk hx hy ihx ihy r
  rw [sq_two k x y r hk]
  split
  ·rw [sz_leaf, sz_two]; omega
  split
  ·omega
  split
  ·have h1 := ihx (y.sq r)
   have h2 := ihy r
   rw [sz_two]; omega
  ·rw [sz_two _ _ _ _ _ (.mk k 0 0 0 0 [x, y])]; omega
 ·intro x hx ih r
  rw [Re.sq]
  ·split
   ·rw [sz_leaf, sz_one]; omega
   split
   ·omega
   split
   ·omega
   ·rw [sz_two]; omega
  ·intro x y h; cases h
theorem fl_sz (a : Re) : a.nodesOk = true → Re.szs a.fl + a.fl.length ≤ a.sz + 1 := by
 refine Re.indOk (p := fun a => Re.szs a.fl + a.fl.length ≤ a.sz + 1) ?_ ?_ ?_ ?_ a
 ·intro k hk
  rw [fl_one _ _ _ _ _ _ (by simp), sz_leaf]
  split
  ·simp [Re.szs]
  ·simp [Re.szs, sz_leaf]
 ·intro a b c d hn
  rw [fl_one _ _ _ _ _ _ (by simp), sz_leaf]
  split
  ·simp [Re.szs]
  ·simp [Re.szs, sz_leaf]
 ·intro k x y hk hx hy ihx ihy
  rw [fl_two k x y hk]
  split
  ·rw [Re.szs_app, List.length_append, sz_two]; omega
  ·simp [Re.szs]
 ·intro x hx ih
  rw [fl_one _ _ _ _ _ _ (by simp)]
  split
  ·simp [Re.szs]
  ·simp [Re.szs]
theorem flat_sz (l : List Re) (h : ∀ x ∈ l, x.nodesOk = true) : Re.szs (l.flatMap Re.fl) + (l.flatMap Re.fl).length ≤ Re.szs l + l.length := by
 induction l with
 | nil => simp [Re.szs]
 | cons x l ih =>
  have h1 := fl_sz x (h x (by simp))
  have h2 := ih fun y hy => h y (by simp [hy])
  rw [List.flatMap_cons, Re.szs_app, List.length_append, Re.szs, List.length_cons]
  omega
theorem szs_perm {l m : List Re} (h : l.Perm m) : Re.szs l = Re.szs m := by
 induction h with
 | nil => rfl
 | cons x _ ih => rw [Re.szs, Re.szs, ih]
 | swap x y l => rw [Re.szs, Re.szs, Re.szs, Re.szs]; omega
 | trans _ _ ih1 ih2 => rw [ih1, ih2]
theorem onceR_szs (l : List Re) : Re.szs (onceR l) ≤ Re.szs l := by
 induction l using snocInd with
 | h0 => exact Nat.le_refl _
 | h1 l x ih =>
  rw [onceR_snoc, Re.szs_app]
  unfold onceStep
  split
  ·omega
  ·rw [Re.szs_app]; omega
theorem clsS_none {l : List Re} (h : ∀ x ∈ l, x.kd ≠ 3) : clsS l = noneS := by
 induction l using snocInd with
 | h0 => rfl
 | h1 l x ih =>
  rw [clsS_snoc]
  unfold clsStep
  rw [if_neg (h x (by simp)), ih fun y hy => h y (by simp [hy])]
theorem gather_sz (l : List Re) : Re.szs (gather l) + (gather l).length ≤ Re.szs l + l.length := by
 have key : ∀ l : List Re, Re.szs (nocls l) + (nocls l).length + 2 * (l.length - (nocls l).length) ≤ Re.szs l + l.length ∧ (nocls l).length ≤ l.length := by
  intro l
  induction l with
  | nil => simp [nocls, Re.szs]
  | cons x l ih =>
   have hp := x.sz_pos
   obtain ⟨i1, i2⟩ := ih
   unfold nocls at *
   rw [List.filter_cons]
   split
   ·simp only [Re.szs, List.length_cons]; omega
   ·simp only [Re.szs, List.length_cons]; omega
 obtain ⟨k1, k2⟩ := key l
 unfold gather
 split
 ·omega
 ·rename_i hn
  have hlt : (nocls l).length < l.length := by
   rcases Nat.lt_or_ge (nocls l).length l.length with h | h
   ·exact h
   ·exfalso
    refine hn (clsS_none fun x hx h3 => ?_)
    have := List.length_filter_eq_length_iff.1 (Nat.le_antisymm k2 h) x hx
    simp [h3] at this
  rw [Re.szs_app, List.length_append]
  have := reS_sz (clsS l)
  simp only [Re.szs, List.length_singleton]
  omega
theorem altR_sz (l : List Re) (h : ∀ x ∈ l, x.nodesOk = true) (h0 : l ≠ []) : (altR l).sz + 1 ≤ Re.szs l + l.length := by
 have h1 := flat_sz l h
 have h2 := gather_sz (l.flatMap Re.fl)
 have h3 := onceR_szs (sortR (gather (l.flatMap Re.fl)))
 have h4 := onceR_len (sortR (gather (l.flatMap Re.fl)))
 rw [szs_perm (sortR_perm _)] at h3
 rw [sortR_len] at h4
 unfold altR
 by_cases hn : onceR (sortR (gather (l.flatMap Re.fl))) = []
 ·rw [hn]
  have : (foldL 5 1 []).sz = 1 := sz_leaf ..
  rw [this]
  have := List.length_pos_iff.2 h0
  have := Re.len_szs l
  omega
 ·have := foldL_sz 5 1 _ hn
  omega
theorem starR_sz (r : Re) : (starR r).sz ≤ r.sz + 1 := by
 unfold starR
 split
 ·rw [sz_leaf]; omega
 split
 ·omega
 ·rw [sz_one]; omega
theorem nrm_sz (r : Re) : r.nodesOk = true → r.nrm.sz ≤ r.sz := by
 refine Re.indOk (p := fun r => r.nrm.sz ≤ r.sz) ?_ ?_ ?_ ?_ r
 ·intro k hk; rw [nrm_leaf]; exact Nat.le_refl _
 ·intro a b c d hn; rw [nrm_leaf]; exact Nat.le_refl _
 ·intro k x y hk hx hy ihx ihy
  rw [nrm_two k x y hk, sz_two]
  split
  ·have := sq_sz x.nrm (nrm_ok x hx) y.nrm
   omega
  ·have := altR_sz [x.nrm, y.nrm] (by simp [nrm_ok x hx, nrm_ok y hy]) (by simp)
   simp only [Re.szs, List.length_cons, List.length_nil] at this
   omega
 ·intro x hx ih
  rw [nrm_star, sz_one]
  have := starR_sz x.nrm
  omega
theorem wd_kids {k a b c d : Int} {ks : List Re} (h : (Re.mk k a b c d ks).wd) : W64 [a, b, c, d] ∧ ∀ x ∈ ks, x.wd := by
 rw [Re.wd] at h
 exact ⟨h.1, fun x hx => Re.wds_mem h.2 hx⟩
theorem sq_one (k a b c d : Int) (ks : List Re) (r : Re) (h : ks.length ≠ 2) : Re.sq (.mk k a b c d ks) r = if k = 1 ∨ r.kd = 1 then empR else if k = 2 then r else if r.kd = 2 then .mk k a b c d ks else .mk 4 0 0 0 0 [.mk k a b c d ks, r] := by
 rw [Re.sq]
 intro x y e
 rw [e] at h
 simp at h
theorem sq_wd (a : Re) : a.wd → ∀ r : Re, r.wd → (a.sq r).wd := by
 refine Re.ind (p := fun a => a.wd → ∀ r : Re, r.wd → (a.sq r).wd) ?_ a
 intro k p q s t ks ih ha r hr
 obtain ⟨h1, h2⟩ := wd_kids ha
 by_cases hl : ks.length = 2
 ·match ks, hl with
  | [x, y], _ =>
   rw [Re.sq]
   split
   ·exact wd_zero 1 (by simp)
   split
   ·exact hr
   split
   ·exact ha
   split
   ·exact ih x (by simp) (h2 x (by simp)) _ (ih y (by simp) (h2 y (by simp)) _ hr)
   ·exact wd_zero 4 (by simp [ha, hr])
 ·rw [sq_one _ _ _ _ _ _ _ hl]
  split
  ·exact wd_zero 1 (by simp)
  split
  ·exact hr
  split
  ·exact ha
  ·exact wd_zero 4 (by simp [ha, hr])
theorem fl_wd (a : Re) : a.wd → ∀ x ∈ a.fl, x.wd := by
 refine Re.ind (p := fun a => a.wd → ∀ x ∈ a.fl, x.wd) ?_ a
 intro k p q s t ks ih ha x hx
 obtain ⟨h1, h2⟩ := wd_kids ha
 by_cases hl : ks.length = 2
 ·match ks, hl with
  | [y, z], _ =>
   rw [Re.fl] at hx
   split at hx
   ·cases hx
   split at hx
   ·rcases List.mem_append.1 hx with h | h
    ·exact ih y (by simp) (h2 y (by simp)) x h
    ·exact ih z (by simp) (h2 z (by simp)) x h
   ·rw [List.mem_singleton.1 hx]; exact ha
 ·rw [fl_one _ _ _ _ _ _ hl] at hx
  split at hx
  ·cases hx
  ·rw [List.mem_singleton.1 hx]; exact ha
theorem altR_wd (l : List Re) (h : ∀ x ∈ l, x.wd) : (altR l).wd :=
 altR_all (p := Re.wd) l (fun k x y hk hx hy => wd_zero k (by simp [hx, hy])) (wd_zero 1 (by simp)) (fun x hx y hy => fl_wd x (h x hx) y hy) (reS_wd (clsS_w _ fun x hx => by
  obtain ⟨y, hy, h'⟩ := flatMap_fl hx
  exact fl_wd y (h y hy) x h'))
theorem starR_wd {r : Re} (h : r.wd) : (starR r).wd := by
 unfold starR
 split
 ·exact wd_zero 2 (by simp)
 split
 ·exact h
 ·exact wd_zero 6 (by simp [h])
theorem nrm_wd (r : Re) : r.nodesOk = true → r.wd → r.nrm.wd := by
 refine Re.indOk (p := fun r => r.wd → r.nrm.wd) ?_ ?_ ?_ ?_ r
 ·intro k hk h; rw [nrm_leaf]; exact h
 ·intro a b c d hn h; rw [nrm_leaf]; exact h
 ·intro k x y hk hx hy ihx ihy h
  obtain ⟨_, h2⟩ := wd_kids h
  rw [nrm_two k x y hk]
  split
  ·exact sq_wd _ (ihx (h2 x (by simp))) _ (ihy (h2 y (by simp)))
  ·exact altR_wd _ (by simp [ihx (h2 x (by simp)), ihy (h2 y (by simp))])
 ·intro x hx ih h
  obtain ⟨_, h2⟩ := wd_kids h
  rw [nrm_star]
  exact starR_wd (ih (h2 x (by simp)))
end Go.Proofs.YtlejbkfefpfolaaGreatDoor.AWP
set_option maxRecDepth 100000
namespace Go.Proofs.YtlejbkfefpfolaaGreatDoor.AWP
open Go
def clsR (x : Re) : Prop := ∃ a b c d : Int, x = .mk 3 a b c d [] ∧ ¬ (a = 0 ∧ b = 0 ∧ c = 0 ∧ d = 0)
theorem clsR.ok {x : Re} (h : clsR x) : x.nodesOk = true := by obtain ⟨a, b, c, d, rfl, h⟩ := h; exact nodesOk_cls h
end Go.Proofs.YtlejbkfefpfolaaGreatDoor.AWP
set_option maxRecDepth 100000
namespace Go.Proofs.YtlejbkfefpfolaaGreatDoor.AWP
open Go
def clsN (l : List Re) : Nat := (l.filter fun r => decide (r.kd = 3)).length
def SF (f : List Re) : Prop := Sorted f ∧ f.Nodup ∧ clsN f ≤ 1
def Re.N : Re → Prop
 | .mk k _ _ _ _ [x, y] => x.N ∧ y.N ∧ (if k = 4 then x.kd ≠ 1 ∧ x.kd ≠ 2 ∧ x.kd ≠ 4 ∧ y.kd ≠ 1 ∧ y.kd ≠ 2 else x.kd ≠ 1 ∧ x.kd ≠ 5 ∧ y.kd ≠ 1 ∧ SF (x :: y.fl))
 | .mk _ _ _ _ _ [x] => x.N ∧ x.kd ≠ 1 ∧ x.kd ≠ 2 ∧ x.kd ≠ 6
 | _ => True
theorem SF.tail {x : Re} {f : List Re} (h : SF (x :: f)) : SF f := by
 obtain ⟨h1, h2, h3⟩ := h
 refine ⟨(List.pairwise_cons.1 h1).2, (List.nodup_cons.1 h2).2, ?_⟩
 unfold clsN at *
 rw [List.filter_cons] at h3
 split at h3
 ·rw [List.length_cons] at h3; omega
 ·exact h3
end Go.Proofs.YtlejbkfefpfolaaGreatDoor.AWP
set_option maxRecDepth 100000
namespace Go.Proofs.YtlejbkfefpfolaaGreatDoor.AWP
open Go
def Re.hf (n : Nat) (r : Re) : Bool := hasB r.fst n
theorem wd2 {k a b c d : Int} {x y : Re} (hw : (Re.mk k a b c d [x, y]).wd) : x.wd ∧ y.wd := by rw [Re.wd, Re.wds, Re.wds] at hw; exact ⟨hw.2.1, hw.2.2.1⟩
theorem wd1 {k a b c d : Int} {x : Re} (hw : (Re.mk k a b c d [x]).wd) : x.wd := by rw [Re.wd, Re.wds] at hw; exact hw.2.1
structure Same3 (a : Re) (n f h : Bool) (k : Nat) : Prop where
 n : a.nul = n
 f : a.fit = f
 h : a.hf k = h
def okw (x : Re) : Prop := x.nodesOk = true ∧ x.wd
end Go.Proofs.YtlejbkfefpfolaaGreatDoor.AWP
set_option maxRecDepth 100000
namespace Go.Proofs.YtlejbkfefpfolaaGreatDoor.AWP
open Go
theorem andOne (m : Nat) (hm : m < 2 ^ 64) : bits .and .u64 (m : Int) 1 = ((m % 2 : Nat) : Int) := by
 show IntKind.wrap .u64 ((BitVec.ofInt 64 (m : Int) &&& BitVec.ofInt 64 1).toNat : Int) = _
 have e1 : (BitVec.ofInt 64 (m : Int)).toNat = m := by simp [BitVec.toNat_ofInt]; omega
 have e2 : (BitVec.ofInt 64 1).toNat = 1 := by decide
 rw [BitVec.toNat_and, e1, e2, Nat.and_one_is_mod, u64_wrap _ (by omega)]
theorem shrN (m k : Nat) : ((m : Nat) : Int).fdiv (2 ^ k) = ((m / 2 ^ k : Nat) : Int) := by
 have e : (2 : Int) ^ k = ((2 ^ k : Nat) : Int) := by simp
 rw [e, Int.fdiv_eq_ediv_of_nonneg _ (Int.natCast_nonneg _)]
 rfl
theorem has_bit {ws : List Int} (hw : W64 ws) (b : UInt8) : (bits .and .u64 ((ws.getD (b.toNat / 64) 0).fdiv (2 ^ min (b.toNat % 64) 64)) 1 == 1) = hasB ws b.toNat := by
 obtain ⟨m, hm, hm2⟩ := hw.getD (j := b.toNat / 64) (lt4 b)
 have hmin : min (b.toNat % 64) 64 = b.toNat % 64 := by omega
 unfold hasB
 rw [hm, hmin, shrN, andOne _ (Nat.lt_of_le_of_lt (Nat.div_le_self _ _) hm2), Int.toNat_natCast, Nat.testBit_eq_decide_div_mod_eq]
 by_cases h : m / 2 ^ (b.toNat % 64) % 2 = 1
 ·rw [h]; rfl
 ·rw [beq_false (by omega), decide_eq_false h]
inductive StarR (R : Nat → Nat → Prop) : Nat → Nat → Prop where
 | refl (i : Nat) : StarR R i i
 | step {i j k : Nat} (h : StarR R i j) (h' : R j k) : StarR R i k
theorem StarR.one {R : Nat → Nat → Prop} {i j : Nat} (h : R i j) : StarR R i j := .step (.refl i) h
theorem StarR.trans {R : Nat → Nat → Prop} {i j k : Nat} (h : StarR R i j) (h' : StarR R j k) : StarR R i k := by
 induction h' with
 | refl => exact h
 | step _ h2 ih => exact .step ih h2
theorem StarR.mono {R R' : Nat → Nat → Prop} (hr : ∀ i j, R i j → R' i j) {i j : Nat} (h : StarR R i j) : StarR R' i j := by
 induction h with
 | refl => exact .refl _
 | step _ h2 ih => exact .step ih (hr _ _ h2)
def byteAt (s : ByteArray) (i : Nat) : Nat := (s.data.getD i 0).toNat
def Re.mt (s : ByteArray) : Re → Nat → Nat → Prop
 | .mk k _ _ _ _ [x, y] => fun i j => if k = 4 then ∃ m, x.mt s i m ∧ y.mt s m j else x.mt s i j ∨ y.mt s i j
 | .mk _ _ _ _ _ [x] => StarR (x.mt s)
 | .mk k a b c d _ => fun i j => (k = 2 ∧ i = j) ∨ (k = 3 ∧ i < s.size ∧ j = i + 1 ∧ hasB [a, b, c, d] (byteAt s i) = true)
abbrev On (p : List Bool) (i : Nat) : Prop := p[i]? = some true
theorem On.lt {p : List Bool} {i : Nat} (h : On p i) : i < p.length := (List.getElem?_eq_some_iff.1 h).1
open Classical in
theorem StarR.shift {R R' : Nat → Nat → Prop} {k : Nat} (h : ∀ i j, R' i j ↔ R (k + i) (k + j)) (hR : ∀ i j, R i j → i ≤ j) {i j : Nat} : StarR R' i j ↔ StarR R (k + i) (k + j) := by
  constructor
  · intro hs
    induction hs with
    | refl => exact .refl _
    | step _ h2 ih => exact .step ih ((h _ _).1 h2)
  · intro hs
    generalize ha : k + i = a at hs
    generalize hb : k + j = b at hs
    induction hs generalizing j with
    | refl => have : i = j := by omega
              rw [this]; exact .refl _
    | step hs1 h2 ih =>
      rename_i m b'
      have hle : a ≤ m := by
        clear ih h2
        induction hs1 with
        | refl => exact Nat.le_refl _
        | step _ h2 ih2 => exact Nat.le_trans (ih2) (hR _ _ h2)
      obtain ⟨m', hm'⟩ : ∃ m', m = k + m' := ⟨m - k, by omega⟩
      subst hm'
      subst hb
      exact .step (ih rfl) ((h _ _).2 h2)
theorem take_set {l : List Bool} {i n : Nat} {v : Bool} (h : l[i]? = some v) (hn : l.length = n) : (l.take i ++ List.replicate (n - i) false).set i v = l.take (i + 1) ++ List.replicate (n - (i + 1)) false := by
 have hi := (List.getElem?_eq_some_iff.1 h).1
 have l1 : (l.take i).length = i := by simp; omega
 obtain ⟨m, hm⟩ : ∃ m, n - i = m + 1 := ⟨n - i - 1, by omega⟩
 rw [hm, show n - (i + 1) = m from by omega, List.replicate_succ, List.set_append_right _ _ (by omega), l1, Nat.sub_self, List.set_cons_zero, List.take_add_one, h]
 simp
end Go.Proofs.YtlejbkfefpfolaaGreatDoor.AWP
set_option maxRecDepth 100000
namespace Go.Proofs.YtlejbkfefpfolaaGreatDoor.AWP
open Go
theorem land256 (a b m n : Nat) (ha : a < 256) (hm : m < 256) : (a + 256 * b) &&& (m + 256 * n) = (a &&& m) + 256 * (b &&& n) := by
 have h1 : a &&& m < 256 := Nat.and_lt_two_pow (n := 8) _ hm
 refine Nat.eq_of_testBit_eq fun i => ?_
 rw [Nat.testBit_and, Nat.add_comm a, Nat.add_comm m, Nat.add_comm (a &&& m), show 256 = 2 ^ 8 from rfl, Nat.testBit_two_pow_mul_add _ ha, Nat.testBit_two_pow_mul_add _ hm, Nat.testBit_two_pow_mul_add _ h1]
 split
 ·rw [Nat.testBit_and]
 ·rw [Nat.testBit_and]
def by8 (a b c d e f g h : Nat) : Nat := a + 256 * (b + 256 * (c + 256 * (d + 256 * (e + 256 * (f + 256 * (g + 256 * h))))))
theorem land8 {a b c d e f g h k : Nat} (ha : a < 256) (hb : b < 256) (hc : c < 256) (hd : d < 256) (he : e < 256) (hf : f < 256) (hg : g < 256) (hh : h < 256) (hk : k < 256) :
  by8 a b c d e f g h &&& by8 k k k k k k k k = by8 (a &&& k) (b &&& k) (c &&& k) (d &&& k) (e &&& k) (f &&& k) (g &&& k) (h &&& k) := by
 unfold by8
 rw [land256 _ _ _ _ ha hk, land256 _ _ _ _ hb hk, land256 _ _ _ _ hc hk, land256 _ _ _ _ hd hk, land256 _ _ _ _ he hk, land256 _ _ _ _ hf hk, land256 _ _ _ _ hg hk]
def s1 (b : Nat) : Nat := (b / 2 &&& 85) + (b &&& 85)
def s2 (b : Nat) : Nat := (b / 4 &&& 51) + (b &&& 51)
def s3 (b : Nat) : Nat := b / 16 + b % 16
theorem all256 {p : Nat → Prop} (h : ∀ n : _root_.Fin 256, p n.val) {b : Nat} (hb : b < 256) : p b := h ⟨b, hb⟩
theorem top2 {b t : Nat} (hb : b < 256) (ht : t < 4) : (b / 4 + 64 * t) &&& 51 = b / 4 &&& 51 := by
 have : t = 0 ∨ t = 1 ∨ t = 2 ∨ t = 3 := by omega
 rcases this with rfl | rfl | rfl | rfl
 ·rfl
 ·exact all256 (p := fun b => (b / 4 + 64 * 1) &&& 51 = b / 4 &&& 51) (by decide +kernel) hb
 ·exact all256 (p := fun b => (b / 4 + 64 * 2) &&& 51 = b / 4 &&& 51) (by decide +kernel) hb
 ·exact all256 (p := fun b => (b / 4 + 64 * 3) &&& 51 = b / 4 &&& 51) (by decide +kernel) hb
theorem c51 : (3689348814741910323 : Nat) = by8 51 51 51 51 51 51 51 51 := by decide
theorem st2 {a b c d e f g h : Nat} (ha : a < 256) (hb : b < 256) (hc : c < 256) (hd : d < 256) (he : e < 256) (hf : f < 256) (hg : g < 256) (hh : h < 256) :
  (by8 a b c d e f g h / 4 &&& 3689348814741910323) + (by8 a b c d e f g h &&& 3689348814741910323) = by8 (s2 a) (s2 b) (s2 c) (s2 d) (s2 e) (s2 f) (s2 g) (s2 h) := by
 have e1 : by8 a b c d e f g h / 4 = by8 (a / 4 + 64 * (b % 4)) (b / 4 + 64 * (c % 4)) (c / 4 + 64 * (d % 4)) (d / 4 + 64 * (e % 4)) (e / 4 + 64 * (f % 4)) (f / 4 + 64 * (g % 4)) (g / 4 + 64 * (h % 4)) (h / 4 + 64 * 0) := by
  unfold by8; omega
 rw [e1, c51, land8 (by omega) (by omega) (by omega) (by omega) (by omega) (by omega) (by omega) (by omega) (by omega), land8 ha hb hc hd he hf hg hh (by omega)]
 rw [top2 ha (by omega), top2 hb (by omega), top2 hc (by omega), top2 hd (by omega), top2 he (by omega), top2 hf (by omega), top2 hg (by omega), top2 hh (by omega)]
 unfold by8 s2
 omega
end Go.Proofs.YtlejbkfefpfolaaGreatDoor.AWP
set_option maxRecDepth 100000
namespace Go.Proofs.YtlejbkfefpfolaaGreatDoor.AWP
open Go
theorem low_bit : ∀ (w : Nat), w ≠ 0 → ∃ k q, w = 2 ^ k * (2 * q + 1) := by
 intro w
 induction w using Nat.strongRecOn with
 | _ w ih =>
  intro h
  rcases Nat.mod_two_eq_zero_or_one w with e | e
  ·obtain ⟨k, q, hk⟩ := ih (w / 2) (by omega) (by omega)
   refine ⟨k + 1, q, ?_⟩
   have : w = 2 * (w / 2) := by omega
   rw [this, hk, Nat.pow_succ]
   rw [Nat.mul_comm (2 ^ k) 2, Nat.mul_assoc]
  ·exact ⟨0, w / 2, by omega⟩
theorem bit_mul (k a j : Nat) : (2 ^ k * a).testBit j = (decide (k ≤ j) && a.testBit (j - k)) := by
 rw [Nat.testBit_two_pow_mul]
theorem clear_low (k q : Nat) : (2 ^ k * (2 * q + 1)) &&& (2 ^ k * (2 * q + 1) - 1) = 2 ^ k * (2 * q) := by
 have hp : 0 < 2 ^ k := Nat.two_pow_pos k
 have e : 2 ^ k * (2 * q + 1) - 1 = 2 ^ k * (2 * q) + (2 ^ k - 1) := by rw [Nat.mul_add]; omega
 apply Nat.eq_of_testBit_eq
 intro j
 rw [Nat.testBit_and, e, Nat.testBit_two_pow_mul_add _ (by omega), bit_mul, bit_mul]
 by_cases h : j < k
 ·simp [h, show ¬ k ≤ j by omega]
 ·rw [if_neg h]
  have hk : k ≤ j := by omega
  simp only [hk, decide_true, Bool.true_and]
  cases hj : j - k with
  | zero => simp
  | succ n => simp [Nat.testBit_succ, show (2 * q + 1) / 2 = q by omega]
theorem and_neg (k q : Nat) (h : 2 ^ k * (2 * q + 1) < 2 ^ 64) : (2 ^ k * (2 * q + 1)) &&& (2 ^ 64 - 2 ^ k * (2 * q + 1)) = 2 ^ k := by
 have hk : k < 64 := by
  rcases Nat.lt_or_ge k 64 with hk | hk
  ·exact hk
  ·have h1 : 2 ^ 64 ≤ 2 ^ k := Nat.pow_le_pow_right (by omega) hk
   have h2 : 2 ^ k ≤ 2 ^ k * (2 * q + 1) := Nat.le_mul_of_pos_right _ (by omega)
   omega
 obtain ⟨m, hm⟩ : ∃ m, 64 = k + (m + 1) := ⟨63 - k, by omega⟩
 have e64 : (2 : Nat) ^ 64 = 2 ^ (k + (m + 1)) := by rw [← hm]
 rw [e64] at h ⊢
 have hq : 2 * q + 1 < 2 ^ (m + 1) := by
  rw [Nat.pow_add] at h
  exact Nat.lt_of_mul_lt_mul_left h
 have hq2 : q < 2 ^ m := by rw [Nat.pow_succ] at hq; omega
 have e : 2 ^ (k + (m + 1)) - 2 ^ k * (2 * q + 1) = 2 ^ k * (2 * (2 ^ m - (q + 1)) + 1) := by
  rw [Nat.pow_add, ← Nat.mul_sub]
  congr 1
  rw [Nat.pow_succ]; omega
 rw [e]
 apply Nat.eq_of_testBit_eq
 intro j
 rw [Nat.testBit_and, bit_mul, bit_mul, Nat.testBit_two_pow]
 by_cases hj : k ≤ j
 ·simp only [hj, decide_true, Bool.true_and]
  cases hjk : j - k with
  | zero =>
   have : k = j := by omega
   simp [this]
  | succ n =>
   have : ¬ k = j := by omega
   rw [Nat.testBit_succ, Nat.testBit_succ, show (2 * q + 1) / 2 = q by omega, show (2 * (2 ^ m - (q + 1)) + 1) / 2 = 2 ^ m - (q + 1) by omega, Nat.testBit_two_pow_sub_succ hq2]
   simp [this]
   intro h1 h2
   exact h1
 ·have : ¬ k = j := by omega
  simp [hj, this]
def bitsL (w : Nat) : List Nat := (List.range 64).filter fun n => w.testBit n
theorem bitsL_zero : bitsL 0 = [] := by
 unfold bitsL
 rw [List.filter_eq_nil_iff]
 intro n _
 simp
theorem bitsL_step (k q : Nat) (hk : k < 64) : bitsL (2 ^ k * (2 * q + 1)) = k :: bitsL (2 ^ k * (2 * q)) := by
 unfold bitsL
 have e : List.range 64 = List.range k ++ (k :: (List.range (63 - k)).map (k + 1 + ·)) := by
  have h1 : 64 = k + (1 + (63 - k)) := by omega
  conv => lhs; rw [h1]
  rw [List.range_add, List.range_add]
  simp [Nat.add_assoc]
 rw [e, List.filter_append, List.filter_append, List.filter_cons, List.filter_cons]
 have a1 : (List.range k).filter (fun n => (2 ^ k * (2 * q + 1)).testBit n) = [] := by
  rw [List.filter_eq_nil_iff]
  intro n hn
  have : n < k := List.mem_range.1 hn
  rw [bit_mul]; simp; omega
 have a2 : (List.range k).filter (fun n => (2 ^ k * (2 * q)).testBit n) = [] := by
  rw [List.filter_eq_nil_iff]
  intro n hn
  have : n < k := List.mem_range.1 hn
  rw [bit_mul]; simp; omega
 rw [a1, a2]
 have b1 : (2 ^ k * (2 * q + 1)).testBit k = true := by rw [bit_mul]; simp
 have b2 : (2 ^ k * (2 * q)).testBit k = false := by rw [bit_mul]; simp
 rw [b1, b2]
 simp only [List.nil_append, if_true, Bool.false_eq_true, if_false, List.cons.injEq, true_and]
 refine List.filter_congr fun n hn => ?_
 obtain ⟨t, _, rfl⟩ := List.mem_map.1 hn
 rw [bit_mul, bit_mul]
 have : k + 1 + t - k = t + 1 := by omega
 rw [this, Nat.testBit_succ, Nat.testBit_succ, show (2 * q + 1) / 2 = q by omega, show 2 * q / 2 = q by omega]
end Go.Proofs.YtlejbkfefpfolaaGreatDoor.AWP
