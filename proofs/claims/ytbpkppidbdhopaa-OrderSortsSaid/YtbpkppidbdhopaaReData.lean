/- Expressions as data. -/
import Derived.Test.YtbpkppidbdhopaaAwpT
set_option linter.unusedSectionVars false
set_option linter.unusedVariables false
set_option linter.unusedSimpArgs false
/- Expressions as data. -/
namespace Go.Proofs.Ytbpkppidbdhopaa.AWP
open Go

inductive Re where
  | mk (k : Int) (a b c d : Int) (ks : List Re)
instance : Inhabited Re := ⟨.mk 0 0 0 0 0 []⟩

mutual
def Re.c : Re → List D
  | .mk k a b c d ks => [.v (.int .u8 k), .v (.int .u64 a), .v (.int .u64 b), .v (.int .u64 c), .v (.int .u64 d), .sl 6 (Re.cs ks)]
def Re.cs : List Re → List (List D)
  | [] => []
  | r :: l => r.c :: Re.cs l
end
abbrev Re.d (r : Re) : D := .agg r.c
abbrev Res (l : List Re) : D := .sl 6 (Re.cs l)

@[go_sem] theorem Re.c_mk (k a b c d : Int) (ks : List Re) : (Re.mk k a b c d ks).c = [.v (.int .u8 k), .v (.int .u64 a), .v (.int .u64 b), .v (.int .u64 c), .v (.int .u64 d), .sl 6 (Re.cs ks)] := by rw [Re.c]
@[go_sem] theorem Re.cs_eq : ∀ (l : List Re), Re.cs l = l.map Re.c
  | [] => by rw [Re.cs]; rfl
  | r :: l => by rw [Re.cs, Re.cs_eq l]; rfl
@[go_sem, simp] theorem Re.c_len (r : Re) : r.c.length = 6 := by cases r; rw [Re.c_mk]; rfl
@[go_sem, simp] theorem Re.c_take (r : Re) : r.c.take 6 = r.c := List.take_of_length_le (by simp)

mutual
theorem Re.c_bl : ∀ (r : Re), ∀ d ∈ r.c, Bl 0 d
  | .mk k a b c d ks => by
    have h := Re.cs_bl ks
    rw [Re.c_mk]
    intro x hx
    simp only [List.mem_cons, List.not_mem_nil, or_false] at hx
    rcases hx with rfl | rfl | rfl | rfl | rfl | rfl
    · simp
    · simp
    · simp
    · simp
    · simp
    · exact .sl h
theorem Re.cs_bl : ∀ (l : List Re), ∀ r ∈ Re.cs l, ∀ d ∈ r, Bl 0 d
  | [] => by rw [Re.cs]; simp
  | r :: l => by
    have h1 := Re.c_bl r
    have h2 := Re.cs_bl l
    rw [Re.cs]
    intro x hx
    rcases List.mem_cons.1 hx with rfl | hx
    · exact h1
    · exact h2 x hx
end
@[simp] theorem Re.c_blT (r : Re) : (∀ d ∈ r.c, Bl 0 d) = True := eq_true r.c_bl
@[simp] theorem Re.cs_blT (l : List Re) : (∀ r ∈ Re.cs l, ∀ d ∈ r, Bl 0 d) = True := eq_true (Re.cs_bl l)
theorem Re.map_bl (l : List Re) : ∀ r ∈ l.map Re.c, ∀ d ∈ r, Bl 0 d := by rw [← Re.cs_eq]; exact Re.cs_bl l
@[simp] theorem Re.d_bl (r : Re) : Bl 0 (.agg r.c) := .agg r.c_bl
@[simp] theorem Re.pel_bl (r : Re) : Bl 0 (.pel r.c) := .pel r.c_bl
@[simp] theorem Res_bl (l : List Re) : Bl 0 (.sl 6 (l.map Re.c)) := by rw [← Re.cs_eq]; exact .sl (Re.cs_bl l)
@[simp] theorem Res_bl' (l : List Re) : Bl 0 (.sl 6 (Re.cs l)) := .sl (Re.cs_bl l)

/-! Fewer kids than the greatest length, all through. -/
mutual
def Re.Ok : Re → Prop
  | .mk _ _ _ _ _ ks => Re.Oks ks ∧ ks.length ≤ 9223372036854775807
def Re.Oks : List Re → Prop
  | [] => True
  | r :: l => r.Ok ∧ Re.Oks l
end

theorem Re.oks_get : ∀ {l : List Re}, Re.Oks l → ∀ (i : Nat) (r : Re), l[i]? = some r → r.Ok
  | [], _, i, r, h => by simp at h
  | x :: l, h, i, r, hi => by
    rw [Re.Oks] at h
    cases i with
    | zero => simp only [List.getElem?_cons_zero, Option.some.injEq] at hi; subst hi; exact h.1
    | succ i => simp only [List.getElem?_cons_succ] at hi; exact Re.oks_get h.2 i r hi

mutual
theorem Re.ok_of : ∀ (r : Re), (∀ d ∈ r.c, Wf d) → r.Ok
  | .mk k a b c d ks, h => by
    rw [Re.c_mk] at h
    have h' := h (.sl 6 (Re.cs ks)) (by simp)
    rw [Re.Ok]
    exact ⟨Re.oks_of ks h'.sl_mem, by have := h'.sl_len; rw [Re.cs_eq, List.length_map] at this; exact this⟩
theorem Re.oks_of : ∀ (l : List Re), (∀ r ∈ Re.cs l, ∀ d ∈ r, Wf d) → Re.Oks l
  | [], h => by rw [Re.Oks]; trivial
  | r :: l, h => by
    rw [Re.cs] at h
    rw [Re.Oks]
    exact ⟨Re.ok_of r (h r.c (by simp)), Re.oks_of l fun x hx => h x (by simp [hx])⟩
end
theorem Re.ok_agg {r : Re} (h : Wf (.agg r.c)) : r.Ok := Re.ok_of r h.agg_mem
theorem Re.oks_sl {l : List Re} (h : Wf (.sl 6 (Re.cs l))) : Re.Oks l ∧ l.length ≤ 9223372036854775807 := ⟨Re.oks_of l h.sl_mem, by have := h.sl_len; rw [Re.cs_eq, List.length_map] at this; exact this⟩

/-! ### The order -/
def cmpI (x y : Int) : Int := if x < y then -1 else if y < x then 1 else 0
def orI (x y : Int) : Int := if x = 0 then y else x
def setCmp (a b c d a' b' c' d' : Int) : Int := orI (cmpI a a') (orI (cmpI b b') (orI (cmpI c c') (cmpI d d')))
def cmpsI : List Int → List Int → Int
  | [], [] => 0
  | [], _ :: _ => -1
  | _ :: _, [] => 1
  | x :: l, y :: m => orI (cmpI x y) (cmpsI l m)
mutual
def Re.cmp : Re → Re → Int
  | .mk k a b c d ks, .mk k' a' b' c' d' ks' => orI (cmpI k k') (orI (setCmp a b c d a' b' c' d') (Re.cmps ks ks'))
def Re.cmps : List Re → List Re → Int
  | [], [] => 0
  | [], _ :: _ => -1
  | _ :: _, [] => 1
  | x :: l, y :: m => orI (x.cmp y) (Re.cmps l m)
end

theorem drop_get {α : Type} {l : List α} {i : Nat} {x : α} (h : l[i]? = some x) : l.drop i = x :: l.drop (i + 1) := by
  obtain ⟨hi, rfl⟩ := List.getElem?_eq_some_iff.1 h
  exact List.drop_eq_getElem_cons hi
theorem get_ex {α : Type} {l : List α} {i : Nat} (h : i < l.length) : ∃ x, l[i]? = some x := ⟨_, List.getElem?_eq_getElem h⟩
theorem drop_end {α : Type} {l : List α} {i : Nat} (h : ¬ i < l.length) : l.drop i = [] := List.drop_of_length_le (by omega)

@[simp] theorem orI_zero (x : Int) : orI x 0 = x := by unfold orI; split <;> simp_all
@[simp] theorem zero_orI (x : Int) : orI 0 x = x := by simp [orI]
theorem orI_ne {x y : Int} (h : x ≠ 0) : orI x y = x := by simp [orI, h]

section
variable {p : Re → Prop} (h : ∀ (k a b c d : Int) (ks : List Re), (∀ x ∈ ks, p x) → p (.mk k a b c d ks))
include h
mutual
theorem Re.ind : ∀ r : Re, p r
  | .mk k a b c d ks => h k a b c d ks (Re.inds ks)
theorem Re.inds : ∀ (l : List Re), ∀ x ∈ l, p x
  | [], _, hx => absurd hx (by simp)
  | r :: l, x, hx => (List.mem_cons.1 hx).elim (fun e => e ▸ Re.ind r) (Re.inds l x)
end
end
end Go.Proofs.Ytbpkppidbdhopaa.AWP
