/- Rows of expressions in order, each once: plain laws. -/
import Derived.Test.YtbpkppidbdhopaaReMath
set_option linter.unusedSectionVars false
set_option linter.unusedVariables false
set_option linter.unusedSimpArgs false
/- Rows of expressions in order, each once: plain laws. -/
namespace Go.Proofs.Ytbpkppidbdhopaa.AWP
open Go

mutual
theorem Re.same_eq : ∀ (x y : Re), x.same y = true → x = y
  | .mk k a b c d ks, .mk k' a' b' c' d' ks', h => by
    rw [Re.same] at h
    simp only [Bool.and_eq_true, decide_eq_true_eq] at h
    obtain ⟨⟨rfl, rfl, rfl, rfl, rfl⟩, h⟩ := h
    rw [Re.sames_eq ks ks' h]
theorem Re.sames_eq : ∀ (x y : List Re), Re.sames x y = true → x = y
  | [], [], _ => rfl
  | [], _ :: _, h => by simp [Re.sames] at h
  | _ :: _, [], h => by simp [Re.sames] at h
  | x :: l, y :: m, h => by
    rw [Re.sames, Bool.and_eq_true] at h
    rw [Re.same_eq x y h.1, Re.sames_eq l m h.2]
end
theorem Re.cmp_zero {x y : Re} : x.cmp y = 0 ↔ x = y := by
  constructor
  · intro h; exact Re.same_eq x y (by rw [Re.same_cmp]; simpa using h)
  · rintro rfl
    have := Re.cmp_neg x x
    omega
theorem Re.same_iff {x y : Re} : x.same y = true ↔ x = y := by rw [Re.same_cmp, decide_eq_true_eq, Re.cmp_zero]
theorem Re.same_self (x : Re) : x.same x = true := Re.same_iff.2 rfl
theorem Re.sames_self (l : List Re) : Re.sames l l = true := by
  induction l with
  | nil => simp [Re.sames]
  | cons x l ih => rw [Re.sames, Re.same_self, ih]; rfl
def Re.le (x y : Re) : Prop := x.cmp y ≤ 0
theorem Re.le_refl (x : Re) : x.le x := by unfold Re.le; rw [Re.cmp_zero.2 rfl]; omega
theorem Re.le_total (x y : Re) : x.le y ∨ y.le x := by unfold Re.le; have := Re.cmp_neg x y; omega
theorem Re.le_trans {x y z : Re} (h : x.le y) (h' : y.le z) : x.le z := by
  have t := x.tri y z
  unfold Re.le Tri at *
  omega
theorem Re.le_antisymm {x y : Re} (h : x.le y) (h' : y.le x) : x = y := by
  have := Re.cmp_neg x y
  unfold Re.le at *
  exact Re.cmp_zero.1 (by omega)
theorem Re.not_lt {x y : Re} : ¬ x.cmp y < 0 ↔ y.le x := by unfold Re.le; have := Re.cmp_neg x y; omega
theorem Re.lt_le {x y : Re} (h : x.cmp y < 0) : x.le y := by unfold Re.le; omega

def Sorted (l : List Re) : Prop := l.Pairwise Re.le

/-- One more, behind all that don't come behind it. -/
def insR (x : Re) : List Re → List Re
  | [] => [x]
  | y :: l => if x.cmp y < 0 then x :: y :: l else y :: insR x l
def sortR (l : List Re) : List Re := l.foldl (fun o x => insR x o) []

theorem insR_len (x : Re) (l : List Re) : (insR x l).length = l.length + 1 := by
  induction l with
  | nil => rfl
  | cons y l ih => rw [insR]; split <;> simp [ih]
theorem insR_mem {x y : Re} {l : List Re} : y ∈ insR x l ↔ y = x ∨ y ∈ l := by
  induction l with
  | nil => simp [insR]
  | cons z l ih =>
    rw [insR]
    split
    · simp
    · simp only [List.mem_cons, ih]
      constructor
      · rintro (h | h | h) <;> simp [h]
      · rintro (h | h | h) <;> simp [h]
theorem insR_perm (x : Re) (l : List Re) : (insR x l).Perm (x :: l) := by
  induction l with
  | nil => exact List.Perm.refl _
  | cons y l ih =>
    rw [insR]
    split
    · exact List.Perm.refl _
    · exact (ih.cons y).trans (List.Perm.swap x y l)
theorem insR_sorted {x : Re} {l : List Re} (h : Sorted l) : Sorted (insR x l) := by
  induction l with
  | nil => simp [insR, Sorted]
  | cons y l ih =>
    unfold Sorted at h ih ⊢
    rw [List.pairwise_cons] at h
    rw [insR]
    split
    · rename_i hxy
      rw [List.pairwise_cons, List.pairwise_cons]
      refine ⟨fun z hz => ?_, h⟩
      rcases List.mem_cons.1 hz with rfl | hz
      · exact Re.lt_le hxy
      · exact Re.le_trans (Re.lt_le hxy) (h.1 z hz)
    · rename_i hxy
      rw [List.pairwise_cons]
      refine ⟨fun z hz => ?_, ih h.2⟩
      rcases insR_mem.1 hz with rfl | hz
      · exact Re.not_lt.1 hxy
      · exact h.1 z hz
theorem insR_split {x : Re} {p q : List Re} (hp : ∀ y ∈ p, ¬ x.cmp y < 0) (hq : ∀ y ∈ q.head?, x.cmp y < 0) : insR x (p ++ q) = p ++ x :: q := by
  induction p with
  | nil =>
    cases q with
    | nil => rfl
    | cons y q => rw [List.nil_append, insR, if_pos (hq y (by simp))]; rfl
  | cons y p ih =>
    rw [List.cons_append, insR, if_neg (hp y (by simp)), ih fun z hz => hp z (by simp [hz])]; rfl

theorem sortR_snoc (l : List Re) (x : Re) : sortR (l ++ [x]) = insR x (sortR l) := by simp [sortR, List.foldl_append]
theorem sortR_take {l : List Re} {i : Nat} {x : Re} (h : l[i]? = some x) : sortR (l.take (i + 1)) = insR x (sortR (l.take i)) := by
  rw [List.take_add_one, h]
  exact sortR_snoc _ _
theorem snocInd {p : List Re → Prop} (h0 : p []) (h1 : ∀ l x, p l → p (l ++ [x])) (l : List Re) : p l := by
  rw [← List.reverse_reverse l]
  induction l.reverse with
  | nil => exact h0
  | cons x l ih => rw [List.reverse_cons]; exact h1 _ _ ih
theorem sortR_len (l : List Re) : (sortR l).length = l.length := by
  induction l using snocInd with
  | h0 => rfl
  | h1 l x ih => rw [sortR_snoc, insR_len, ih]; simp
theorem sortR_sorted (l : List Re) : Sorted (sortR l) := by
  induction l using snocInd with
  | h0 => exact List.Pairwise.nil
  | h1 l x ih => rw [sortR_snoc]; exact insR_sorted ih
theorem sortR_perm (l : List Re) : (sortR l).Perm l := by
  induction l using snocInd with
  | h0 => exact List.Perm.refl _
  | h1 l x ih =>
    rw [sortR_snoc]
    exact ((insR_perm _ _).trans (ih.cons x)).trans (List.perm_append_singleton x l).symm
theorem sorted_unique : ∀ {l m : List Re}, Sorted l → Sorted m → l.Perm m → l = m
  | [], m, _, _, h => (List.nil_perm.1 h).symm
  | x :: l, [], _, _, h => by have := h.length_eq; simp at this
  | x :: l, y :: m, h1, h2, h => by
    have q1 := List.pairwise_cons.1 h1
    have q2 := List.pairwise_cons.1 h2
    have exy : x = y := by
      have hx : x ∈ y :: m := h.mem_iff.1 (by simp)
      have hy : y ∈ x :: l := h.mem_iff.2 (by simp)
      rcases List.mem_cons.1 hx with e | hx
      · exact e
      · rcases List.mem_cons.1 hy with e | hy
        · exact e.symm
        · exact Re.le_antisymm (q1.1 y hy) (q2.1 x hx)
    subst exy
    rw [sorted_unique q1.2 q2.2 (List.Perm.cons_inv h)]
theorem sortR_again (l : List Re) : sortR (sortR l) = sortR l := sorted_unique (sortR_sorted _) (sortR_sorted _) (sortR_perm _)

/-- Each once. -/
def onceStep (o : List Re) (x : Re) : List Re := if o.any (fun y => y.same x) then o else o ++ [x]
def onceR (l : List Re) : List Re := l.foldl onceStep []
theorem any_same {o : List Re} {x : Re} : o.any (fun y => y.same x) = true ↔ x ∈ o := by
  rw [List.any_eq_true]
  constructor
  · rintro ⟨y, h1, h2⟩; rw [← Re.same_iff.1 h2]; exact h1
  · intro h; exact ⟨x, h, Re.same_self x⟩
theorem onceStep_in {o : List Re} {x : Re} (h : x ∈ o) : onceStep o x = o := by unfold onceStep; rw [if_pos (any_same.2 h)]
theorem onceStep_out {o : List Re} {x : Re} (h : x ∉ o) : onceStep o x = o ++ [x] := by unfold onceStep; rw [if_neg (fun e => h (any_same.1 e))]
theorem onceR_snoc (l : List Re) (x : Re) : onceR (l ++ [x]) = onceStep (onceR l) x := by simp [onceR, List.foldl_append]
theorem onceR_take {l : List Re} {i : Nat} {x : Re} (h : l[i]? = some x) : onceR (l.take (i + 1)) = onceStep (onceR (l.take i)) x := by
  rw [List.take_add_one, h]
  exact onceR_snoc _ _
theorem onceR_len (l : List Re) : (onceR l).length ≤ l.length := by
  induction l using snocInd with
  | h0 => exact Nat.le_refl _
  | h1 l x ih =>
    rw [onceR_snoc]
    unfold onceStep
    split <;> simp <;> omega
theorem onceR_mem {l : List Re} {y : Re} : y ∈ onceR l ↔ y ∈ l := by
  induction l using snocInd with
  | h0 => rfl
  | h1 l x ih =>
    rw [onceR_snoc]
    by_cases h : x ∈ onceR l
    · rw [onceStep_in h]
      simp only [ih, List.mem_append, List.mem_singleton]
      constructor
      · exact .inl
      · rintro (h' | rfl)
        · exact h'
        · exact ih.1 h
    · rw [onceStep_out h]; simp [ih]
theorem onceR_nodup (l : List Re) : (onceR l).Nodup := by
  induction l using snocInd with
  | h0 => exact List.nodup_nil
  | h1 l x ih =>
    rw [onceR_snoc]
    by_cases h : x ∈ onceR l
    · rw [onceStep_in h]; exact ih
    · rw [onceStep_out h, List.nodup_append]
      refine ⟨ih, by simp, ?_⟩
      rintro a ha b hb rfl
      simp only [List.mem_singleton] at hb
      subst hb
      exact h ha
theorem onceR_of_nodup {l : List Re} (h : l.Nodup) : onceR l = l := by
  induction l using snocInd with
  | h0 => rfl
  | h1 l x ih =>
    rw [List.nodup_append] at h
    rw [onceR_snoc, ih h.1]
    exact onceStep_out fun hx => h.2.2 x hx x (by simp) rfl
theorem onceR_again (l : List Re) : onceR (onceR l) = onceR l := onceR_of_nodup (onceR_nodup l)
theorem onceR_sorted {l : List Re} (h : Sorted l) : Sorted (onceR l) := by
  induction l using snocInd with
  | h0 => exact List.Pairwise.nil
  | h1 l x ih =>
    unfold Sorted at h ih ⊢
    rw [List.pairwise_append] at h
    rw [onceR_snoc]
    by_cases hx : x ∈ onceR l
    · rw [onceStep_in hx]; exact ih h.1
    · rw [onceStep_out hx, List.pairwise_append]
      exact ⟨ih h.1, by simp, fun a ha b hb => h.2.2 a (onceR_mem.1 ha) b hb⟩
theorem nodup_perm : ∀ {l m : List Re}, l.Nodup → m.Nodup → (∀ x, x ∈ l ↔ x ∈ m) → l.Perm m
  | [], m, _, _, h => by
    cases m with
    | nil => exact List.Perm.refl _
    | cons y m => have := (h y).2 (by simp); simp at this
  | x :: l, m, h1, h2, h => by
    obtain ⟨p, q, rfl⟩ := List.append_of_mem ((h x).1 (by simp))
    have q1 := List.nodup_cons.1 h1
    have q2 : (x :: (p ++ q)).Nodup := (List.perm_middle.nodup_iff).1 h2
    have q3 := List.nodup_cons.1 q2
    refine ((nodup_perm q1.2 q3.2 fun y => ?_).cons x).trans List.perm_middle.symm
    have hy := h y
    simp only [List.mem_cons, List.mem_append] at hy ⊢
    constructor
    · intro hl
      rcases hy.1 (.inr hl) with h | rfl | h
      · exact .inl h
      · exact absurd hl q1.1
      · exact .inr h
    · intro hpq
      rcases hy.2 (hpq.elim .inl fun h => .inr (.inr h)) with rfl | h
      · exact absurd (by simpa using hpq) q3.1
      · exact h
theorem sort_once (l : List Re) : sortR (onceR l) = onceR (sortR l) := by
  refine sorted_unique (sortR_sorted _) (onceR_sorted (sortR_sorted _)) (nodup_perm ?_ (onceR_nodup _) fun x => ?_)
  · exact ((sortR_perm _).nodup_iff).2 (onceR_nodup l)
  · rw [(sortR_perm _).mem_iff, onceR_mem, onceR_mem, (sortR_perm _).mem_iff]

/-- The document's way: as far as a place, one that is put in, or not yet. -/
def putR (x : Re) (o : List Re) : Bool × List Re := (o.any fun y => decide (x.cmp y < 0), if (o.any fun y => decide (x.cmp y < 0)) then insR x o else o)
theorem insR_none {x : Re} {o : List Re} (h : (o.any fun y => decide (x.cmp y < 0)) = false) : insR x o = o ++ [x] := by
  have := insR_split (x := x) (p := o) (q := []) (fun y hy hc => by
    rw [List.any_eq_false] at h
    exact h y hy (by simpa using hc)) (by simp)
  simpa using this
theorem insR_some {x y : Re} : ∀ {o : List Re}, (o.any fun y => decide (x.cmp y < 0)) = true → insR x (o ++ [y]) = insR x o ++ [y]
  | [], h => by simp at h
  | z :: o, h => by
    rw [List.cons_append, insR, insR]
    split
    · rfl
    · rename_i hc
      rw [insR_some (o := o) (by simpa [hc] using h)]; rfl
theorem putR_snoc (x y : Re) (o : List Re) : putR x (o ++ [y]) = if (!(putR x o).1 && decide (x.cmp y < 0)) then (true, (putR x o).2 ++ [x] ++ [y]) else ((putR x o).1, (putR x o).2 ++ [y]) := by
  unfold putR
  simp only [List.any_append, List.any_cons, List.any_nil, Bool.or_false]
  cases h : o.any fun y => decide (x.cmp y < 0) with
  | true => simp [insR_some h]
  | false =>
    by_cases hc : x.cmp y < 0
    · simp only [hc, decide_true, Bool.or_true, Bool.not_false, Bool.and_self, if_true, Bool.false_eq_true, if_false]
      rw [insR_split (p := o) (q := [y]) (fun z hz hz' => by
        rw [List.any_eq_false] at h
        exact h z hz (by simpa using hz')) (by simpa using hc)]
      simp
    · simp [hc]
theorem putR_end (x : Re) (o : List Re) : (if (putR x o).1 then (putR x o).2 else (putR x o).2 ++ [x]) = insR x o := by
  unfold putR
  cases h : o.any fun y => decide (x.cmp y < 0) with
  | true => simp
  | false => simp [insR_none h]
theorem putR_take {x y : Re} {o : List Re} {k : Nat} (h : o[k]? = some y) : putR x (o.take (k + 1)) = if (!(putR x (o.take k)).1 && decide (x.cmp y < 0)) then (true, (putR x (o.take k)).2 ++ [x] ++ [y]) else ((putR x (o.take k)).1, (putR x (o.take k)).2 ++ [y]) := by
  rw [List.take_add_one, h]
  exact putR_snoc _ _ _
theorem putR_len (x : Re) (o : List Re) : (putR x o).2.length ≤ o.length + 1 := by
  unfold putR
  dsimp only
  split
  · rw [insR_len]; exact Nat.le_refl _
  · omega

/-- The place of the first one in order, among the first n. -/
def firstR (l : List Re) : Nat → Nat
  | 0 => 0
  | i + 1 => match l[i]?, l[firstR l i]? with
    | some r, some x => if r.cmp x < 0 then i else firstR l i
    | _, _ => firstR l i
theorem firstR_lt {l : List Re} (h : l ≠ []) : ∀ n, n ≤ l.length → firstR l n < l.length
  | 0, _ => List.length_pos_iff.2 h
  | i + 1, hi => by
    have ih := firstR_lt h i (by omega)
    rw [firstR]
    split
    · split <;> omega
    · exact ih
/-- None of them comes ahead of it, and of its like none stands ahead. -/
theorem firstR_ok {l : List Re} : ∀ n, n ≤ l.length → ∀ (k : Nat) (r x : Re), k < n → l[k]? = some r → l[firstR l n]? = some x → x.le r ∧ (r = x → firstR l n ≤ k)
  | 0, _, k, r, x, hk, _, _ => by omega
  | i + 1, hi, k, r, x, hk, hr, hx => by
    have h0 : l ≠ [] := by intro e; rw [e] at hi; simp at hi
    obtain ⟨a, ha⟩ := get_ex (l := l) (i := i) (by omega)
    obtain ⟨b, hb⟩ := get_ex (l := l) (firstR_lt h0 i (by omega))
    rw [firstR, ha, hb] at hx ⊢
    dsimp only at hx ⊢
    have ih := firstR_ok (l := l) i (by omega)
    by_cases hc : a.cmp b < 0
    · rw [if_pos hc] at hx ⊢
      rw [ha] at hx
      injection hx with hx
      subst hx
      by_cases hki : k < i
      · have h1 := (ih k r b hki hr hb).1
        refine ⟨Re.le_trans (Re.lt_le hc) h1, fun e => ?_⟩
        subst e
        have := Re.not_lt.2 h1
        exact absurd hc this
      · have : k = i := by omega
        subst this
        rw [ha] at hr
        injection hr with hr
        subst hr
        exact ⟨Re.le_refl _, fun _ => Nat.le_refl _⟩
    · rw [if_neg hc] at hx ⊢
      rw [hb] at hx
      injection hx with hx
      subst hx
      by_cases hki : k < i
      · exact ih k r b hki hr hb
      · have : k = i := by omega
        subst this
        rw [ha] at hr
        injection hr with hr
        subst hr
        refine ⟨Re.not_lt.1 hc, fun e => ?_⟩
        have hle : ∀ n, firstR l n ≤ n := by
          intro n
          induction n with
          | zero => exact Nat.le_refl _
          | succ n ih => rw [firstR]; split <;> (try split) <;> omega
        exact hle k
end Go.Proofs.Ytbpkppidbdhopaa.AWP
