/- A normal form is nullable, or void, just if the expression is; its first bytes are the same. -/
import Derived.Test.YtfpfcokhnddddaaWord
set_option linter.unusedVariables false
set_option linter.unusedSimpArgs false
set_option linter.unusedSectionVars false
set_option maxRecDepth 100000
/- What a normal form is; it is its own one. -/
namespace Go.Proofs.Ytfpfcokhnddddaa.AWP
open Go

def clsN (l : List Re) : Nat := (l.filter fun r => decide (r.kd = 3)).length
def SF (f : List Re) : Prop := Sorted f ∧ f.Nodup ∧ clsN f ≤ 1
/-- The form of a normal form. -/
def Re.N : Re → Prop
  | .mk k _ _ _ _ [x, y] => x.N ∧ y.N ∧ (if k = 4 then x.kd ≠ 1 ∧ x.kd ≠ 2 ∧ x.kd ≠ 4 ∧ y.kd ≠ 1 ∧ y.kd ≠ 2 else x.kd ≠ 1 ∧ x.kd ≠ 5 ∧ y.kd ≠ 1 ∧ SF (x :: y.fl))
  | .mk _ _ _ _ _ [x] => x.N ∧ x.kd ≠ 1 ∧ x.kd ≠ 2 ∧ x.kd ≠ 6
  | _ => True
theorem N_leaf (k a b c d : Int) : (Re.mk k a b c d []).N := by rw [Re.N] <;> simp
theorem N_seq (x y : Re) : (Re.mk 4 0 0 0 0 [x, y]).N ↔ x.N ∧ y.N ∧ x.kd ≠ 1 ∧ x.kd ≠ 2 ∧ x.kd ≠ 4 ∧ y.kd ≠ 1 ∧ y.kd ≠ 2 := by rw [Re.N, if_pos rfl]
theorem N_alt (x y : Re) : (Re.mk 5 0 0 0 0 [x, y]).N ↔ x.N ∧ y.N ∧ x.kd ≠ 1 ∧ x.kd ≠ 5 ∧ y.kd ≠ 1 ∧ SF (x :: y.fl) := by rw [Re.N, if_neg (by omega)]
theorem N_star (x : Re) : (Re.mk 6 0 0 0 0 [x]).N ↔ x.N ∧ x.kd ≠ 1 ∧ x.kd ≠ 2 ∧ x.kd ≠ 6 := by rw [Re.N]
theorem SF.tail {x : Re} {f : List Re} (h : SF (x :: f)) : SF f := by
  obtain ⟨h1, h2, h3⟩ := h
  refine ⟨(List.pairwise_cons.1 h1).2, (List.nodup_cons.1 h2).2, ?_⟩
  unfold clsN at *
  rw [List.filter_cons] at h3
  split at h3
  · rw [List.length_cons] at h3; omega
  · exact h3
theorem sq_leaf (k a b c d : Int) (r : Re) : Re.sq (.mk k a b c d []) r = if k = 1 ∨ r.kd = 1 then empR else if k = 2 then r else if r.kd = 2 then .mk k a b c d [] else .mk 4 0 0 0 0 [.mk k a b c d [], r] := by
  rw [Re.sq]; intro x y e; cases e
theorem sq_star (x r : Re) : Re.sq (.mk 6 0 0 0 0 [x]) r = if r.kd = 1 then empR else if r.kd = 2 then .mk 6 0 0 0 0 [x] else .mk 4 0 0 0 0 [.mk 6 0 0 0 0 [x], r] := by
  rw [Re.sq]
  · simp
  · intro x y e; cases e
theorem sq_self {x : Re} (hx : x.nodesOk = true) {y : Re} (h1 : x.kd ≠ 1) (h2 : x.kd ≠ 2) (h4 : x.kd ≠ 4) (k1 : y.kd ≠ 1) (k2 : y.kd ≠ 2) : x.sq y = .mk 4 0 0 0 0 [x, y] := by
  rcases Re.ok_cases hx with ⟨k, hk, rfl⟩ | ⟨a, b, c, d, _, rfl⟩ | ⟨k, p, q, hk, rfl, _, _⟩ | ⟨p, rfl, _⟩
  · rcases hk with rfl | rfl
    · exact absurd rfl h1
    · exact absurd rfl h2
  · rw [sq_leaf, if_neg (by simp [k1]), if_neg (by simp), if_neg k2]
  · rcases hk with rfl | rfl
    · exact absurd rfl h4
    · rw [sq_two _ _ _ _ (.inr rfl), if_neg k1, if_neg k2, if_neg (by simp)]
  · rw [sq_star, if_neg k1, if_neg k2]
theorem sq_N (a : Re) : a.nodesOk = true → a.N → ∀ b : Re, b.N → (a.sq b).N ∧ (a.kd ≠ 1 → a.kd ≠ 2 → b.kd ≠ 1 → b.kd ≠ 2 → (a.sq b).kd = 4) := by
  refine Re.indOk (p := fun a => a.N → ∀ b : Re, b.N → (a.sq b).N ∧ (a.kd ≠ 1 → a.kd ≠ 2 → b.kd ≠ 1 → b.kd ≠ 2 → (a.sq b).kd = 4)) ?_ ?_ ?_ ?_ a
  · intro k hk _ b hb
    rw [sq_leaf]
    refine ⟨?_, fun h1 h2 => ?_⟩
    · split
      · exact N_leaf ..
      split
      · exact hb
      · rename_i h1 h2; rcases hk with rfl | rfl <;> simp at h1 h2
    · rcases hk with rfl | rfl
      · exact absurd rfl h1
      · exact absurd rfl h2
  · intro a1 a2 a3 a4 hn _ b hb
    rw [sq_leaf]
    refine ⟨?_, fun h1 h2 k1 k2 => ?_⟩
    · split
      · exact N_leaf ..
      rename_i h1
      split
      · rename_i h; cases h
      split
      · exact N_leaf ..
      · rename_i h2
        rw [N_seq]
        exact ⟨N_leaf .., hb, by simp [Re.kd], by simp [Re.kd], by simp [Re.kd], fun h => h1 (.inr h), h2⟩
    · rw [if_neg (by simp [k1]), if_neg (by simp), if_neg k2]; rfl
  · intro k x y hk hx hy ihx ihy hN b hb
    rw [sq_two _ _ _ _ hk]
    rcases hk with rfl | rfl
    · rw [N_seq] at hN
      obtain ⟨nx, ny, x1, x2, x4, y1, y2⟩ := hN
      obtain ⟨q1, q2⟩ := ihy ny b hb
      refine ⟨?_, fun h1 h2 k1 k2 => ?_⟩
      · split
        · exact N_leaf ..
        split
        · rw [N_seq]; exact ⟨nx, ny, x1, x2, x4, y1, y2⟩
        · exact (ihx nx _ q1).1
      · rw [if_neg k1, if_neg k2, if_pos rfl]
        have q := q2 y1 y2 k1 k2
        exact (ihx nx _ q1).2 x1 x2 (by omega) (by omega)
    · refine ⟨?_, fun h1 h2 k1 k2 => ?_⟩
      · split
        · exact N_leaf ..
        rename_i b1
        split
        · exact hN
        rename_i b2
        rw [if_neg (by omega), N_seq]
        exact ⟨hN, hb, by simp [Re.kd], by simp [Re.kd], by simp [Re.kd], b1, b2⟩
      · rw [if_neg k1, if_neg k2, if_neg (by omega)]; rfl
  · intro x hx ih hN b hb
    rw [sq_star]
    refine ⟨?_, fun h1 h2 k1 k2 => ?_⟩
    · split
      · exact N_leaf ..
      rename_i b1
      split
      · exact hN
      rename_i b2
      rw [N_seq]
      exact ⟨hN, hb, by simp [Re.kd], by simp [Re.kd], by simp [Re.kd], b1, b2⟩
    · rw [if_neg k1, if_neg k2]; rfl

/-! ### Alts -/
theorem fl_self {e : Re} (h1 : e.kd ≠ 1) (h5 : e.kd ≠ 5) : e.fl = [e] := by
  obtain ⟨k, a, b, c, d, ks⟩ := e
  simp only [Re.kd] at h1 h5
  match ks with
  | [] => rw [Re.fl, if_neg h1]; simp
  | [x] => rw [Re.fl, if_neg h1]; simp
  | [x, y] => rw [Re.fl, if_neg h1, if_neg h5]
  | x :: y :: z :: l => rw [Re.fl, if_neg h1]; simp
theorem fl_N (x : Re) : x.nodesOk = true → x.N → ∀ e ∈ x.fl, e.N ∧ e.kd ≠ 1 ∧ e.kd ≠ 5 := by
  refine Re.indOk (p := fun x => x.N → ∀ e ∈ x.fl, e.N ∧ e.kd ≠ 1 ∧ e.kd ≠ 5) ?_ ?_ ?_ ?_ x
  · intro k hk hN e he
    rcases hk with rfl | rfl
    · rw [fl_one _ _ _ _ _ _ (by simp), if_pos rfl] at he; cases he
    · rw [fl_self (by simp [Re.kd]) (by simp [Re.kd])] at he
      rw [List.mem_singleton.1 he]; exact ⟨hN, by simp [Re.kd], by simp [Re.kd]⟩
  · intro a b c d _ hN e he
    rw [fl_self (by simp [Re.kd]) (by simp [Re.kd])] at he
    rw [List.mem_singleton.1 he]; exact ⟨hN, by simp [Re.kd], by simp [Re.kd]⟩
  · intro k p q hk hp hq ihp ihq hN e he
    rcases hk with rfl | rfl
    · rw [fl_self (by simp [Re.kd]) (by simp [Re.kd])] at he
      rw [List.mem_singleton.1 he]; exact ⟨hN, by simp [Re.kd], by simp [Re.kd]⟩
    · rw [N_alt] at hN
      rw [fl_two _ _ _ (.inr rfl), if_pos rfl] at he
      rcases List.mem_append.1 he with h | h
      · exact ihp hN.1 e h
      · exact ihq hN.2.1 e h
  · intro p _ _ hN e he
    rw [fl_self (by simp [Re.kd]) (by simp [Re.kd])] at he
    rw [List.mem_singleton.1 he]; exact ⟨hN, by simp [Re.kd], by simp [Re.kd]⟩
theorem foldL_N : ∀ (s : List Re), (∀ e ∈ s, e.N ∧ e.kd ≠ 1 ∧ e.kd ≠ 5) → SF s → (foldL 5 1 s).N ∧ (foldL 5 1 s).fl = s ∧ (s ≠ [] → (foldL 5 1 s).kd ≠ 1)
  | [], _, _ => ⟨N_leaf .., by rw [foldL_nil, fl_one _ _ _ _ _ _ (by simp), if_pos rfl], fun h => absurd rfl h⟩
  | [x], h, _ => by
    obtain ⟨h1, h2, h3⟩ := h x (by simp)
    rw [foldL_one]
    exact ⟨h1, fl_self h2 h3, fun _ => h2⟩
  | x :: y :: s, h, hs => by
    obtain ⟨h1, h2, h3⟩ := h x (by simp)
    obtain ⟨i1, i2, i3⟩ := foldL_N (y :: s) (fun e he => h e (List.mem_cons_of_mem _ he)) hs.tail
    rw [foldL_two, N_alt, fl_two _ _ _ (.inr rfl), if_pos rfl, i2, fl_self h2 h3]
    exact ⟨⟨h1, i1, h2, h3, i3 (by simp), hs⟩, rfl, fun _ => by simp [Re.kd]⟩
theorem alt_self (y : Re) : y.nodesOk = true → y.N → y.kd ≠ 1 → y.fl ≠ [] ∧ foldL 5 1 y.fl = y := by
  refine Re.indOk (p := fun y => y.N → y.kd ≠ 1 → y.fl ≠ [] ∧ foldL 5 1 y.fl = y) ?_ ?_ ?_ ?_ y
  · intro k hk _ h1
    rcases hk with rfl | rfl
    · exact absurd rfl h1
    · rw [fl_self h1 (by simp [Re.kd]), foldL_one]; exact ⟨by simp, rfl⟩
  · intro a b c d _ _ h1
    rw [fl_self h1 (by simp [Re.kd]), foldL_one]; exact ⟨by simp, rfl⟩
  · intro k p q hk hp hq ihp ihq hN h1
    rcases hk with rfl | rfl
    · rw [fl_self h1 (by simp [Re.kd]), foldL_one]; exact ⟨by simp, rfl⟩
    · rw [N_alt] at hN
      obtain ⟨n1, n2, p1, p5, q1, _⟩ := hN
      obtain ⟨e1, e2⟩ := ihq n2 q1
      rw [fl_two _ _ _ (.inr rfl), if_pos rfl, fl_self p1 p5]
      refine ⟨by simp, ?_⟩
      obtain ⟨z, t, hz⟩ := List.exists_cons_of_ne_nil e1
      rw [hz] at e2 ⊢
      rw [List.singleton_append, foldL_two, e2]
  · intro p _ _ _ h1
    rw [fl_self h1 (by simp [Re.kd]), foldL_one]; exact ⟨by simp, rfl⟩

theorem clsN_perm {l m : List Re} (h : l.Perm m) : clsN l = clsN m := (h.filter _).length_eq
theorem clsN_app (l m : List Re) : clsN (l ++ m) = clsN l + clsN m := by unfold clsN; rw [List.filter_append, List.length_append]
theorem clsN_once (l : List Re) : clsN (onceR l) ≤ clsN l := by
  induction l using snocInd with
  | h0 => exact Nat.le_refl _
  | h1 l x ih =>
    rw [onceR_snoc, clsN_app]
    unfold onceStep
    split
    · omega
    · rw [clsN_app]; omega
theorem clsN_nocls (l : List Re) : clsN (nocls l) = 0 := by
  unfold clsN nocls
  rw [List.filter_filter, List.length_eq_zero_iff, List.filter_eq_nil_iff]
  intro x _
  simp
theorem clsN_gather (l : List Re) : clsN (gather l) ≤ 1 := by
  unfold gather
  split
  · rw [clsN_nocls]; omega
  · rw [clsN_app, clsN_nocls]
    unfold clsN
    have := List.length_filter_le (fun r : Re => decide (r.kd = 3)) [reS (clsS l)]
    simp only [List.length_singleton] at this
    omega
theorem reS_kd {ws : List Int} (h4 : ws.length = 4) (h : ws ≠ noneS) : ∃ a b c d, ws = [a, b, c, d] ∧ reS ws = .mk 3 a b c d [] := by
  obtain ⟨a, b, c, d, rfl⟩ := four h4
  exact ⟨a, b, c, d, rfl, if_neg h⟩
theorem SF_norm (g : List Re) (h : clsN g ≤ 1) : SF (onceR (sortR g)) := by
  refine ⟨onceR_sorted (sortR_sorted g), onceR_nodup _, ?_⟩
  have h1 := clsN_once (sortR g)
  rw [clsN_perm (sortR_perm g)] at h1
  omega
theorem altR_N (l : List Re) (h : ∀ x ∈ l, x.nodesOk = true ∧ x.N) : (altR l).N := by
  refine (foldL_N _ (fun e he => ?_) (SF_norm _ (clsN_gather _))).1
  have hm := onceR_mem.1 he
  have hg := (sortR_perm _).mem_iff.1 hm
  unfold gather at hg
  have key : ∀ e ∈ nocls (l.flatMap Re.fl), e.N ∧ e.kd ≠ 1 ∧ e.kd ≠ 5 := by
    intro e he
    obtain ⟨y, hy, hf⟩ := flatMap_fl (List.mem_filter.1 he).1
    exact fl_N y (h y hy).1 (h y hy).2 e hf
  split at hg
  · exact key e hg
  · rename_i hn
    rcases List.mem_append.1 hg with h1 | h1
    · exact key e h1
    · obtain ⟨a, b, c, d, _, e2⟩ := reS_kd (clsS_len _) hn
      rw [List.mem_singleton.1 h1, e2]
      exact ⟨N_leaf .., by simp [Re.kd], by simp [Re.kd]⟩
theorem starR_N {x : Re} (h : x.N) : (starR x).N := by
  unfold starR
  split
  · exact N_leaf ..
  rename_i h12
  split
  · exact h
  · rename_i h6
    rw [N_star]
    exact ⟨h, fun e => h12 (.inl e), fun e => h12 (.inr e), h6⟩
theorem nrm_N (r : Re) : r.nodesOk = true → r.nrm.N := by
  refine Re.indOk (p := fun r => r.nrm.N) ?_ ?_ ?_ ?_ r
  · intro k _; rw [nrm_leaf]; exact N_leaf ..
  · intro a b c d _; rw [nrm_leaf]; exact N_leaf ..
  · intro k x y hk hx hy ihx ihy
    rw [nrm_two k x y hk]
    split
    · exact (sq_N _ (nrm_ok x hx) ihx _ ihy).1
    · refine altR_N _ fun z hz => ?_
      simp only [List.mem_cons, List.not_mem_nil, or_false] at hz
      rcases hz with rfl | rfl
      · exact ⟨nrm_ok x hx, ihx⟩
      · exact ⟨nrm_ok y hy, ihy⟩
  · intro x hx ih; rw [nrm_star]; exact starR_N ih

/-! ### Its own -/
theorem join_none {s : List Int} (h : W64 s) : joinAll [noneS, s] = s := by
  refine (W64.none.joinAll2 h).ext h fun n hn => ?_
  rw [hasB_joinAll2 W64.none h hn, hasB_none n hn, Bool.false_or]
theorem clsS_app (A B : List Re) (hB : ∀ x ∈ B, x.kd ≠ 3) : clsS (A ++ B) = clsS A := by
  unfold clsS
  rw [List.foldl_append]
  generalize A.foldl clsStep noneS = s
  induction B generalizing s with
  | nil => rfl
  | cons x B ih =>
    rw [List.foldl_cons, ih (fun y hy => hB y (List.mem_cons_of_mem _ hy))]
    exact if_neg (hB x (by simp))
theorem clsN_zero {l : List Re} (h : clsN l = 0) : ∀ x ∈ l, x.kd ≠ 3 := by
  intro x hx h3
  have := List.filter_eq_nil_iff.1 (List.length_eq_zero_iff.1 h) x hx
  simp [h3] at this
theorem nocls_id {l : List Re} (h : ∀ x ∈ l, x.kd ≠ 3) : nocls l = l := List.filter_eq_self.2 fun x hx => by simpa using h x hx
theorem gather_perm (f : List Re) (h1 : clsN f ≤ 1) (hok : ∀ x ∈ f, x.nodesOk = true) (hw : ∀ x ∈ f, x.wd) : (gather f).Perm f := by
  by_cases hc : ∃ x ∈ f, x.kd = 3
  · obtain ⟨c, hcm, h3⟩ := hc
    obtain ⟨A, B, rfl⟩ := List.append_of_mem hcm
    have hc1 : clsN [c] = 1 := by simp [clsN, h3]
    have hAB : clsN A = 0 ∧ clsN B = 0 := by
      rw [clsN_app, show c :: B = [c] ++ B from rfl, clsN_app, hc1] at h1
      omega
    have hA := clsN_zero hAB.1
    have hB := clsN_zero hAB.2
    rcases Re.ok_cases (hok c hcm) with ⟨k, hk, rfl⟩ | ⟨a, b, d, e, hn, rfl⟩ | ⟨k, p, q, hk, rfl, _, _⟩ | ⟨p, rfl, _⟩
    · rcases hk with rfl | rfl <;> cases h3
    · have hw3 := Re.wd_set (hw _ hcm)
      have es : clsS (A ++ Re.mk 3 a b d e [] :: B) = [a, b, d, e] := by
        rw [show A ++ Re.mk 3 a b d e [] :: B = (A ++ [Re.mk 3 a b d e []]) ++ B by simp, clsS_app _ _ hB, clsS_snoc, clsS_none hA]
        show (if (3 : Int) = 3 then joinAll [noneS, [a, b, d, e]] else noneS) = _
        rw [if_pos rfl]; exact join_none hw3
      have hne : ¬ [a, b, d, e] = noneS := fun hh => hn (by unfold noneS at hh; simpa using hh)
      have e2 : reS [a, b, d, e] = .mk 3 a b d e [] := if_neg hne
      have en : nocls (A ++ Re.mk 3 a b d e [] :: B) = A ++ B := by
        unfold nocls
        rw [List.filter_append, List.filter_cons, if_neg (by simp [Re.kd])]
        exact congr (congrArg _ (nocls_id hA)) (nocls_id hB)
      unfold gather
      rw [es, if_neg hne, en, e2]
      refine List.Perm.trans (List.perm_append_comm) ?_
      show (Re.mk 3 a b d e [] :: (A ++ B)).Perm _
      exact List.perm_middle.symm
    · rcases hk with rfl | rfl <;> cases h3
    · cases h3
  · have hn : ∀ x ∈ f, x.kd ≠ 3 := fun x hx h3 => hc ⟨x, hx, h3⟩
    unfold gather
    rw [if_pos (clsS_none hn), nocls_id hn]
theorem altR_own {f : List Re} (h : SF f) (hok : ∀ x ∈ f, x.nodesOk = true) (hw : ∀ x ∈ f, x.wd) : onceR (sortR (gather f)) = f := by
  rw [sortR_eq h.1 (gather_perm f h.2.2 hok hw).symm, onceR_of_nodup h.2.1]
theorem N_nrm (r : Re) : r.nodesOk = true → r.wd → r.N → r.nrm = r := by
  refine Re.indOk (p := fun r => r.wd → r.N → r.nrm = r) ?_ ?_ ?_ ?_ r
  · intro k _ _ _; rw [nrm_leaf]
  · intro a b c d _ _ _; rw [nrm_leaf]
  · intro k x y hk hx hy ihx ihy hw hN
    have hw2 : x.wd ∧ y.wd := by rw [Re.wd, Re.wds, Re.wds] at hw; exact ⟨hw.2.1, hw.2.2.1⟩
    rw [nrm_two k x y hk]
    rcases hk with rfl | rfl
    · rw [N_seq] at hN
      obtain ⟨nx, ny, x1, x2, x4, y1, y2⟩ := hN
      rw [if_pos rfl, ihx hw2.1 nx, ihy hw2.2 ny, sq_self hx x1 x2 x4 y1 y2]
    · have hN' := hN
      rw [N_alt] at hN
      obtain ⟨nx, ny, x1, x5, y1, hs⟩ := hN
      rw [if_neg (by omega), ihx hw2.1 nx, ihy hw2.2 ny]
      have hxy : (Re.mk 5 0 0 0 0 [x, y]).nodesOk = true := nodesOk_two (.inr rfl) hx hy
      obtain ⟨_, e2⟩ := alt_self _ hxy hN' (by simp [Re.kd])
      have ef : (Re.mk 5 0 0 0 0 [x, y]).fl = x :: y.fl := by rw [fl_two _ _ _ (.inr rfl), if_pos rfl, fl_self x1 x5]; rfl
      have el : [x, y].flatMap Re.fl = x :: y.fl := by simp [fl_self x1 x5]
      unfold altR
      rw [el, altR_own hs (fun z hz => ?_) (fun z hz => ?_), ← ef, e2]
      · rcases List.mem_cons.1 hz with rfl | hz
        · exact hx
        · exact fl_ok y hy z hz
      · rcases List.mem_cons.1 hz with rfl | hz
        · exact hw2.1
        · exact fl_wd y hw2.2 z hz
  · intro x hx ih hw hN
    have hw2 : x.wd := by rw [Re.wd, Re.wds] at hw; exact hw.2.1
    rw [N_star] at hN
    obtain ⟨nx, x1, x2, x6⟩ := hN
    rw [nrm_star, ih hw2 nx, starR, if_neg (by simp [x1, x2]), if_neg x6]
theorem nrm_own (r : Re) (h : r.nodesOk = true) (hw : r.wd) : r.nrm.nrm = r.nrm := N_nrm _ (nrm_ok r h) (nrm_wd r h hw) (nrm_N r h)
end Go.Proofs.Ytfpfcokhnddddaa.AWP

set_option maxRecDepth 100000
/- A normal form is nullable, or void, just if the expression is; its first bytes are the same. -/
namespace Go.Proofs.Ytfpfcokhnddddaa.AWP
open Go

theorem nul_two (k : Int) (x y : Re) (hk : k = 4 ∨ k = 5) : (Re.mk k 0 0 0 0 [x, y]).nul = if k = 4 then x.nul && y.nul else x.nul || y.nul := by
  rw [Re.nul]; rcases hk with rfl | rfl <;> simp
theorem fit_two (k : Int) (x y : Re) (hk : k = 4 ∨ k = 5) : (Re.mk k 0 0 0 0 [x, y]).fit = if k = 4 then x.fit && y.fit else x.fit || y.fit := by
  rw [Re.fit]; rcases hk with rfl | rfl <;> simp
theorem nul_leaf (k a b c d : Int) : (Re.mk k a b c d []).nul = decide (k = 2 ∨ k = 6) := by rw [Re.nul]; simp
theorem fit_leaf (k a b c d : Int) : (Re.mk k a b c d []).fit = decide (k ≠ 1) := by rw [Re.fit]; simp
theorem nul_star (x : Re) : (Re.mk 6 0 0 0 0 [x]).nul = true := by rw [Re.nul] <;> simp
theorem fit_star (x : Re) : (Re.mk 6 0 0 0 0 [x]).fit = true := by rw [Re.fit] <;> simp
theorem fst_leaf (k : Int) (hk : k = 1 ∨ k = 2) : (Re.mk k 0 0 0 0 []).fst = noneS := by rw [Re.fst] <;> rcases hk with rfl | rfl <;> simp
theorem fst_cls (a b c d : Int) : (Re.mk 3 a b c d []).fst = [a, b, c, d] := by rw [Re.fst] <;> simp
theorem fst_star (x : Re) : (Re.mk 6 0 0 0 0 [x]).fst = x.fst := by rw [Re.fst]
theorem fst_seq (x y : Re) : (Re.mk 4 0 0 0 0 [x, y]).fst = if x.fit && y.fit then (if x.nul then joinAll [x.fst, y.fst] else x.fst) else noneS := by rw [Re.fst, if_pos rfl]
theorem fst_alt (x y : Re) : (Re.mk 5 0 0 0 0 [x, y]).fst = joinAll [x.fst, y.fst] := by rw [Re.fst, if_neg (by omega)]
theorem fst_w (r : Re) : r.nodesOk = true → r.wd → W64 r.fst := by
  refine Re.indOk (p := fun r => r.wd → W64 r.fst) ?_ ?_ ?_ ?_ r
  · intro k hk _; rw [fst_leaf k hk]; exact W64.none
  · intro a b c d _ hw; rw [fst_cls]; exact Re.wd_set hw
  · intro k x y hk hx hy ihx ihy hw
    have hw2 : x.wd ∧ y.wd := by rw [Re.wd, Re.wds, Re.wds] at hw; exact ⟨hw.2.1, hw.2.2.1⟩
    rcases hk with rfl | rfl
    · rw [fst_seq]
      split
      · split
        · exact (ihx hw2.1).joinAll2 (ihy hw2.2)
        · exact ihx hw2.1
      · exact W64.none
    · rw [fst_alt]; exact (ihx hw2.1).joinAll2 (ihy hw2.2)
  · intro x hx ih hw
    have hw2 : x.wd := by rw [Re.wd, Re.wds] at hw; exact hw.2.1
    rw [fst_star]; exact ih hw2
/-- Has it this first byte? -/
def Re.hf (n : Nat) (r : Re) : Bool := hasB r.fst n
theorem hf_leaf {n : Nat} (hn : n < 256) {k : Int} (hk : k = 1 ∨ k = 2) : (Re.mk k 0 0 0 0 []).hf n = false := by rw [Re.hf, fst_leaf k hk, hasB_none n hn]
theorem hf_seq {n : Nat} (hn : n < 256) {x y : Re} (hx : W64 x.fst) (hy : W64 y.fst) : (Re.mk 4 0 0 0 0 [x, y]).hf n = (x.fit && y.fit && (x.hf n || (x.nul && y.hf n))) := by
  unfold Re.hf
  rw [fst_seq]
  cases h1 : (x.fit && y.fit) with
  | false => simp [hasB_none n hn]
  | true =>
    cases h2 : x.nul with
    | false => simp
    | true => simp [hasB_joinAll2 hx hy hn]
theorem hf_alt {n : Nat} (hn : n < 256) {x y : Re} (hx : W64 x.fst) (hy : W64 y.fst) : (Re.mk 5 0 0 0 0 [x, y]).hf n = (x.hf n || y.hf n) := by
  unfold Re.hf; rw [fst_alt, hasB_joinAll2 hx hy hn]
theorem hf_star {n : Nat} (x : Re) : (Re.mk 6 0 0 0 0 [x]).hf n = x.hf n := by unfold Re.hf; rw [fst_star]
theorem wd2 {k a b c d : Int} {x y : Re} (hw : (Re.mk k a b c d [x, y]).wd) : x.wd ∧ y.wd := by rw [Re.wd, Re.wds, Re.wds] at hw; exact ⟨hw.2.1, hw.2.2.1⟩
theorem wd1 {k a b c d : Int} {x : Re} (hw : (Re.mk k a b c d [x]).wd) : x.wd := by rw [Re.wd, Re.wds] at hw; exact hw.2.1
theorem hf_fit {n : Nat} (hn : n < 256) (r : Re) : r.nodesOk = true → r.wd → r.hf n = true → r.fit = true := by
  refine Re.indOk (p := fun r => r.wd → r.hf n = true → r.fit = true) ?_ ?_ ?_ ?_ r
  · intro k hk _ h; rw [hf_leaf hn hk] at h; cases h
  · intro a b c d _ _ _; rw [fit_leaf]; simp
  · intro k x y hk hx hy ihx ihy hw h
    obtain ⟨w1, w2⟩ := wd2 hw
    rw [fit_two _ _ _ hk]
    rcases hk with rfl | rfl
    · rw [hf_seq hn (fst_w x hx w1) (fst_w y hy w2)] at h
      simp at h ⊢; exact ⟨h.1.1, h.1.2⟩
    · rw [hf_alt hn (fst_w x hx w1) (fst_w y hy w2)] at h
      simp at h ⊢
      rcases h with h | h
      · exact .inl (ihx w1 h)
      · exact .inr (ihy w2 h)
  · intro x _ _ _ _; exact fit_star x
/-- What counts of an expression. -/
structure Same3 (a : Re) (n f h : Bool) (k : Nat) : Prop where
  n : a.nul = n
  f : a.fit = f
  h : a.hf k = h
theorem kd_one {b : Re} (h : b.nodesOk = true) (hk : b.kd = 1) : b = empR := by
  rcases Re.ok_cases h with ⟨k, _, rfl⟩ | ⟨a, b, c, d, _, rfl⟩ | ⟨k, p, q, hk', rfl, _, _⟩ | ⟨p, rfl, _⟩
  · cases hk; rfl
  · cases hk
  · rcases hk' with rfl | rfl <;> cases hk
  · cases hk
theorem kd_two {b : Re} (h : b.nodesOk = true) (hk : b.kd = 2) : b = epsR := by
  rcases Re.ok_cases h with ⟨k, _, rfl⟩ | ⟨a, b, c, d, _, rfl⟩ | ⟨k, p, q, hk', rfl, _, _⟩ | ⟨p, rfl, _⟩
  · cases hk; rfl
  · cases hk
  · rcases hk' with rfl | rfl <;> cases hk
  · cases hk
theorem emp3 {n : Nat} (hn : n < 256) : Same3 empR false false false n := ⟨by rw [nul_leaf]; rfl, by rw [fit_leaf]; rfl, hf_leaf hn (.inl rfl)⟩
theorem eps3 {n : Nat} (hn : n < 256) : Same3 epsR true true false n := ⟨by rw [nul_leaf]; rfl, by rw [fit_leaf]; rfl, hf_leaf hn (.inr rfl)⟩
theorem seq3 {n : Nat} (hn : n < 256) {x y : Re} (hx : W64 x.fst) (hy : W64 y.fst) : Same3 (.mk 4 0 0 0 0 [x, y]) (x.nul && y.nul) (x.fit && y.fit) (x.fit && y.fit && (x.hf n || (x.nul && y.hf n))) n :=
  ⟨by rw [nul_two _ _ _ (.inl rfl), if_pos rfl], by rw [fit_two _ _ _ (.inl rfl), if_pos rfl], hf_seq hn hx hy⟩
/-- What sq comes to when nothing is done, or one of them is empty, or of the empty text alone. -/
theorem end3 {n : Nat} (hn : n < 256) {a b : Re} (ha : a.nodesOk = true) (wa : a.wd) (hb : b.nodesOk = true) (wb : b.wd) :
    Same3 (if b.kd = 1 then empR else if b.kd = 2 then a else .mk 4 0 0 0 0 [a, b]) (a.nul && b.nul) (a.fit && b.fit) (a.fit && b.fit && (a.hf n || (a.nul && b.hf n))) n := by
  by_cases h1 : b.kd = 1
  · rw [if_pos h1, kd_one hb h1]
    have e := emp3 hn
    rw [e.n, e.f, e.h]
    exact ⟨by rw [e.n]; simp, by rw [e.f]; simp, by rw [e.h]; simp⟩
  rw [if_neg h1]
  by_cases h2 : b.kd = 2
  · rw [if_pos h2, kd_two hb h2]
    have e := eps3 hn
    rw [e.n, e.f, e.h]
    refine ⟨by simp, by simp, ?_⟩
    have := hf_fit hn a ha wa
    cases h : a.hf n with
    | false => simp
    | true => rw [this h]; simp
  · rw [if_neg h2]
    exact seq3 hn (fst_w a ha wa) (fst_w b hb wb)
theorem sq3 {n : Nat} (hn : n < 256) (a : Re) : a.nodesOk = true → a.wd → ∀ b : Re, b.nodesOk = true → b.wd → Same3 (a.sq b) (a.nul && b.nul) (a.fit && b.fit) (a.fit && b.fit && (a.hf n || (a.nul && b.hf n))) n := by
  refine Re.indOk (p := fun a => a.wd → ∀ b : Re, b.nodesOk = true → b.wd → Same3 (a.sq b) (a.nul && b.nul) (a.fit && b.fit) (a.fit && b.fit && (a.hf n || (a.nul && b.hf n))) n) ?_ ?_ ?_ ?_ a
  · intro k hk wa b hb wb
    rw [sq_leaf]
    rcases hk with rfl | rfl
    · rw [if_pos (.inl rfl)]
      have e := emp3 hn
      rw [e.n, e.f, e.h]
      exact ⟨by rw [e.n]; simp, by rw [e.f]; simp, by rw [e.h]; simp⟩
    · have e := eps3 hn
      rw [e.n, e.f, e.h]
      by_cases h1 : b.kd = 1
      · rw [if_pos (.inr h1), kd_one hb h1]
        have e := emp3 hn
        rw [e.n, e.f, e.h]
        exact ⟨by rw [e.n]; simp, by rw [e.f]; simp, by rw [e.h]; simp⟩
      · rw [if_neg (by simp [h1]), if_pos rfl]
        refine ⟨by simp, by simp, ?_⟩
        have := hf_fit hn b hb wb
        cases h : b.hf n with
        | false => simp
        | true => rw [this h]; simp
  · intro a1 a2 a3 a4 hx wa b hb wb
    have := end3 hn (nodesOk_cls hx) wa hb wb
    rw [sq_leaf]
    simpa using this
  · intro k x y hk hx hy ihx ihy wa b hb wb
    obtain ⟨w1, w2⟩ := wd2 wa
    have he := end3 hn (nodesOk_two hk hx hy) wa hb wb
    rw [sq_two _ _ _ _ hk]
    rcases hk with rfl | rfl
    · by_cases h1 : b.kd = 1
      · rw [if_pos h1] at he ⊢; exact he
      by_cases h2 : b.kd = 2
      · rw [if_neg h1, if_pos h2] at he ⊢; exact he
      rw [if_neg h1, if_neg h2, if_pos rfl]
      have q2 := ihy w2 b hb wb
      have q1 := ihx w1 (y.sq b) (sq_ok y hy b hb) (sq_wd y w2 b wb)
      have s := seq3 hn (fst_w x hx w1) (fst_w y hy w2)
      rw [q2.n, q2.f, q2.h] at q1
      rw [s.n, s.f, s.h]
      refine ⟨q1.n.trans ?_, q1.f.trans ?_, q1.h.trans ?_⟩
      · cases x.nul <;> simp
      · cases x.fit <;> simp
      · cases x.fit <;> cases y.fit <;> cases b.fit <;> cases x.nul <;> cases y.nul <;> cases x.hf n <;> simp
    · rw [if_neg (show ¬ (5 : Int) = 4 by omega)]; exact he
  · intro x hx ih wa b hb wb
    rw [sq_star]
    exact end3 hn (nodesOk_star hx) wa hb wb

/-! ### Alts -/
def okw (x : Re) : Prop := x.nodesOk = true ∧ x.wd
theorem fl_any {n : Nat} (hn : n < 256) (x : Re) : x.nodesOk = true → x.wd → x.fl.any Re.nul = x.nul ∧ x.fl.any Re.fit = x.fit ∧ x.fl.any (Re.hf n) = x.hf n := by
  refine Re.indOk (p := fun x => x.wd → x.fl.any Re.nul = x.nul ∧ x.fl.any Re.fit = x.fit ∧ x.fl.any (Re.hf n) = x.hf n) ?_ ?_ ?_ ?_ x
  · intro k hk _
    rcases hk with rfl | rfl
    · rw [fl_one _ _ _ _ _ _ (by simp), if_pos rfl]
      have e := emp3 hn
      rw [e.n, e.f, e.h]; exact ⟨rfl, rfl, rfl⟩
    · rw [fl_self (by simp [Re.kd]) (by simp [Re.kd])]; simp
  · intro a b c d _ _
    rw [fl_self (by simp [Re.kd]) (by simp [Re.kd])]; simp
  · intro k p q hk hp hq ihp ihq hw
    obtain ⟨w1, w2⟩ := wd2 hw
    rcases hk with rfl | rfl
    · rw [fl_self (by simp [Re.kd]) (by simp [Re.kd])]; simp
    · obtain ⟨a1, a2, a3⟩ := ihp w1
      obtain ⟨b1, b2, b3⟩ := ihq w2
      rw [fl_two _ _ _ (.inr rfl), if_pos rfl, List.any_append, List.any_append, List.any_append, a1, a2, a3, b1, b2, b3, nul_two _ _ _ (.inr rfl), fit_two _ _ _ (.inr rfl), hf_alt hn (fst_w p hp w1) (fst_w q hq w2)]
      simp
  · intro p _ _ _
    rw [fl_self (by simp [Re.kd]) (by simp [Re.kd])]; simp
def clsL (l : List Re) : List Re := l.filter fun r => decide (r.kd = 3)
theorem any_part (p : Re → Bool) (l : List Re) : l.any p = ((nocls l).any p || (clsL l).any p) := by
  induction l with
  | nil => rfl
  | cons x l ih =>
    unfold nocls clsL at *
    rw [List.any_cons, ih, List.filter_cons, List.filter_cons]
    by_cases h : x.kd = 3
    · simp [h, Bool.or_left_comm]
    · simp [h, Bool.or_assoc]
theorem cls_shape {x : Re} (h : x.nodesOk = true) (h3 : x.kd = 3) : ∃ a b c d : Int, x = .mk 3 a b c d [] ∧ ¬ (a = 0 ∧ b = 0 ∧ c = 0 ∧ d = 0) := by
  rcases Re.ok_cases h with ⟨k, hk, rfl⟩ | ⟨a, b, c, d, hn, rfl⟩ | ⟨k, p, q, hk', rfl, _, _⟩ | ⟨p, rfl, _⟩
  · rcases hk with rfl | rfl <;> cases h3
  · exact ⟨a, b, c, d, rfl, hn⟩
  · rcases hk' with rfl | rfl <;> cases h3
  · cases h3
theorem cls_any {n : Nat} (hn : n < 256) (l : List Re) (h : ∀ x ∈ l, okw x) : hasB (clsS l) n = (clsL l).any (Re.hf n) := by
  induction l using snocInd with
  | h0 => exact hasB_none n hn
  | h1 l x ih =>
    have hl : ∀ y ∈ l, okw y := fun y hy => h y (by simp [hy])
    have hx := h x (by simp)
    rw [clsS_snoc]
    unfold clsL at *
    rw [List.filter_append, List.any_append, ← ih hl]
    unfold clsStep
    by_cases h3 : x.kd = 3
    · obtain ⟨a, b, c, d, rfl, _⟩ := cls_shape hx.1 h3
      rw [if_pos h3, hasB_joinAll2 (clsS_w l fun y hy => (hl y hy).2) (Re.wd_set hx.2) hn]
      have e : (Re.mk 3 a b c d []).hf n = hasB (Re.mk 3 a b c d []).set n := by rw [Re.hf, fst_cls]; rfl
      rw [← e]
      simp [Re.kd]
    · rw [if_neg h3]; simp [h3]
theorem set_bit {s : List Int} (h : W64 s) (hne : s ≠ noneS) : ∃ n, n < 256 ∧ hasB s n = true := by
  apply Classical.byContradiction
  intro hh
  refine hne (h.ext W64.none fun n hn => ?_)
  rw [hasB_none n hn, Bool.eq_false_iff]
  exact fun e => hh ⟨n, hn, e⟩
theorem cls_some (l : List Re) (h : ∀ x ∈ l, okw x) : clsS l = noneS ↔ clsL l = [] := by
  constructor
  · intro e
    rw [clsL, List.filter_eq_nil_iff]
    intro x hx h3
    have h3' : x.kd = 3 := by simpa using h3
    obtain ⟨a, b, c, d, rfl, hn0⟩ := cls_shape (h x hx).1 h3'
    have hw := Re.wd_set (h _ hx).2
    obtain ⟨n, hn, hb⟩ := set_bit hw (fun hh => hn0 (by have hh' : [a, b, c, d] = [0, 0, 0, 0] := hh; simpa using hh'))
    have := cls_any hn l h
    rw [e, hasB_none n hn] at this
    have hm : (clsL l).any (Re.hf n) = true := List.any_eq_true.2 ⟨_, List.mem_filter.2 ⟨hx, h3⟩, by rw [Re.hf, fst_cls]; exact hb⟩
    rw [hm] at this
    cases this
  · intro e
    refine clsS_none fun x hx h3 => ?_
    have := List.filter_eq_nil_iff.1 e x hx
    simp [h3] at this
theorem gather_any {n : Nat} (hn : n < 256) (l : List Re) (h : ∀ x ∈ l, okw x) : (gather l).any Re.nul = l.any Re.nul ∧ (gather l).any Re.fit = l.any Re.fit ∧ (gather l).any (Re.hf n) = l.any (Re.hf n) := by
  have hc : ∀ x ∈ clsL l, ∃ a b c d : Int, x = .mk 3 a b c d [] := fun x hx => by
    obtain ⟨h1, h2⟩ := List.mem_filter.1 hx
    obtain ⟨a, b, c, d, e, _⟩ := cls_shape (h x h1).1 (by simpa using h2)
    exact ⟨a, b, c, d, e⟩
  have e1 := any_part Re.nul l
  have e2 := any_part Re.fit l
  have e3 := any_part (Re.hf n) l
  have hcls := cls_any hn l h
  have hsome := cls_some l h
  have n1 : (clsL l).any Re.nul = false := by
    rw [List.any_eq_false]
    intro x hx
    obtain ⟨a, b, c, d, rfl⟩ := hc x hx
    rw [nul_leaf]; simp
  unfold gather
  split
  · rename_i hs
    have h0 := hsome.1 hs
    rw [h0] at e1 e2 e3
    rw [e1, e2, e3]
    simp
  · rename_i hs
    obtain ⟨a, b, c, d, ews, ere⟩ := reS_kd (clsS_len l) hs
    have hne : clsL l ≠ [] := fun e => hs (hsome.2 e)
    obtain ⟨z, t, hz⟩ := List.exists_cons_of_ne_nil hne
    have f1 : (clsL l).any Re.fit = true := by
      obtain ⟨a', b', c', d', e⟩ := hc z (by rw [hz]; simp)
      rw [hz, List.any_cons, e, fit_leaf]; simp
    have h1 : (Re.mk 3 a b c d []).hf n = hasB (clsS l) n := by rw [Re.hf, fst_cls, ews]
    rw [ere, e1, e2, e3, n1, f1, ← hcls, List.any_append, List.any_append, List.any_append]
    simp [nul_leaf, fit_leaf, h1]
theorem any_mem {p : Re → Bool} {l m : List Re} (h : ∀ x, x ∈ l ↔ x ∈ m) : l.any p = m.any p := by
  rw [Bool.eq_iff_iff, List.any_eq_true, List.any_eq_true]
  exact ⟨fun ⟨x, hx, hp⟩ => ⟨x, (h x).1 hx, hp⟩, fun ⟨x, hx, hp⟩ => ⟨x, (h x).2 hx, hp⟩⟩
theorem foldL_any {n : Nat} (hn : n < 256) : ∀ (s : List Re), (∀ x ∈ s, okw x) → Same3 (foldL 5 1 s) (s.any Re.nul) (s.any Re.fit) (s.any (Re.hf n)) n ∧ okw (foldL 5 1 s)
  | [], _ => ⟨emp3 hn, nodesOk_bare (.inl rfl), wd_zero 1 (by simp)⟩
  | [x], h => by
    rw [foldL_one]
    exact ⟨⟨by simp, by simp, by simp⟩, h x (by simp)⟩
  | x :: y :: s, h => by
    obtain ⟨i, o⟩ := foldL_any hn (y :: s) fun z hz => h z (List.mem_cons_of_mem _ hz)
    have hx := h x (by simp)
    rw [foldL_two]
    refine ⟨⟨?_, ?_, ?_⟩, nodesOk_two (.inr rfl) hx.1 o.1, wd_zero 5 (by simp [hx.2, o.2])⟩
    · rw [nul_two _ _ _ (.inr rfl), if_neg (by omega), i.n]; rfl
    · rw [fit_two _ _ _ (.inr rfl), if_neg (by omega), i.f]; rfl
    · rw [hf_alt hn (fst_w x hx.1 hx.2) (fst_w _ o.1 o.2), i.h]; rfl
theorem flat_any {n : Nat} (hn : n < 256) (l : List Re) (h : ∀ x ∈ l, okw x) : (l.flatMap Re.fl).any Re.nul = l.any Re.nul ∧ (l.flatMap Re.fl).any Re.fit = l.any Re.fit ∧ (l.flatMap Re.fl).any (Re.hf n) = l.any (Re.hf n) := by
  induction l with
  | nil => exact ⟨rfl, rfl, rfl⟩
  | cons x l ih =>
    obtain ⟨a1, a2, a3⟩ := fl_any hn x (h x (by simp)).1 (h x (by simp)).2
    obtain ⟨b1, b2, b3⟩ := ih fun y hy => h y (by simp [hy])
    rw [List.flatMap_cons, List.any_append, List.any_append, List.any_append, a1, a2, a3, b1, b2, b3]
    exact ⟨rfl, rfl, rfl⟩
theorem altR3 {n : Nat} (hn : n < 256) (l : List Re) (h : ∀ x ∈ l, okw x) : Same3 (altR l) (l.any Re.nul) (l.any Re.fit) (l.any (Re.hf n)) n := by
  have hF : ∀ x ∈ l.flatMap Re.fl, okw x := by
    intro x hx
    obtain ⟨y, hy, hf⟩ := flatMap_fl hx
    exact ⟨fl_ok y (h y hy).1 x hf, fl_wd y (h y hy).2 x hf⟩
  have hG : ∀ x ∈ gather (l.flatMap Re.fl), okw x := by
    intro x hx
    rcases gather_mem hx with h1 | rfl
    · exact hF x h1
    · exact ⟨reS_ok (clsS_len _), reS_wd (clsS_w _ fun y hy => (hF y hy).2)⟩
  have hmem : ∀ x, x ∈ onceR (sortR (gather (l.flatMap Re.fl))) ↔ x ∈ gather (l.flatMap Re.fl) := fun x => onceR_mem.trans (sortR_perm _).mem_iff
  obtain ⟨i, _⟩ := foldL_any hn (onceR (sortR (gather (l.flatMap Re.fl)))) fun x hx => hG x ((hmem x).1 hx)
  obtain ⟨g1, g2, g3⟩ := gather_any hn _ hF
  have fa := flat_any hn l h
  refine ⟨i.n.trans ((any_mem hmem).trans (g1.trans fa.1)), i.f.trans ((any_mem hmem).trans (g2.trans fa.2.1)), i.h.trans ((any_mem hmem).trans (g3.trans fa.2.2))⟩
theorem starR3 {n : Nat} (hn : n < 256) (x : Re) (hx : okw x) : Same3 (starR x) true true (x.hf n) n := by
  unfold starR
  split
  · rename_i h
    have e := eps3 hn
    refine ⟨e.n, e.f, ?_⟩
    rcases h with h | h
    · rw [kd_one hx.1 h, (emp3 hn).h, e.h]
    · rw [kd_two hx.1 h]
  split
  · rename_i h6
    rcases Re.ok_cases hx.1 with ⟨k, hk, rfl⟩ | ⟨a, b, c, d, hn, rfl⟩ | ⟨k, p, q, hk', rfl, _, _⟩ | ⟨p, rfl, _⟩
    · rcases hk with rfl | rfl <;> cases h6
    · cases h6
    · rcases hk' with rfl | rfl <;> cases h6
    · exact ⟨nul_star p, fit_star p, rfl⟩
  · exact ⟨nul_star x, fit_star x, hf_star x⟩
theorem nrm3 {n : Nat} (hn : n < 256) (r : Re) : r.nodesOk = true → r.wd → Same3 r.nrm r.nul r.fit (r.hf n) n := by
  refine Re.indOk (p := fun r => r.wd → Same3 r.nrm r.nul r.fit (r.hf n) n) ?_ ?_ ?_ ?_ r
  · intro k _ _; rw [nrm_leaf]; exact ⟨rfl, rfl, rfl⟩
  · intro a b c d _ _; rw [nrm_leaf]; exact ⟨rfl, rfl, rfl⟩
  · intro k x y hk hx hy ihx ihy hw
    obtain ⟨w1, w2⟩ := wd2 hw
    have i1 := ihx w1
    have i2 := ihy w2
    have o1 : okw x.nrm := ⟨nrm_ok x hx, nrm_wd x hx w1⟩
    have o2 : okw y.nrm := ⟨nrm_ok y hy, nrm_wd y hy w2⟩
    rw [nrm_two k x y hk]
    rcases hk with rfl | rfl
    · rw [if_pos rfl]
      have s := sq3 hn x.nrm o1.1 o1.2 y.nrm o2.1 o2.2
      have e := seq3 hn (fst_w x hx w1) (fst_w y hy w2)
      rw [i1.n, i1.f, i1.h, i2.n, i2.f, i2.h] at s
      rw [e.n, e.f, e.h]; exact s
    · rw [if_neg (by omega)]
      have s := altR3 hn [x.nrm, y.nrm] (by simp [o1, o2])
      simp only [List.any_cons, List.any_nil, Bool.or_false] at s
      rw [i1.n, i1.f, i1.h, i2.n, i2.f, i2.h] at s
      rw [nul_two _ _ _ (.inr rfl), fit_two _ _ _ (.inr rfl), hf_alt hn (fst_w x hx w1) (fst_w y hy w2), if_neg (by omega), if_neg (by omega)]
      exact s
  · intro x hx ih hw
    have w1 := wd1 hw
    have i1 := ih w1
    have s := starR3 hn x.nrm ⟨nrm_ok x hx, nrm_wd x hx w1⟩
    rw [i1.h] at s
    rw [nrm_star, nul_star, fit_star, hf_star]; exact s
theorem nrm_nul (r : Re) (h : r.nodesOk = true) (hw : r.wd) : r.nrm.nul = r.nul := (nrm3 (n := 0) (by omega) r h hw).n
theorem nrm_fit (r : Re) (h : r.nodesOk = true) (hw : r.wd) : r.nrm.fit = r.fit := (nrm3 (n := 0) (by omega) r h hw).f
theorem nrm_fst (r : Re) (h : r.nodesOk = true) (hw : r.wd) : r.nrm.fst = r.fst :=
  (fst_w _ (nrm_ok r h) (nrm_wd r h hw)).ext (fst_w r h hw) fun n hn => (nrm3 hn r h hw).h
/-- A normal form that fits nothing is the empty one. -/
theorem N_fit (r : Re) : r.nodesOk = true → r.N → (r.fit = false ↔ r.kd = 1) := by
  refine Re.indOk (p := fun r => r.N → (r.fit = false ↔ r.kd = 1)) ?_ ?_ ?_ ?_ r
  · intro k hk _; rw [fit_leaf]; rcases hk with rfl | rfl <;> simp [Re.kd]
  · intro a b c d _ _; rw [fit_leaf]; simp [Re.kd]
  · intro k x y hk hx hy ihx ihy hN
    rw [fit_two _ _ _ hk]
    rcases hk with rfl | rfl
    · rw [N_seq] at hN
      obtain ⟨nx, ny, x1, x2, x4, y1, y2⟩ := hN
      have f1 : x.fit = true := by rw [← Bool.not_eq_false]; exact fun h => x1 ((ihx nx).1 h)
      have f2 : y.fit = true := by rw [← Bool.not_eq_false]; exact fun h => y1 ((ihy ny).1 h)
      simp [f1, f2, Re.kd]
    · rw [N_alt] at hN
      obtain ⟨nx, ny, x1, x5, y1, _⟩ := hN
      have f1 : x.fit = true := by rw [← Bool.not_eq_false]; exact fun h => x1 ((ihx nx).1 h)
      simp [f1, Re.kd]
  · intro x _ _ _; rw [fit_star]; simp [Re.kd]
end Go.Proofs.Ytfpfcokhnddddaa.AWP
