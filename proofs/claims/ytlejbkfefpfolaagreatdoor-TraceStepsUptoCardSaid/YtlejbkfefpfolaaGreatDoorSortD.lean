/- Two rows in order, one behind the other, are merged in place: all of them. -/
import Derived.Test.YtlejbkfefpfolaaGreatDoorSortA
set_option linter.unusedVariables false
set_option linter.unusedSimpArgs false
set_option linter.unusedSectionVars false
set_option maxRecDepth 100000
namespace Go.Proofs.YtlejbkfefpfolaaGreatDoor.W
open Go Go.Proofs Go.Proofs.YtlejbkfefpfolaaGreatDoor.AWP
theorem gBk {P A B Q : List Re} {k : Nat} {y : Re} (h : B[k]? = some y) : (P ++ (A ++ (B ++ Q)))[P.length + A.length + k]? = some y := by
 have := gSeg (P := P ++ A) (R := Q) h
 simpa using this
theorem one_eq {α : Type} {l : List α} (h : l.length = 1) : ∃ x, l = [x] := by
 match l, h with
 | [x], _ => exact ⟨x, rfl⟩
set_option maxHeartbeats 4000000 in
theorem symM : ∀ (n : Nat) (P A B Q : List Re), A.length + B.length ≤ n → A ≠ [] → B ≠ [] → Sorted A → Sorted B → (P ++ (A ++ (B ++ Q))).length ≤ 1000000 →
  AC Tryz.prog 145 [.own 0, .i P.length, .i (P.length + A.length : Nat), .i (P.length + A.length + B.length : Nat), .fn 115 []] [reOb (P ++ (A ++ (B ++ Q)))] (fun o om' => o = .ret (.tup []) ∧ om' = [reOb (P ++ (sortR (A ++ B) ++ Q))]) := by
 intro n
 induction n with
 | zero => intro P A B Q h hA; have := List.length_pos_iff.2 hA; omega
 | succ n ih =>
 intro P A B Q hn hA0 hB0 hA hB hl
 have lA := List.length_pos_iff.2 hA0
 have lB := List.length_pos_iff.2 hB0
 by_cases hA1 : A.length = 1
 ·obtain ⟨x, rfl⟩ := one_eq hA1
  exact symOne P x B Q hB hl
 by_cases hB1 : B.length = 1
 ·obtain ⟨x, rfl⟩ := one_eq hB1
  exact symLast P A x Q hA hA1 hl
 simp only [List.length_append] at hl
 obtain ⟨M, hM⟩ : ∃ M, M = (P.length + (P.length + A.length + B.length)) / 2 := ⟨_, rfl⟩
 obtain ⟨N, hN⟩ : ∃ N, N = M + (P.length + A.length) := ⟨_, rfl⟩
 obtain ⟨lo, hi, F0, F1, F2, F3, F4, F5, F6, F7⟩ : ∃ lo hi : Nat, ((M < P.length + A.length → lo + (P.length + A.length + B.length) = N ∧ hi = M) ∧ (¬ M < P.length + A.length → lo = P.length ∧ hi = P.length + A.length)) ∧
   P.length ≤ lo ∧ hi ≤ P.length + A.length ∧ hi ≤ M ∧ N ≤ lo + (P.length + A.length + B.length) ∧ lo ≤ hi ∧ (lo = P.length ∨ N = lo + (P.length + A.length + B.length)) ∧ (hi = P.length + A.length ∨ hi = M) := by
  by_cases h : M < P.length + A.length
  ·exact ⟨N - (P.length + A.length + B.length), M, ⟨fun _ => ⟨by omega, rfl⟩, fun h' => absurd h h'⟩, by omega, by omega, by omega, by omega, by omega, by omega, by omega⟩
  ·exact ⟨P.length, P.length + A.length, ⟨fun h' => absurd h' h, fun _ => ⟨rfl, rfl⟩⟩, by omega, by omega, by omega, by omega, by omega, by omega, by omega⟩
 have e0 : IntKind.i64.wrap (((P.length + A.length : Nat) : Int) - (P.length : Int)) = (A.length : Int) := by
  rw [wrap_int _ (by omega) (by omega)]; omega
 have e0' : ((A.length : Int) == 1) = false := beq_false (by omega)
 have e1 : IntKind.i64.wrap (((P.length + A.length + B.length : Nat) : Int) - ((P.length + A.length : Nat) : Int)) = (B.length : Int) := by
  rw [wrap_int _ (by omega) (by omega)]; omega
 have e1' : ((B.length : Int) == 1) = false := beq_false (by omega)
 have em := midW P.length (P.length + A.length + B.length) (by omega)
 rw [← hM] at em
 have eN : IntKind.i64.wrap ((M : Int) + ((P.length + A.length : Nat) : Int)) = (N : Int) := by
  rw [wrap_int _ (by omega) (by omega)]; omega
 have eN1 : IntKind.i64.wrap ((N : Int) - 1) = ((N - 1 : Nat) : Int) := by
  rw [wrap_int _ (by omega) (by omega)]; omega
 have elo : M < P.length + A.length → IntKind.i64.wrap ((N : Int) - ((P.length + A.length + B.length : Nat) : Int)) = (lo : Int) := by
  intro h
  have := (F0.1 h).1
  rw [wrap_int _ (by omega) (by omega)]; omega
 refine AC.lbody hT hm Tryz.func145 f145_nm f145_lc f145_res f145_nt ?_
 simp only [go_sem, Int.reduceEq, Int.reduceLE, Int.reduceLT, Int.reduceToNat, List.length_singleton, e0, e0', e1, e1', em, eN]
 by_cases hgt : M < P.length + A.length
 case' pos =>
  have elo' := elo hgt
  obtain ⟨G1, G2⟩ := F0.1 hgt
  simp only [go_sem, Int.reduceEq, Int.reduceLE, Int.reduceLT, Int.reduceToNat, hgt, elo', eN1]
 case' neg =>
  obtain ⟨G1, G2⟩ := F0.2 hgt
  simp only [go_sem, Int.reduceEq, Int.reduceLE, Int.reduceLT, Int.reduceToNat, hgt, eN1]
 all_goals
  refine xl_loopM hT hm (fun s : Nat × Nat => ⟨f145_i42 (.own 0) (.i P.length) (.i (P.length + A.length : Nat)) (.i (P.length + A.length + B.length : Nat)) (.fn 115 []) (.i M) (.i N) (.i s.1) (.i s.2) (.i (N - 1 : Nat)), [reOb (P ++ (A ++ (B ++ Q)))]⟩)
   (fun s => lo ≤ s.1 ∧ s.1 ≤ s.2 ∧ s.2 ≤ hi ∧ (∀ x y, lo < s.1 → A[s.1 - 1 - P.length]? = some x → B[N - s.1 - (P.length + A.length)]? = some y → x.le y) ∧ (∀ x y, s.2 < hi → B[N - 1 - s.2 - (P.length + A.length)]? = some y → A[s.2 - P.length]? = some x → y.le x))
   (fun s => s.2 - s.1) (lo, hi) ⟨Nat.le_refl _, F5, Nat.le_refl _, fun x y h => absurd h (Nat.lt_irrefl _), fun x y h => absurd h (Nat.lt_irrefl _)⟩ ?_ ?_
  ·exact Mv.of [some 0] rfl mv_re (by simp [f145_i42, G1, G2])
  rintro ⟨s, r⟩ ⟨i1, i2, i3, i4, i5⟩
  simp only at i1 i2 i3 i4 i5
  simp only [go_sem, Int.reduceEq, Int.reduceLE, Int.reduceLT, Int.reduceToNat]
  by_cases hsr : s < r
  case pos =>
   have ec := midW s r (by omega)
   obtain ⟨c, hc⟩ : ∃ c, c = (s + r) / 2 := ⟨_, rfl⟩
   rw [← hc] at ec
   have ep : IntKind.i64.wrap (((N - 1 : Nat) : Int) - (c : Int)) = ((N - 1 - c : Nat) : Int) := by
    rw [wrap_int _ (by omega) (by omega)]; omega
   obtain ⟨x, hx⟩ := get_ex (l := A) (i := c - P.length) (by omega)
   obtain ⟨y, hy⟩ := get_ex (l := B) (i := N - 1 - c - (P.length + A.length)) (by omega)
   have gx := gSeg (P := P) (R := B ++ Q) hx
   rw [show P.length + (c - P.length) = c by omega] at gx
   have gy := gBk (P := P) (A := A) (Q := Q) hy
   rw [show P.length + A.length + (N - 1 - c - (P.length + A.length)) = N - 1 - c by omega] at gy
   simp only [go_sem, Int.reduceEq, Int.reduceLE, Int.reduceLT, Int.reduceToNat, hsr, ec, ep, gx, gy]
   refine (two y x).pv ⟨.same (Re.d_bl _), .same (Re.d_bl _), trivial⟩ ?_
   simp only [go_sem, Int.reduceEq, Int.reduceLE, Int.reduceLT, Int.reduceToNat]
   by_cases hlt : y.cmp x < 0
   ·simp only [go_sem, Int.reduceEq, Int.reduceLE, Int.reduceLT, Int.reduceToNat, hlt, ec, Bool.not_true]
    refine ⟨(s, c), ⟨i1, show s ≤ c by omega, show c ≤ hi by omega, i4, fun x' y' _ h1 h2 => ?_⟩, show c - s < r - s by omega, Mv.of [some 0] rfl mv_re (by simp)⟩
    have h1' : B[N - 1 - c - (P.length + A.length)]? = some y' := h1
    have h2' : A[c - P.length]? = some x' := h2
    rw [hx] at h2'
    rw [hy] at h1'
    cases h1'
    cases h2'
    exact Re.lt_le hlt
   ·simp only [go_sem, Int.reduceEq, Int.reduceLE, Int.reduceLT, Int.reduceToNat, hlt, ec, Bool.not_false]
    rw [wrap_succ _ (by omega)]
    refine ⟨(c + 1, r), ⟨show lo ≤ c + 1 by omega, show c + 1 ≤ r by omega, i3, fun x' y' _ h1 h2 => ?_, i5⟩, show r - (c + 1) < r - s by omega, Mv.of [some 0] rfl mv_re (by simp <;> rfl)⟩
    have h1' : A[c - P.length]? = some x' := h1
    have h2' : B[N - (c + 1) - (P.length + A.length)]? = some y' := h2
    rw [show N - (c + 1) - (P.length + A.length) = N - 1 - c - (P.length + A.length) by omega, hy] at h2'
    rw [hx] at h1'
    cases h1'
    cases h2'
    exact Re.not_lt.1 hlt
  case neg =>
   obtain rfl : s = r := by omega
   have hss : ¬ s < s := Nat.lt_irrefl _
   obtain ⟨E, hE⟩ : ∃ E, E = N - s := ⟨_, rfl⟩
   have eE : IntKind.i64.wrap ((N : Int) - (s : Int)) = (E : Int) := by
    rw [wrap_int _ (by omega) (by omega)]; omega
   have eA : A = A.take (s - P.length) ++ A.drop (s - P.length) := (List.take_append_drop _ _).symm
   have eB : B = B.take (E - (P.length + A.length)) ++ B.drop (E - (P.length + A.length)) := (List.take_append_drop _ _).symm
   have g1 : ∀ x, (A.take (s - P.length))[(A.take (s - P.length)).length - 1]? = some x → P.length < s ∧ A[s - 1 - P.length]? = some x := fun x h => by
    rw [List.length_take, Nat.min_eq_left (by omega), List.getElem?_take] at h
    split at h
    ·rename_i h0; exact ⟨by omega, by rw [← h]; congr 1; omega⟩
    ·cases h
   have g2 : ∀ y, (B.drop (E - (P.length + A.length)))[0]? = some y → E < P.length + A.length + B.length ∧ B[N - s - (P.length + A.length)]? = some y := fun y h => by
    rw [List.getElem?_drop] at h
    have := (List.getElem?_eq_some_iff.1 h).1
    exact ⟨by omega, by rw [← h]; congr 1; omega⟩
   have g3 : ∀ x, (B.take (E - (P.length + A.length)))[(B.take (E - (P.length + A.length))).length - 1]? = some x → P.length + A.length < E ∧ B[N - 1 - s - (P.length + A.length)]? = some x := fun x h => by
    rw [List.length_take, Nat.min_eq_left (by omega), List.getElem?_take] at h
    split at h
    ·rename_i h0; exact ⟨by omega, by rw [← h]; congr 1; omega⟩
    ·cases h
   have g4 : ∀ y, (A.drop (s - P.length))[0]? = some y → s < P.length + A.length ∧ A[s - P.length]? = some y := fun y h => by
    rw [List.getElem?_drop] at h
    have := (List.getElem?_eq_some_iff.1 h).1
    exact ⟨by omega, by rw [← h]; congr 1⟩
   have lA1 : (A.take (s - P.length)).length = s - P.length := by simp; omega
   have lA2 : (A.drop (s - P.length)).length = P.length + A.length - s := by simp; omega
   have lB1 : (B.take (E - (P.length + A.length))).length = E - (P.length + A.length) := by simp; omega
   have lB2 : (B.drop (E - (P.length + A.length))).length = P.length + A.length + B.length - E := by simp; omega
   generalize A.take (s - P.length) = A1 at eA g1 lA1
   generalize A.drop (s - P.length) = A2 at eA g4 lA2
   generalize B.take (E - (P.length + A.length)) = B1 at eB g3 lB1
   generalize B.drop (E - (P.length + A.length)) = B2 at eB g2 lB2
   have hA' := hA
   have hB' := hB
   rw [eA] at hA'
   rw [eB] at hB'
   have hle := cut_le hA' hB' (fun x y h1 h2 => by
    obtain ⟨q1, q2⟩ := g1 x h1
    obtain ⟨q3, q4⟩ := g2 y h2
    exact i4 x y (by omega) q2 q4) (fun x y h1 h2 => by
    obtain ⟨q1, q2⟩ := g3 x h1
    obtain ⟨q3, q4⟩ := g4 y h2
    exact i5 y x (by omega) q2 q4)
   have hcut := sort_cut hle
   rw [← eA, ← eB] at hcut
   obtain ⟨sA1, sA2, _⟩ := sorted_app.1 hA'
   obtain ⟨sB1, sB2, _⟩ := sorted_app.1 hB'
   have eL : P ++ (A ++ (B ++ Q)) = P ++ (A1 ++ (A2 ++ (B1 ++ (B2 ++ Q)))) := by
    conv => lhs; rw [eA, eB]
    simp
   have rot := rotate (P ++ A1) A2 B1 (B2 ++ Q)
   have c2 := ih P A1 B1 (A2 ++ (B2 ++ Q)) (by omega)
   have c3 := ih (P ++ sortR (A1 ++ B1)) A2 B2 Q (by omega)
   have lS := sortR_len (A1 ++ B1)
   simp only [List.length_append, List.append_assoc] at rot c2 c3 lS
   rw [show P.length + A1.length = s by omega, show s + A2.length = P.length + A.length by omega, show P.length + A.length + B1.length = E by omega] at rot
   rw [show P.length + A1.length = s by omega, show s + B1.length = M by omega] at c2
   rw [lS, show P.length + (A1.length + B1.length) = M by omega, show M + A2.length = E by omega, show E + B2.length = P.length + A.length + B.length by omega] at c3
   have mE : M < E ↔ A2 ≠ [] := by rw [← List.length_pos_iff]; omega
   have fin : P ++ (sortR (A1 ++ B1) ++ (sortR (A2 ++ B2) ++ Q)) = P ++ (sortR (A ++ B) ++ Q) := by rw [← hcut]; simp
   have neL : ∀ {l : List Re}, 0 < l.length → l ≠ [] := fun h => List.length_pos_iff.1 h
   have niL : ∀ {l : List Re}, ¬ 0 < l.length → l = [] := fun h => List.eq_nil_of_length_eq_zero (by omega)
   simp only [go_sem, Int.reduceEq, Int.reduceLE, Int.reduceLT, Int.reduceToNat, hss, eE]
   rw [eL]
   by_cases h1 : s < P.length + A.length
   case' pos =>
    rcases Nat.lt_or_ge (P.length + A.length) (E) with h2 | h2g
    case' inl =>
     simp only [go_sem, Int.reduceEq, Int.reduceLE, Int.reduceLT, Int.reduceToNat, h1, h2]
     refine ⟨_, rot (neL (by omega)) (neL (by omega)) (by omega), ?_⟩
     rintro _ _ ⟨rfl, rfl⟩
     simp only [go_sem, Int.reduceEq, Int.reduceLE, Int.reduceLT, Int.reduceToNat]
    case' inr =>
     have h2 : ¬ P.length + A.length < E := Nat.not_lt.2 h2g
     have hb : B1 = [] := niL (by omega)
     have eq2 : P ++ (A1 ++ (A2 ++ (B1 ++ (B2 ++ Q)))) = P ++ (A1 ++ (B1 ++ (A2 ++ (B2 ++ Q)))) := by rw [hb]; simp
     simp only [go_sem, Int.reduceEq, Int.reduceLE, Int.reduceLT, Int.reduceToNat, h1, h2]
     rw [eq2]
   case' neg =>
    have hb : A2 = [] := niL (by omega)
    have eq2 : P ++ (A1 ++ (A2 ++ (B1 ++ (B2 ++ Q)))) = P ++ (A1 ++ (B1 ++ (A2 ++ (B2 ++ Q)))) := by rw [hb]; simp
    simp only [go_sem, Int.reduceEq, Int.reduceLE, Int.reduceLT, Int.reduceToNat, h1]
    rw [eq2]
   all_goals
    by_cases h3 : P.length < s
    case' pos =>
     rcases Nat.lt_or_ge (s) (M) with h4 | h4g
     case' inl =>
      simp only [go_sem, Int.reduceEq, Int.reduceLE, Int.reduceLT, Int.reduceToNat, h3, h4]
      refine ⟨_, c2 (neL (by omega)) (neL (by omega)) sA1 sB1 (by omega), ?_⟩
      rintro _ _ ⟨rfl, rfl⟩
      simp only [go_sem, Int.reduceEq, Int.reduceLE, Int.reduceLT, Int.reduceToNat]
     case' inr =>
      have h4 : ¬ s < M := Nat.not_lt.2 h4g
      have eS : A1 ++ B1 = sortR (A1 ++ B1) := by
       have : B1 = [] := niL (by omega)
       rw [this, List.append_nil, sortR_self sA1]
      simp only [go_sem, Int.reduceEq, Int.reduceLE, Int.reduceLT, Int.reduceToNat, h3, h4]
      rw [← List.append_assoc A1, eS]
    case' neg =>
     have eS : A1 ++ B1 = sortR (A1 ++ B1) := by
      have : A1 = [] := niL (by omega)
      rw [this, List.nil_append, sortR_self sB1]
     simp only [go_sem, Int.reduceEq, Int.reduceLE, Int.reduceLT, Int.reduceToNat, h3]
     rw [← List.append_assoc A1, eS]
    all_goals
     by_cases h5 : M < E
     case' pos =>
      rcases Nat.lt_or_ge (E) (P.length + A.length + B.length) with h6 | h6g
      case' inl =>
       simp only [go_sem, Int.reduceEq, Int.reduceLE, Int.reduceLT, Int.reduceToNat, h5, h6]
       refine ⟨_, c3 (neL (by omega)) (neL (by omega)) sA2 sB2 (by omega), ?_⟩
       rintro _ _ ⟨rfl, rfl⟩
       simp only [go_sem, Int.reduceEq, Int.reduceLE, Int.reduceLT, Int.reduceToNat]
      case' inr =>
       have h6 : ¬ E < P.length + A.length + B.length := Nat.not_lt.2 h6g
       have eS2 : A2 ++ B2 = sortR (A2 ++ B2) := by
        have : B2 = [] := niL (by omega)
        rw [this, List.append_nil, sortR_self sA2]
       have eq3 : P ++ (sortR (A1 ++ B1) ++ (A2 ++ (B2 ++ Q))) = P ++ (sortR (A1 ++ B1) ++ (sortR (A2 ++ B2) ++ Q)) := by rw [← eS2]; simp
       simp only [go_sem, Int.reduceEq, Int.reduceLE, Int.reduceLT, Int.reduceToNat, h5, h6]
       rw [eq3]
     case' neg =>
      have eS2 : A2 ++ B2 = sortR (A2 ++ B2) := by
       have : A2 = [] := niL (by omega)
       rw [this, List.nil_append, sortR_self sB2]
      have eq3 : P ++ (sortR (A1 ++ B1) ++ (A2 ++ (B2 ++ Q))) = P ++ (sortR (A1 ++ B1) ++ (sortR (A2 ++ B2) ++ Q)) := by rw [← eS2]; simp
      simp only [go_sem, Int.reduceEq, Int.reduceLE, Int.reduceLT, Int.reduceToNat, h5]
      rw [eq3]
     all_goals
      rw [fin]
      exact Fin.mv [some 0] rfl mv_re (by simp) ⟨rfl, rfl⟩
end Go.Proofs.YtlejbkfefpfolaaGreatDoor.W
