/- The document's sorting; the first one in order. -/
import Derived.Test.YtlejbkfefpfolaaGreatDoorSortD
set_option linter.unusedVariables false
set_option linter.unusedSimpArgs false
set_option linter.unusedSectionVars false
set_option maxRecDepth 100000
namespace Go.Proofs.YtlejbkfefpfolaaGreatDoor.W
open Go Go.Proofs Go.Proofs.YtlejbkfefpfolaaGreatDoor.AWP
theorem isortS (P l Q : List Re) (hl : (P ++ (l ++ Q)).length ≤ 1000000) :
  AC Tryz.prog 144 [.own 0, .i P.length, .i (P.length + l.length : Nat), .fn 115 []] [reOb (P ++ (l ++ Q))] (fun o om' => o = .ret (.tup []) ∧ om' = [reOb (P ++ (sortR l ++ Q))]) := by
 simp only [List.length_append] at hl
 refine AC.lbody hT hm Tryz.func144 f144_nm f144_lc f144_res f144_nt ?_
 simp only [go_sem, List.length_singleton]
 rw [wrap_succ _ (by omega)]
 refine xl_loopM hT hm (fun i : Nat => ⟨f144_i8 (.own 0) (.i P.length) (.i (P.length + l.length : Nat)) (.fn 115 []) (.i (P.length + (i + 1) : Nat)), [reOb (P ++ (sortR (l.take (i + 1)) ++ (l.drop (i + 1) ++ Q)))]⟩)
  (fun i => True) (fun i => l.length - i) 0 trivial ?_ ?_
 ·have e : sortR (l.take 1) ++ (l.drop 1 ++ Q) = l ++ Q := by
   cases l with
   | nil => rfl
   | cons x l => simp [sortR, insR]
  try dsimp only
  rw [e]
  exact Mv.of [some 0] rfl mv_re (by simp [f144_i8])
 rintro i _
 simp only [go_sem]
 by_cases hi : i + 1 < l.length
 case neg =>
  have hi' : ¬ P.length + (i + 1) < P.length + l.length := by omega
  simp only [go_sem, hi']
  rw [List.take_of_length_le (by omega), List.drop_of_length_le (by omega), List.nil_append]
  exact Fin.mv [some 0] rfl mv_re (by simp) ⟨rfl, rfl⟩
 obtain ⟨x, hx⟩ := get_ex hi
 have hi' : P.length + (i + 1) < P.length + l.length := by omega
 simp only [go_sem, hi']
 have hS := sortR_sorted (l.take (i + 1))
 have hSl : (sortR (l.take (i + 1))).length = i + 1 := by rw [sortR_len]; simp; omega
 generalize hSg : sortR (l.take (i + 1)) = S at hS hSl
 refine xl_loopM hT hm (fun j : List Re × List Re => ⟨f144_i6 (.own 0) (.i P.length) (.i (P.length + l.length : Nat)) (.fn 115 []) (.i (P.length + (i + 1) : Nat)) (.i (P.length + j.1.length : Nat)), [reOb (P ++ (j.1 ++ x :: (j.2 ++ (l.drop (i + 1 + 1) ++ Q))))]⟩)
  (fun j => j.1 ++ j.2 = S ∧ ∀ y ∈ j.2.head?, x.cmp y < 0) (fun j => j.1.length) (S, []) ⟨by simp, by simp⟩ ?_ ?_
 ·rw [drop_get hx]
  exact Mv.of [some 0] rfl mv_re (by simp [f144_i6, hSl])
 rintro ⟨A, B⟩ ⟨hAB, hB⟩
 simp only at hAB hB
 have hA : A = [] ∨ ∃ A' y, A = A' ++ [y] := by
  rcases List.eq_nil_or_concat A with h | ⟨A', y, h⟩
  ·exact .inl h
  ·exact .inr ⟨A', y, by rw [h, List.concat_eq_append]⟩
 have e : IntKind.i64.wrap (((P.length + (i + 1) : Nat) : Int) + 1) = ((P.length + (i + 1 + 1) : Nat) : Int) := wrap_succ (P.length + (i + 1)) (by omega)
 rcases hA with rfl | ⟨A, y, rfl⟩
 ·have h0 : ¬ P.length < P.length := Nat.lt_irrefl _
  have e2 : sortR (l.take (i + 1 + 1)) = x :: B := by
   rw [sortR_take hx, hSg, ← hAB]
   exact insR_split (p := []) (by simp) hB
  simp only [go_sem, List.length_nil, h0]
  rw [e]
  refine ⟨i + 1, by omega, ?_⟩
  rw [e2]
  exact Mv.of [some 0] rfl mv_re (by simp)
 have hAl : A.length + 1 + B.length = i + 1 := by rw [← hSl, ← hAB]; simp; try omega
 obtain ⟨C, hC⟩ : ∃ C, C = P ++ A := ⟨_, rfl⟩
 have hCl : C.length = P.length + A.length := by rw [hC]; simp
 obtain ⟨R, hR⟩ : ∃ R, R = B ++ (l.drop (i + 1 + 1) ++ Q) := ⟨_, rfl⟩
 have hL : P ++ (A ++ [y] ++ x :: (B ++ (l.drop (i + 1 + 1) ++ Q))) = C ++ y :: (x :: R) := by rw [hC, hR]; simp
 have hL2 : P ++ (A ++ x :: (y :: B ++ (l.drop (i + 1 + 1) ++ Q))) = C ++ x :: (y :: R) := by rw [hC, hR]; simp
 have hpos : P.length < C.length + 1 := by omega
 have w2 : IntKind.i64.wrap (((C.length + 1 : Nat) : Int) - 1) = ((C.length : Nat) : Int) := by
  rw [wrap_int _ (by omega) (by omega)]; omega
 have p1 := pA C y [] x R
 have p2 := pB C y [] x R
 have p3 := pA C y [] y R
 have q1 := putB 27 C y [] x R y
 have q2 := putA 27 C y (y :: R) x
 simp only [List.nil_append, List.length_nil, Nat.add_zero] at p1 p2 p3 q1 q2
 try dsimp only
 rw [hL, show P.length + (A ++ [y]).length = C.length + 1 by simp; omega]
 simp only [go_sem, hpos, w2, p1, p2]
 refine (two x y).pv ⟨.same (Re.d_bl _), .same (Re.d_bl _), trivial⟩ ?_
 simp only [go_sem]
 by_cases hc : x.cmp y < 0
 case neg =>
  have e2 : sortR (l.take (i + 1 + 1)) ++ (l.drop (i + 1 + 1) ++ Q) = A ++ [y] ++ x :: R := by
   rw [sortR_take hx, hSg, ← hAB, insR_split ?_ hB, hR]
   ·simp
   ·intro z hz
    rw [Re.not_lt]
    have hyx : y.le x := Re.not_lt.1 hc
    rcases List.mem_append.1 hz with hz | hz
    ·rw [← hAB, List.append_assoc] at hS
     exact Re.le_trans ((List.pairwise_append.1 hS).2.2 z hz y (by simp)) hyx
    ·rw [List.mem_singleton.1 hz]; exact hyx
  have e3 : C ++ y :: (x :: R) = P ++ (sortR (l.take (i + 1 + 1)) ++ (l.drop (i + 1 + 1) ++ Q)) := by rw [e2, hC]; simp
  simp only [go_sem, hc]
  rw [e, e3]
  refine ⟨i + 1, by omega, ?_⟩
  exact Mv.of [some 0] rfl mv_re (by simp)
 simp only [go_sem, hc, w2, p1, p2, p3, q1, q2]
 refine ⟨(A, y :: B), ⟨by simpa using hAB, by simpa using hc⟩, by simp, ?_⟩
 try dsimp only
 rw [hL2, show P.length + A.length = C.length by omega]
 exact Mv.of [some 0] rfl mv_re (by simp)
end Go.Proofs.YtlejbkfefpfolaaGreatDoor.W
set_option maxRecDepth 100000
namespace Go.Proofs.YtlejbkfefpfolaaGreatDoor.W
open Go Go.Proofs Go.Proofs.YtlejbkfefpfolaaGreatDoor.AWP
def Chunks (bs : Nat) (cs : List (List Re)) : Prop := ∀ c ∈ cs, c.length = bs ∧ Sorted c
theorem Chunks.nil {bs : Nat} : Chunks bs [] := fun c h => by cases h
theorem Chunks.snoc {bs : Nat} {cs : List (List Re)} {c : List Re} (h : Chunks bs cs) (hl : c.length = bs) (hs : Sorted c) : Chunks bs (cs ++ [c]) := fun x hx => by
 rcases List.mem_append.1 hx with hx | hx
 ·exact h x hx
 ·rw [List.mem_singleton.1 hx]; exact ⟨hl, hs⟩
theorem Chunks.cons {bs : Nat} {cs : List (List Re)} {c : List Re} (h : Chunks bs (c :: cs)) : c.length = bs ∧ Sorted c ∧ Chunks bs cs :=
 ⟨(h c (by simp)).1, (h c (by simp)).2, fun x hx => h x (by simp [hx])⟩
theorem flat_len (cs : List (List Re)) (c : List Re) : (cs ++ [c]).flatten.length = cs.flatten.length + c.length := by
 rw [List.flatten_append, List.length_append, List.flatten_cons, List.flatten_nil, List.append_nil]
theorem flat_snoc (cs : List (List Re)) (c R : List Re) : (cs ++ [c]).flatten ++ R = cs.flatten ++ (c ++ R) := by simp
set_option maxHeartbeats 1000000 in
theorem stable (l : List Re) (hl : l.length ≤ 1000000) : AC Tryz.prog 140 [.own 0, .i l.length, .fn 115 []] [reOb l] (fun o om' => o = .ret (.tup []) ∧ om' = [reOb (sortR l)]) := by
 refine AC.lbody hT hm Tryz.func140 f140_nm f140_lc f140_res f140_nt ?_
 simp only [go_sem, List.length_singleton]
 refine xl_loopM hT hm (fun i : List (List Re) × List Re => ⟨f140_i6 (.own 0) (.i l.length) (.fn 115 []) (.i 20) (.i i.1.flatten.length) (.i (i.1.flatten.length + 20 : Nat)), [reOb (i.1.flatten ++ i.2)]⟩)
  (fun i => Chunks 20 i.1 ∧ (i.1.flatten ++ i.2).Perm l) (fun i => i.2.length) ([], l) ⟨Chunks.nil, List.Perm.refl _⟩ ?_ ?_
 ·exact Mv.of [some 0] rfl mv_re (by simp [f140_i6])
 rintro ⟨cs, R⟩ ⟨hcs, hp⟩
 simp only at hcs hp
 have hlen : cs.flatten.length + R.length = l.length := by have := hp.length_eq; rwa [List.length_append] at this
 simp only [go_sem]
 by_cases h : cs.flatten.length + 20 ≤ l.length
 case pos =>
  have eR : R = R.take 20 ++ R.drop 20 := (List.take_append_drop _ _).symm
  have l1 : (R.take 20).length = 20 := by simp; omega
  have l2 : (R.drop 20).length = R.length - 20 := by simp
  generalize R.take 20 = R1 at eR l1
  generalize R.drop 20 = R2 at eR l2
  subst eR
  simp only [List.length_append] at hlen
  have hS := isortS cs.flatten R1 R2 (by simp only [List.length_append]; omega)
  rw [l1] at hS
  have w20 : IntKind.i64.wrap (((cs.flatten.length + 20 : Nat) : Int) + 20) = ((cs.flatten.length + 20 + 20 : Nat) : Int) := by
   rw [wrap_int _ (by omega) (by omega)]; omega
  simp only [go_sem, h]
  refine ⟨_, hS, ?_⟩
  rintro _ _ ⟨rfl, rfl⟩
  simp only [go_sem, w20]
  have lS := sortR_len R1
  refine ⟨(cs ++ [sortR R1], R2), ⟨hcs.snoc (by omega) (sortR_sorted _), ?_⟩, by simp only [List.length_append]; omega, ?_⟩
  ·refine List.Perm.trans ?_ hp
   rw [flat_snoc]
   exact List.Perm.append_left _ (List.Perm.append_right _ (sortR_perm R1))
  ·dsimp only
   rw [flat_snoc, show (cs ++ [sortR R1]).flatten.length = cs.flatten.length + 20 by rw [flat_len]; omega]
   exact Mv.of [some 0] rfl mv_re (by simp)
 case neg =>
  have hS := isortS cs.flatten R [] (by simp only [List.length_append, List.length_nil]; omega)
  rw [hlen] at hS
  simp only [List.append_nil] at hS
  simp only [go_sem, h]
  refine ⟨_, hS, ?_⟩
  rintro _ _ ⟨rfl, rfl⟩
  simp only [go_sem]
  have lS := sortR_len R
  refine xl_loopM hT hm (fun i : Nat × List (List Re) × List Re => ⟨f140_i19 (.own 0) (.i l.length) (.fn 115 []) (.i i.1), [reOb (i.2.1.flatten ++ i.2.2)]⟩)
   (fun i => Chunks i.1 i.2.1 ∧ Sorted i.2.2 ∧ i.2.2.length < i.1 ∧ i.1 ≤ 2000000 ∧ (i.2.1.flatten ++ i.2.2).Perm l) (fun i => l.length - i.1) (20, cs, sortR R)
   ⟨hcs, sortR_sorted R, by simp only; omega, by simp only; omega, (List.Perm.append_left _ (sortR_perm R)).trans hp⟩ ?_ ?_
  ·exact Mv.of [some 0] rfl mv_re (by simp [f140_i19])
  rintro ⟨bs, cs, t⟩ ⟨hcs, ht, htl, hbs, hp⟩
  simp only at hcs ht htl hbs hp
  have hlen : cs.flatten.length + t.length = l.length := by have := hp.length_eq; rwa [List.length_append] at this
  simp only [go_sem]
  by_cases hb : bs < l.length
  case neg =>
   have e : cs.flatten ++ t = sortR l := by
    refine (sortR_eq ?_ hp).symm
    cases cs with
    | nil => simpa using ht
    | cons c cs =>
     obtain ⟨q1, q2, q3⟩ := hcs.cons
     simp only [List.flatten_cons, List.length_append] at hlen
     have : t = [] := List.eq_nil_of_length_eq_zero (by omega)
     have : cs.flatten = [] := List.eq_nil_of_length_eq_zero (by omega)
     simp [*]
   simp only [go_sem, hb]
   rw [e]
   exact Fin.mv [some 0] rfl mv_re (by simp) ⟨rfl, rfl⟩
  have w2 : IntKind.i64.wrap (2 * (bs : Int)) = ((2 * bs : Nat) : Int) := by
   rw [wrap_int _ (by omega) (by omega)]; omega
  have w2' : IntKind.i64.wrap ((bs : Int) * 2) = ((2 * bs : Nat) : Int) := by
   rw [wrap_int _ (by omega) (by omega)]; omega
  simp only [go_sem, hb, w2]
  refine xl_loopM hT hm (fun i : List (List Re) × List (List Re) => ⟨f140_i14 (.own 0) (.i l.length) (.fn 115 []) (.i bs) (.i i.1.flatten.length) (.i (i.1.flatten.length + 2 * bs : Nat)), [reOb (i.1.flatten ++ (i.2.flatten ++ t))]⟩)
   (fun i => Chunks (2 * bs) i.1 ∧ Chunks bs i.2 ∧ (i.1.flatten ++ (i.2.flatten ++ t)).Perm l) (fun i => i.2.length) ([], cs) ⟨Chunks.nil, hcs, hp⟩ ?_ ?_
  ·exact Mv.of [some 0] rfl mv_re (by simp [f140_i14])
  rintro ⟨ms, cs'⟩ ⟨hms, hcs', hp'⟩
  simp only at hms hcs' hp'
  have hlen' : ms.flatten.length + (cs'.flatten.length + t.length) = l.length := by have := hp'.length_eq; simpa only [List.length_append] using this
  simp only [go_sem]
  by_cases h2 : ms.flatten.length + 2 * bs ≤ l.length
  case pos =>
   match cs', hcs', hp', hlen' with
   | [], _, _, hlen' => simp only [List.flatten_nil, List.length_nil] at hlen'; omega
   | [c1], hcs', _, hlen' =>
    have q := hcs'.cons
    simp only [List.flatten_cons, List.flatten_nil, List.append_nil] at hlen'; omega
   | c1 :: c2 :: cs'', hcs', hp', hlen' =>
    obtain ⟨q1, q2, q3⟩ := hcs'.cons
    obtain ⟨q4, q5, q6⟩ := q3.cons
    simp only [List.flatten_cons, List.length_append] at hlen'
    have hM := symM _ ms.flatten c1 c2 (cs''.flatten ++ t) (Nat.le_refl _) (List.length_pos_iff.1 (by omega)) (List.length_pos_iff.1 (by omega)) q2 q5 (by simp only [List.length_append]; omega)
    rw [q1, q4, show ms.flatten.length + bs + bs = ms.flatten.length + 2 * bs by omega] at hM
    have wb : IntKind.i64.wrap ((ms.flatten.length : Int) + (bs : Int)) = ((ms.flatten.length + bs : Nat) : Int) := by
     rw [wrap_int _ (by omega) (by omega)]; omega
    have wc : IntKind.i64.wrap (((ms.flatten.length + 2 * bs : Nat) : Int) + ((2 * bs : Nat) : Int)) = ((ms.flatten.length + 2 * bs + 2 * bs : Nat) : Int) := by
     rw [wrap_int _ (by omega) (by omega)]; omega
    have eL : ms.flatten ++ ((c1 :: c2 :: cs'').flatten ++ t) = ms.flatten ++ (c1 ++ (c2 ++ (cs''.flatten ++ t))) := by simp
    simp only [go_sem, h2, wb]
    rw [eL]
    refine ⟨_, hM, ?_⟩
    rintro _ _ ⟨rfl, rfl⟩
    simp only [go_sem, w2, wc]
    have lS2 := sortR_len (c1 ++ c2)
    simp only [List.length_append] at lS2
    refine ⟨(ms ++ [sortR (c1 ++ c2)], cs''), ⟨hms.snoc (by omega) (sortR_sorted _), q6, ?_⟩, by simp only [List.length_cons]; omega, ?_⟩
    ·refine List.Perm.trans ?_ hp'
     rw [flat_snoc, eL]
     refine List.Perm.append_left _ ?_
     rw [← List.append_assoc c1]
     exact List.Perm.append_right _ (sortR_perm _)
    ·dsimp only
     rw [flat_snoc, show (ms ++ [sortR (c1 ++ c2)]).flatten.length = ms.flatten.length + 2 * bs by rw [flat_len]; omega]
     exact Mv.of [some 0] rfl mv_re (by simp)
  case neg =>
   have wb : IntKind.i64.wrap ((ms.flatten.length : Int) + (bs : Int)) = ((ms.flatten.length + bs : Nat) : Int) := by
    rw [wrap_int _ (by omega) (by omega)]; omega
   simp only [go_sem, h2, wb]
   match cs', hcs', hp', hlen' with
   | c1 :: c2 :: cs'', hcs', _, hlen' =>
    obtain ⟨q1, q2, q3⟩ := hcs'.cons
    obtain ⟨q4, q5, q6⟩ := q3.cons
    simp only [List.flatten_cons, List.length_append] at hlen'
    omega
   | [], _, hp', hlen' =>
    simp only [List.flatten_nil, List.length_nil, Nat.zero_add, List.nil_append] at hlen' hp'
    have h3 : ¬ ms.flatten.length + bs < l.length := by omega
    simp only [go_sem, h3, w2', List.flatten_nil]
    refine ⟨(2 * bs, ms, t), ⟨hms, ht, by simp only; omega, by simp only; omega, hp'⟩, by simp only; omega, ?_⟩
    exact Mv.of [some 0] rfl mv_re (by simp)
   | [c1], hcs', hp', hlen' =>
    obtain ⟨q1, q2, q3⟩ := hcs'.cons
    simp only [List.flatten_cons, List.flatten_nil, List.append_nil] at hlen' hp'
    by_cases h3 : ms.flatten.length + bs < l.length
    ·have hM := symM _ ms.flatten c1 t [] (Nat.le_refl _) (List.length_pos_iff.1 (by omega)) (List.length_pos_iff.1 (by omega)) q2 ht (by simp only [List.length_append, List.length_nil]; omega)
     rw [q1, show ms.flatten.length + bs + t.length = l.length by omega] at hM
     simp only [List.append_nil] at hM
     simp only [go_sem, h3, List.flatten_cons, List.flatten_nil]
     refine ⟨_, hM, ?_⟩
     rintro _ _ ⟨rfl, rfl⟩
     simp only [go_sem, w2']
     have lS2 := sortR_len (c1 ++ t)
     simp only [List.length_append] at lS2
     refine ⟨(2 * bs, ms, sortR (c1 ++ t)), ⟨hms, sortR_sorted _, by simp only; omega, by simp only; omega, (List.Perm.append_left _ (sortR_perm _)).trans hp'⟩, by simp only; omega, ?_⟩
     exact Mv.of [some 0] rfl mv_re (by simp)
    ·have ht0 : t = [] := List.eq_nil_of_length_eq_zero (by omega)
     simp only [go_sem, h3, w2', List.flatten_cons, List.flatten_nil]
     refine ⟨(2 * bs, ms, c1), ⟨hms, q2, by simp only; omega, by simp only; omega, by rw [ht0, List.append_nil] at hp'; exact hp'⟩, by simp only; omega, ?_⟩
     rw [ht0, List.append_nil]
     exact Mv.of [some 0] rfl mv_re (by simp)
end Go.Proofs.YtlejbkfefpfolaaGreatDoor.W
set_option maxRecDepth 100000
namespace Go.Proofs.YtlejbkfefpfolaaGreatDoor.W
open Go Go.Proofs Go.Proofs.YtlejbkfefpfolaaGreatDoor.AWP
abbrev SEQ : Nat := 139
abbrev VAL : Nat := 129
abbrev seqE (l : List Re) : List D := [.v (.slice none 0 0), .fn VAL [.pel [Res l]], .ref 0 0, .any, .v (.slice none 0 0), .any, .fn VAL [.pel [Res l]], .any, .any, .any, .any, .any, .any, .any, .any]
theorem getL (L : List Re) (u : List D) : (L.map Re.c ++ [u])[L.length]? = some u := by
 rw [List.getElem?_append_right (by simp)]; simp
theorem putL (ty : Nat) (L : List Re) (u : List D) (x : Re) (hu : u.length = 6) : obPut (.slc ty 6 (L.map Re.c ++ [u])) (L.length * 6) x.c = some (.slc ty 6 ((L ++ [x]).map Re.c)) := by
 rw [obPut_slc (by simp) (fun r hr => ?_) (by simp)]
 ·congr 2
  rw [List.set_append_right _ _ (by simp)]
  simp
 ·rcases List.mem_append.1 hr with h | h
  ·exact all6 L r h
  ·rw [List.mem_singleton.1 h]; exact hu
theorem seqRound {ca cb : Code} (ha : lc ca = f139_a4.st) (hb : lc cb = f139_b4.st) (l0 L : List Re) (x : Re) (z : List D) (hz : ∀ d ∈ z, Bl 0 d) (hL : L.length ≤ 1000000) :
  AY Tryz.prog 1 [.agg x.c] [.var 25 [.own 2], .lp #[7] ca cb .ready none (seqE l0), reOb L, .var 27 z]
   (fun o om' => o = .ret (.b true) ∧ om' = [.var 25 [.own 4], .lp #[7] ca cb .ready none (seqE l0), .dead, .var 27 z, reOb (L ++ [x])]) := by
 refine AY.walk hT hm ha hb rfl rfl rfl ?_
 simp only [go_sem]
 refine ⟨by omega, ?_⟩
 simp only [go_sem, getL, putL]
 have fin : Fin [.var 25 [.own 2], .lp #[7] ca cb .ready none (seqE l0), reOb L, .var 27 z]
   [.var 25 [.own 5], .lp #[7] ca cb .ready none (seqE l0), .dead, .var 27 z, .var 27 x.c, reOb (L ++ [x])] (.ret (.b true))
   (fun o om' => o = .ret (.b true) ∧ om' = [.var 25 [.own 4], .lp #[7] ca cb .ready none (seqE l0), .dead, .var 27 z, reOb (L ++ [x])]) :=
  Fin.mv (om' := [.var 25 [.own 4], .lp #[7] ca cb .ready none (seqE l0), .dead, .var 27 z, reOb (L ++ [x])]) [some 0, some 1, some 2, some 3, some 5] rfl ⟨.varL rfl (by simp), .lpL rfl (by simp), .deadE (by simp), .varS rfl hz, .slcS rfl (Re.map_bl _), trivial⟩ .v ⟨rfl, rfl⟩
 exact ⟨⟨fin, fin⟩, fin⟩
theorem values1 {ca cb : Code} (ha : lc ca = (f139_a4).st) (hb : lc cb = (f139_b4).st) (l : List Re) (hl : l.length ≤ 1000000) :
  AC Tryz.prog VAL [.yld 1, .pel [Res l]] [.var 25 [.v (.slice none 0 0)], .lp #[7] ca cb .ready none (seqE l)]
   (fun o om' => o = .ret (.tup []) ∧ om' = [.var 25 [.own 2], .lp #[7] ca cb .ready none (seqE l), reOb l]) := by
 refine AC.lbody hT hm Tryz.func129 f129_nm f129_lc f129_res f129_nt ?_
 simp only [go_sem]
 refine xl_loopM hT hm (fun i : Nat => ⟨f129_i5 (.yld 1) (Res l) (.i l.length) (.i i), [.var 25 [.own 2], .lp #[7] ca cb .ready none (seqE l), reOb (l.take i)]⟩)
  (fun i => i ≤ l.length) (fun i => l.length - i) 0 (Nat.zero_le _) ?_ ?_
 ·exact Mv.of [some 0, some 1, none] rfl ⟨.varL rfl (by simp), .lpL rfl (by simp), .nil (by simp), trivial⟩ (by simp [f129_i5])
 intro i hi
 simp only [go_sem]
 by_cases h : i < l.length
 case neg =>
  simp only [go_sem, h]
  rw [List.take_of_length_le (by omega)]
  exact Fin.mv (om' := [.var 25 [.own 2], .lp #[7] ca cb .ready none (seqE l), reOb l]) [some 0, some 1, some 2] rfl ⟨.varL rfl (by simp), .lpL rfl (by simp), .slcS rfl (Re.map_bl _), trivial⟩ (by simp) ⟨rfl, rfl⟩
 obtain ⟨x, hx⟩ := get_ex h
 simp only [go_sem, h, hx]
 refine ⟨_, seqRound ha hb l (l.take i) x x.c x.c_bl (by simp; omega), ?_⟩
 rintro _ _ ⟨rfl, rfl⟩
 simp only [go_sem]
 rw [wrap_succ i (by omega)]
 refine ⟨i + 1, h, by omega, ?_⟩
 have e : l.take (i + 1) = l.take i ++ [x] := by rw [List.take_add_one, hx]; rfl
 rw [e]
 exact Mv.of [some 0, some 1, some 4] rfl ⟨.varL rfl (by simp), .lpL rfl (by simp), .slcS rfl (Re.map_bl _), trivial⟩ (by simp)
theorem appendSeq (l : List Re) (hl : l.length ≤ 1000000) : AC Tryz.prog SEQ [.v (.slice none 0 0), .fn VAL [.pel [Res l]]] [] (fun o om' => o = .ret (.own 0) ∧ om' = [reOb l]) := by
 refine AC.lbody hT hm Tryz.func139 f139_nm f139_lc f139_res f139_nt ?_
 simp only [go_sem, W_rfun]
 intro ca cb ha hb
 refine ⟨_, values1 ha hb l hl, ?_⟩
 rintro _ _ ⟨rfl, rfl⟩
 simp only [go_sem]
 exact ⟨by simp, Fin.mv (om' := [reOb l]) [some 2] rfl ⟨.slcS rfl (Re.map_bl _), trivial⟩ (by simp) ⟨rfl, rfl⟩⟩
theorem collect (l : List Re) (hl : l.length ≤ 1000000) : AC Tryz.prog 127 [.fn VAL [.pel [Res l]]] [] (fun o om' => o = .ret (.own 0) ∧ om' = [reOb l]) := by
 refine AC.lbody hT hm Tryz.func127 f127_nm f127_lc f127_res f127_nt ?_
 simp only [go_sem]
 refine ⟨_, appendSeq l hl, ?_⟩
 rintro _ _ ⟨rfl, rfl⟩
 simp only [go_sem]
 exact Fin.mv (om' := [reOb l]) [some 0] rfl mv_re (by simp) ⟨rfl, rfl⟩
theorem sortStable (l : List Re) (hl : l.length ≤ 1000000) : AC Tryz.prog 128 [.own 0, .fn 115 []] [reOb l] (fun o om' => o = .ret (.tup []) ∧ om' = [reOb (sortR l)]) := by
 refine AC.lbody hT hm Tryz.func128 f128_nm f128_lc f128_res f128_nt ?_
 simp only [go_sem]
 refine ⟨_, stable l hl, ?_⟩
 rintro _ _ ⟨rfl, rfl⟩
 simp only [go_sem]
 exact Fin.mv (om' := [reOb (sortR l)]) [some 0] rfl mv_re (by simp) ⟨rfl, rfl⟩
theorem sortedStable (l : List Re) (hl : l.length ≤ 1000000) : AP Tryz.prog 116 [.fn VAL [.pel [Res l]], .fn 115 []] (Res (sortR l)) := by
 refine AC.lbody hT hm Tryz.func116 f116_nm f116_lc f116_res f116_nt ?_
 simp only [go_sem]
 refine ⟨_, collect l (by omega), ?_⟩
 rintro _ _ ⟨rfl, rfl⟩
 simp only [go_sem]
 refine ⟨_, sortStable l hl, ?_⟩
 rintro _ _ ⟨rfl, rfl⟩
 simp only [go_sem]
 refine Fin.ret ?_
 show Cv [reOb (sortR l)] _ [] (.own 0) (.sl 6 (Re.cs (sortR l)))
 rw [Re.cs_eq]
 exact Cv.frzS rfl rfl (Re.map_bl _)
theorem values (l : List Re) : AP Tryz.prog 117 [Res l] (.fn VAL [.pel [Res l]]) := by
 refine AC.lbody hT hm Tryz.func117 f117_nm f117_lc f117_res f117_nt ?_
 simp only [go_sem]
 exact Fin.ret (Cv.same (by simp))
theorem sort (l : List Re) (hl : l.length ≤ 1000000) : AP Tryz.prog 100 [Res l] (Res (sortR l)) := by
 refine AC.lbody hT hm Tryz.func100 f100_nm f100_lc f100_res f100_nt ?_
 simp only [go_sem]
 refine (values l).pd (by simp) (by simp) ?_
 simp only [go_sem]
 refine (sortedStable l hl).pd (by simp) (by simp) ?_
 simp only [go_sem]
 exact Fin.ret (Cv.same (by simp))
end Go.Proofs.YtlejbkfefpfolaaGreatDoor.W
set_option maxRecDepth 100000
namespace Go.Proofs.YtlejbkfefpfolaaGreatDoor.W
open Go Go.Proofs Go.Proofs.YtlejbkfefpfolaaGreatDoor.AWP
theorem onceF (x y : Re) : AP Tryz.prog 114 [.agg y.c, .pel x.c] (.b (y.cmp x == 0)) := by
 refine AC.lbody hT hm Tryz.func114 f114_nm f114_lc f114_res f114_nt ?_
 simp only [go_sem]
 refine (two y x).pv (by simp) ?_
 simp only [go_sem]
 exact Fin.v rfl
def idxO (x : Re) : List Re → Nat → Int
 | [], _ => -1
 | y :: l, i => if y.cmp x = 0 then i else idxO x l (i + 1)
theorem idxO_any (x : Re) : ∀ (l : List Re) (i : Nat), decide (0 ≤ idxO x l i) = l.any fun y => y.same x
 | [], i => rfl
 | y :: l, i => by
  rw [idxO, List.any_cons, Re.same_cmp]
  split
  ·rename_i h; simp [h]
  ·rename_i h; rw [idxO_any x l (i + 1)]; simp [h]
theorem indexO (x : Re) (l : List Re) (hl : l.length ≤ 1000000) : AP Tryz.prog 62 [Res l, .fn 114 [.pel x.c]] (.i (idxO x l 0)) := by
 refine AC.lbody hT hm Tryz.func62 f62_nm f62_lc f62_res f62_nt ?_
 simp only [go_sem]
 refine xl_loopM hT hm (fun i : Nat => ⟨f62_i7 (Res l) (.fn 114 [.pel x.c]) (.i l.length) (.i i), []⟩)
  (fun i => i ≤ l.length ∧ idxO x l 0 = idxO x (l.drop i) i) (fun i => l.length - i) 0 ⟨Nat.zero_le _, rfl⟩ (Mv.none (by simp [f62_i7])) ?_
 rintro i ⟨hi, hq⟩
 simp only [go_sem]
 by_cases h : i < l.length
 case neg =>
  simp only [go_sem, h]
  refine Fin.v ?_
  rw [hq, drop_end h]; rfl
 obtain ⟨y, hy⟩ := get_ex h
 simp only [go_sem, h, hy]
 refine (onceF x y).pv (by simp) ?_
 simp only [go_sem]
 by_cases hc : y.cmp x = 0
 ·simp only [go_sem, hc]
  refine Fin.v ?_
  rw [hq, drop_get hy, idxO, if_pos hc]
 ·simp only [go_sem, beq_false hc]
  refine ⟨i + 1, ⟨h, ?_⟩, by omega, ?_⟩
  ·rw [hq, drop_get hy, idxO, if_neg hc]
  ·rw [wrap_succ i (by omega)]
   exact Mv.none (by simp)
theorem containsO (x : Re) (l : List Re) (hl : l.length ≤ 1000000) : AP Tryz.prog 38 [Res l, .fn 114 [.pel x.c]] (.b (l.any fun y => y.same x)) := by
 refine AC.lbody hT hm Tryz.func38 f38_nm f38_lc f38_res f38_nt ?_
 simp only [go_sem]
 refine (indexO x l hl).pv (by simp) ?_
 simp only [go_sem]
 refine Fin.v ?_
 rw [← idxO_any x l 0]
theorem mv1 {l : List Re} {k : Nat} {om : List Ob} {F : Nat → Bool} (h : om[k]? = some (reOb l)) : MvL om F [some k] [some k] [reOb l] := ⟨.slcS h (Re.map_bl _), trivial⟩
theorem frzR {l : List Re} {k : Nat} {om : List Ob} (h : om[k]? = some (reOb l)) : Cv om (fun _ => true) [] (.own k) (Res l) := by
 show Cv om _ [] (.own k) (.sl 6 (Re.cs l))
 rw [Re.cs_eq]
 exact Cv.frzS h rfl (Re.map_bl _)
theorem once (l : List Re) (hl : l.length ≤ 1000000) : AP Tryz.prog 99 [Res l] (Res (onceR l)) := by
 refine AC.lbody hT hm Tryz.func99 f99_nm f99_lc f99_res f99_nt ?_
 simp only [go_sem]
 refine xl_loopM hT hm (fun i : Nat => ⟨f99_i8 (.own 0) (Res l) (.i l.length) (.i i), [reOb (onceR (l.take i))]⟩)
  (fun i => i ≤ l.length) (fun i => l.length - i) 0 (Nat.zero_le _) (Mv.of [none] rfl ⟨.nil (by simp), trivial⟩ (by simp [f99_i8])) ?_
 intro i hi
 simp only [go_sem]
 by_cases h : i < l.length
 case neg =>
  simp only [go_sem, h]
  rw [List.take_of_length_le (by omega)]
  exact Fin.ret (frzR rfl)
 obtain ⟨x, hx⟩ := get_ex h
 have hlen := onceR_len (l.take i)
 simp at hlen
 simp only [go_sem, h, hx]
 refine (containsO x (onceR (l.take i)) (by omega)).pv ⟨frzR rfl, .fnL ⟨.frvS0 rfl rfl x.c_bl, trivial⟩, trivial⟩ ?_
 have e : onceR (l.take (i + 1)) = onceStep (onceR (l.take i)) x := onceR_take hx
 cases hany : (onceR (l.take i)).any fun y => y.same x with
 | true =>
  simp only [go_sem]
  rw [wrap_succ i (by omega)]
  refine ⟨i + 1, h, by omega, ?_⟩
  rw [e, onceStep, if_pos hany]
  exact Mv.of [some 0] rfl (mv1 rfl) (by simp)
 | false =>
  simp only [go_sem]
  refine ⟨by omega, ?_⟩
  rw [wrap_succ i (by omega)]
  refine ⟨i + 1, h, by omega, ?_⟩
  rw [e, onceStep, if_neg (by simp [hany])]
  exact Mv.of [some 2] rfl (mv1 (by simp)) (by simp)
theorem rIn (x : Re) (l : List Re) (hl : l.length ≤ 1000000) : AP Tryz.prog 103 [Res l, .agg x.c] (.b (l.any fun y => y.same x)) := by
 refine AC.lbody hT hm Tryz.func103 f103_nm f103_lc f103_res f103_nt ?_
 simp only [go_sem]
 refine xl_loopM hT hm (fun i : Nat => ⟨f103_i7 (Res l) (.pel x.c) (.i l.length) (.i i), []⟩)
  (fun i => i ≤ l.length ∧ (l.any fun y => y.same x) = (l.drop i).any fun y => y.same x) (fun i => l.length - i) 0 ⟨Nat.zero_le _, rfl⟩ (Mv.none (by simp [f103_i7])) ?_
 rintro i ⟨hi, hq⟩
 simp only [go_sem]
 by_cases h : i < l.length
 case neg =>
  simp only [go_sem, h]
  refine Fin.v ?_
  rw [hq, drop_end h]; rfl
 obtain ⟨y, hy⟩ := get_ex h
 simp only [go_sem, h, hy]
 refine (same y x).pv (by simp) ?_
 cases hc : y.same x with
 | true =>
  simp only [go_sem]
  refine Fin.v ?_
  rw [hq, drop_get hy, List.any_cons, hc]; rfl
 | false =>
  simp only [go_sem]
  refine ⟨i + 1, ⟨h, ?_⟩, by omega, ?_⟩
  ·rw [hq, drop_get hy, List.any_cons, hc]; rfl
  ·rw [wrap_succ i (by omega)]
   exact Mv.none (by simp)
theorem rOnce (l : List Re) (hl : l.length ≤ 1000000) : AP Tryz.prog 81 [Res l] (Res (onceR l)) := by
 refine AC.lbody hT hm Tryz.func81 f81_nm f81_lc f81_res f81_nt ?_
 simp only [go_sem]
 refine xl_loopM hT hm (fun i : Nat => ⟨f81_i8 (Res l) (.own 0) (.i l.length) (.i i), [reOb (onceR (l.take i))]⟩)
  (fun i => i ≤ l.length) (fun i => l.length - i) 0 (Nat.zero_le _) (Mv.of [some 0] rfl (mv1 rfl) (by simp [f81_i8])) ?_
 intro i hi
 simp only [go_sem]
 by_cases h : i < l.length
 case neg =>
  simp only [go_sem, h]
  rw [List.take_of_length_le (by omega)]
  exact Fin.ret (frzR rfl)
 obtain ⟨x, hx⟩ := get_ex h
 have hlen := onceR_len (l.take i)
 simp at hlen
 simp only [go_sem, h, hx]
 refine (rIn x (onceR (l.take i)) (by omega)).pv ⟨frzR rfl, by simp, trivial⟩ ?_
 have e : onceR (l.take (i + 1)) = onceStep (onceR (l.take i)) x := onceR_take hx
 cases hany : (onceR (l.take i)).any fun y => y.same x with
 | true =>
  simp only [go_sem]
  rw [wrap_succ i (by omega)]
  refine ⟨i + 1, h, by omega, ?_⟩
  rw [e, onceStep, if_pos hany]
  exact Mv.of [some 0] rfl (mv1 rfl) (by simp)
 | false =>
  simp only [go_sem, hx]
  refine ⟨by omega, ?_⟩
  rw [wrap_succ i (by omega)]
  refine ⟨i + 1, h, by omega, ?_⟩
  rw [e, onceStep, if_neg (by simp [hany])]
  exact Mv.of [some 1] rfl (mv1 (by simp)) (by simp)
end Go.Proofs.YtlejbkfefpfolaaGreatDoor.W
set_option maxRecDepth 100000
namespace Go.Proofs.YtlejbkfefpfolaaGreatDoor.W
open Go Go.Proofs Go.Proofs.YtlejbkfefpfolaaGreatDoor.AWP
theorem mv2 {a b : List Re} {k j : Nat} {om : List Ob} {F : Nat → Bool} (h : om[k]? = some (reOb a)) (h' : om[j]? = some (reOb b)) : MvL om F [some k, some j] [some k, some j] [reOb a, reOb b] := ⟨.slcS h (Re.map_bl _), .slcS h' (Re.map_bl _), trivial⟩
theorem rSort (l : List Re) (hl : l.length ≤ 1000000) : AP Tryz.prog 82 [Res l] (Res (sortR l)) := by
 refine AC.lbody hT hm Tryz.func82 f82_nm f82_lc f82_res f82_nt ?_
 simp only [go_sem]
 refine xl_loopM hT hm (fun i : Nat => ⟨f82_i20 (Res l) (.own 0) (.i l.length) (.i i), [reOb (sortR (l.take i))]⟩)
  (fun i => i ≤ l.length) (fun i => l.length - i) 0 (Nat.zero_le _) (Mv.of [some 0] rfl (mv1 rfl) (by simp [f82_i20])) ?_
 intro i hi
 simp only [go_sem]
 by_cases h : i < l.length
 case neg =>
  simp only [go_sem, h]
  rw [List.take_of_length_le (by omega)]
  exact Fin.ret (frzR rfl)
 obtain ⟨x, hx⟩ := get_ex h
 have hSl : (sortR (l.take i)).length = i := by rw [sortR_len]; simp; omega
 have e : sortR (l.take (i + 1)) = insR x (sortR (l.take i)) := sortR_take hx
 generalize sortR (l.take i) = S at hSl e
 simp only [go_sem, h]
 refine xl_loopM hT hm (fun k : Nat => ⟨f82_i15 (Res l) (.own 0) (.i i) (.own 1) (.b (putR x (S.take k)).1) (.i l.length) (.i i) (.i S.length) (.i k), [reOb S, reOb (putR x (S.take k)).2]⟩)
  (fun k => k ≤ S.length) (fun k => S.length - k) 0 (Nat.zero_le _) (Mv.of [some 0, some 1] rfl (mv2 rfl rfl) (by simp [f82_i15, putR])) ?_
 intro k hk
 have hN := putR_len x (S.take k)
 have hmin := List.length_take_le k S
 by_cases hkl : k < S.length
 case neg =>
  have ek : S.take k = S := List.take_of_length_le (by omega)
  have e2 := putR_end x S
  rw [ek] at hN ⊢
  generalize putR x S = p at hN e2 ⊢
  obtain ⟨d, N⟩ := p
  simp only at hN e2
  simp only [go_sem, hkl]
  cases d with
  | true =>
   simp only [go_sem]
   refine ⟨i + 1, h, by omega, ?_⟩
   rw [wrap_succ i (by omega), e, ← e2]
   exact Mv.of [some 1] rfl (mv1 rfl) (by simp)
  | false =>
   simp only [go_sem, hx]
   refine ⟨by omega, i + 1, h, by omega, ?_⟩
   rw [wrap_succ i (by omega), e, ← e2]
   exact Mv.of [some 2] rfl (mv1 (by simp)) (by simp)
 obtain ⟨y, hy⟩ := get_ex hkl
 have e2 := putR_take (x := x) hy
 generalize putR x (S.take k) = p at hN e2 ⊢
 obtain ⟨d, N⟩ := p
 simp only at hN e2
 simp only [go_sem, hkl]
 cases d with
 | true =>
  simp only [go_sem, hy]
  refine ⟨by omega, k + 1, hkl, by omega, ?_⟩
  rw [wrap_succ k (by omega), e2]
  exact Mv.of [some 0, some 2] rfl (mv2 rfl (by simp)) (by simp)
 | false =>
  simp only [go_sem, hx, hy]
  refine (rtwo x y).pv (by simp) ?_
  simp only [go_sem]
  by_cases hc : x.cmp y < 0
  ·simp only [go_sem, hc, hx, hy]
   refine ⟨by omega, by omega, k + 1, hkl, by omega, ?_⟩
   rw [wrap_succ k (by omega), e2]
   exact Mv.of [some 0, some 3] rfl (mv2 rfl (by simp [hc])) (by simp [hc])
  ·simp only [go_sem, hc, hx, hy]
   refine ⟨by omega, k + 1, hkl, by omega, ?_⟩
   rw [wrap_succ k (by omega), e2]
   exact Mv.of [some 0, some 2] rfl (mv2 rfl (by simp [hc])) (by simp [hc])
end Go.Proofs.YtlejbkfefpfolaaGreatDoor.W
