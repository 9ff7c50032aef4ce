/- Two rows in order, the second one of one, are merged in place. -/
import Derived.Test.YtlejbkfefpfolaaGreatDoorBuildD
import Derived.Test.YtlejbkfefpfolaaGreatDoorMath
set_option linter.unusedVariables false
set_option linter.unusedSimpArgs false
set_option linter.unusedSectionVars false
set_option maxRecDepth 100000
namespace Go.Proofs.YtlejbkfefpfolaaGreatDoor.W
open Go Go.Proofs Go.Proofs.YtlejbkfefpfolaaGreatDoor.AWP
attribute [local irreducible] xl hide aop aops aopQ qops guardP condP
end Go.Proofs.YtlejbkfefpfolaaGreatDoor.W
set_option maxRecDepth 100000
namespace Go.Proofs.YtlejbkfefpfolaaGreatDoor.W
open Go Go.Proofs Go.Proofs.YtlejbkfefpfolaaGreatDoor.AWP
abbrev reOb (l : List Re) : Ob := .slc 27 6 (l.map Re.c)
theorem all6 (l : List Re) : ∀ r ∈ l.map Re.c, r.length = 6 := by
 intro r hr
 obtain ⟨x, _, rfl⟩ := List.mem_map.1 hr
 simp
theorem mv_re {l : List Re} {F : Nat → Bool} : MvL [reOb l] F [some 0] [some 0] [reOb l] := ⟨.slcS rfl (by simp), trivial⟩
theorem pA {α : Type} (A : List α) (u : α) (M : List α) (v : α) (C : List α) : (A ++ u :: (M ++ v :: C))[A.length]? = some u := by simp
theorem pB {α : Type} (A : List α) (u : α) (M : List α) (v : α) (C : List α) : (A ++ u :: (M ++ v :: C))[A.length + 1 + M.length]? = some v := by
 rw [List.getElem?_append_right (by omega), show A.length + 1 + M.length - A.length = M.length + 1 by omega, List.getElem?_cons_succ]; simp
theorem putA (ty : Nat) (A : List Re) (u : Re) (R : List Re) (w : Re) : obPut (.slc ty 6 ((A ++ u :: R).map Re.c)) (A.length * 6) w.c = some (.slc ty 6 ((A ++ w :: R).map Re.c)) := by
 rw [obPut_slc (by simp) (all6 _) (by simp)]
 congr 2
 rw [← List.map_set, List.set_append_right _ _ (by omega)]
 simp
theorem putB (ty : Nat) (A : List Re) (u : Re) (M : List Re) (v : Re) (C : List Re) (w : Re) : obPut (.slc ty 6 ((A ++ u :: (M ++ v :: C)).map Re.c)) ((A.length + 1 + M.length) * 6) w.c = some (.slc ty 6 ((A ++ u :: (M ++ w :: C)).map Re.c)) := by
 have := putA ty (A ++ u :: M) v C w
 simp only [List.append_assoc, List.cons_append, List.length_append, List.length_cons] at this
 rw [show A.length + 1 + M.length = A.length + (M.length + 1) by omega]
 exact this
theorem swapR (X U W V Y : List Re) (hUV : U.length = V.length) (hl : (X ++ (U ++ (W ++ (V ++ Y)))).length ≤ 1000000) :
  AC Tryz.prog 147 [.own 0, .i X.length, .i (X.length + U.length + W.length : Nat), .i U.length, .fn 115 []] [reOb (X ++ (U ++ (W ++ (V ++ Y))))] (fun o om' => o = .ret (.tup []) ∧ om' = [reOb (X ++ (V ++ (W ++ (U ++ Y))))]) := by
 simp only [List.length_append] at hl
 refine AC.lbody hT hm Tryz.func147 f147_nm f147_lc f147_res f147_nt ?_
 simp only [go_sem, List.length_singleton]
 refine xl_loopM hT hm (fun i : List Re × List Re × List Re × List Re => ⟨f147_i4 (.own 0) (.i X.length) (.i (X.length + U.length + W.length : Nat)) (.i U.length) (.i i.1.length), [reOb (X ++ (i.2.2.1 ++ (i.2.1 ++ (W ++ (i.1 ++ (i.2.2.2 ++ Y))))))]⟩)
  (fun i => i.1 ++ i.2.1 = U ∧ i.2.2.1 ++ i.2.2.2 = V ∧ i.1.length = i.2.2.1.length) (fun i => i.2.1.length) ([], U, [], V) ⟨rfl, rfl, rfl⟩ ?_ ?_
 ·exact Mv.of [some 0] rfl mv_re (by simp [f147_i4])
 rintro ⟨U1, U2, V1, V2⟩ ⟨h1, h2, h3⟩
 simp only at h1 h2 h3
 have hU : U1.length + U2.length = U.length := by rw [← h1]; simp
 have hV : V1.length + V2.length = V.length := by rw [← h2]; simp
 cases U2 with
 | nil =>
  have hv2 : V2 = [] := List.eq_nil_of_length_eq_zero (by simp at hU; omega)
  subst hv2
  simp only [List.append_nil] at h1 h2
  subst h1 h2
  have hlt : ¬ U1.length < U1.length := Nat.lt_irrefl _
  dsimp only
  simp only [go_sem, hlt]
  exact Fin.mv [some 0] rfl mv_re (by simp) ⟨rfl, rfl⟩
 | cons u U2 =>
  cases V2 with
  | nil => simp at hU hV; omega
  | cons v V2 =>
   simp only [List.length_cons] at hU hV
   have hlt : U1.length < U.length := by omega
   obtain ⟨P, hP⟩ : ∃ P, P = X ++ V1 := ⟨_, rfl⟩
   obtain ⟨M, hM⟩ : ∃ M, M = U2 ++ W ++ U1 := ⟨_, rfl⟩
   have hPl : P.length = X.length + V1.length := by rw [hP]; simp
   have hMl : M.length = U2.length + W.length + U1.length := by rw [hM]; simp; omega
   have hL : X ++ (V1 ++ (u :: U2 ++ (W ++ (U1 ++ (v :: V2 ++ Y))))) = P ++ u :: (M ++ v :: (V2 ++ Y)) := by rw [hP, hM]; simp
   have hL2 : X ++ (V1 ++ [v] ++ (U2 ++ (W ++ (U1 ++ [u] ++ (V2 ++ Y))))) = P ++ v :: (M ++ u :: (V2 ++ Y)) := by rw [hP, hM]; simp
   have e1 : IntKind.i64.wrap ((X.length : Int) + (U1.length : Int)) = ((P.length : Nat) : Int) := by
    rw [wrap_int _ (by omega) (by omega)]; omega
   have e2 : IntKind.i64.wrap (((X.length + U.length + W.length : Nat) : Int) + (U1.length : Int)) = ((P.length + 1 + M.length : Nat) : Int) := by
    rw [wrap_int _ (by omega) (by omega)]; omega
   dsimp only
   rw [hL]
   simp only [go_sem, hlt, e1, e2, pA, pB, putA, putB]
   rw [wrap_succ _ (by omega)]
   refine ⟨(U1 ++ [u], U2, V1 ++ [v], V2), ⟨by simpa using h1, by simpa using h2, by simp [h3]⟩, by simp, ?_⟩
   dsimp only
   rw [hL2]
   exact Mv.of [some 0] rfl mv_re (by simp)
theorem rotate (X0 U0 V0 Y0 : List Re) (hu : U0 ≠ []) (hv : V0 ≠ []) (hl : (X0 ++ (U0 ++ (V0 ++ Y0))).length ≤ 1000000) :
  AC Tryz.prog 146 [.own 0, .i X0.length, .i (X0.length + U0.length : Nat), .i (X0.length + U0.length + V0.length : Nat), .fn 115 []] [reOb (X0 ++ (U0 ++ (V0 ++ Y0)))] (fun o om' => o = .ret (.tup []) ∧ om' = [reOb (X0 ++ (V0 ++ (U0 ++ Y0)))]) := by
 simp only [List.length_append] at hl
 have p1 := List.length_pos_iff.2 hu
 have p2 := List.length_pos_iff.2 hv
 have e1 : IntKind.i64.wrap (((X0.length + U0.length : Nat) : Int) - (X0.length : Int)) = ((U0.length : Nat) : Int) := by
  rw [wrap_int _ (by omega) (by omega)]; omega
 have e2 : IntKind.i64.wrap (((X0.length + U0.length + V0.length : Nat) : Int) - ((X0.length + U0.length : Nat) : Int)) = ((V0.length : Nat) : Int) := by
  rw [wrap_int _ (by omega) (by omega)]; omega
 refine AC.lbody hT hm Tryz.func146 f146_nm f146_lc f146_res f146_nt ?_
 simp only [go_sem, List.length_singleton, e1, e2]
 refine xl_loopM hT hm (fun i : List Re × List Re × List Re × List Re => ⟨f146_i8 (.own 0) (.i (X0.length + U0.length : Nat)) (.fn 115 []) (.i i.2.1.length) (.i i.2.2.1.length), [reOb (i.1 ++ (i.2.1 ++ (i.2.2.1 ++ i.2.2.2)))]⟩)
  (fun i => i.1.length + i.2.1.length = X0.length + U0.length ∧ i.1 ++ (i.2.2.1 ++ (i.2.1 ++ i.2.2.2)) = X0 ++ (V0 ++ (U0 ++ Y0)) ∧ 0 < i.2.1.length ∧ 0 < i.2.2.1.length) (fun i => i.2.1.length + i.2.2.1.length) (X0, U0, V0, Y0) ⟨rfl, rfl, p1, p2⟩ ?_ ?_
 ·exact Mv.of [some 0] rfl mv_re (by simp [f146_i8])
 rintro ⟨X, U, V, Y⟩ ⟨h1, h2, h3, h4⟩
 simp only at h1 h2 h3 h4
 have hlen : X.length + (U.length + (V.length + Y.length)) ≤ 1000000 := by
  have := congrArg List.length h2
  simp only [List.length_append] at this
  omega
 have ex : IntKind.i64.wrap (((X0.length + U0.length : Nat) : Int) - (U.length : Int)) = ((X.length : Nat) : Int) := by
  rw [wrap_int _ (by omega) (by omega)]; omega
 simp only [go_sem]
 by_cases heq : U.length = V.length
 ·have b1 : ((U.length : Int) != (V.length : Int)) = false := by simp [heq]
  simp only [go_sem, b1, ex]
  have sw := swapR X U [] V Y heq (by simp; omega)
  simp only [List.nil_append, List.length_nil, Nat.add_zero] at sw
  rw [h1] at sw
  refine ⟨_, sw, ?_⟩
  rintro _ _ ⟨rfl, rfl⟩
  simp only [go_sem]
  rw [h2]
  exact Fin.mv [some 0] rfl mv_re (by simp) ⟨rfl, rfl⟩
 have b1 : ((U.length : Int) != (V.length : Int)) = true := by simp; omega
 by_cases hgt : V.length < U.length
 ·have b2 : decide ((V.length : Int) < (U.length : Int)) = true := by simp; omega
  have eU : U = U.take V.length ++ U.drop V.length := (List.take_append_drop _ _).symm
  have l1 : (U.take V.length).length = V.length := by simp; omega
  have l2 : (U.drop V.length).length = U.length - V.length := by simp
  generalize U.take V.length = U1 at eU l1
  generalize U.drop V.length = U2 at eU l2
  have ed : IntKind.i64.wrap ((U.length : Int) - (V.length : Int)) = ((U2.length : Nat) : Int) := by
   rw [wrap_int _ (by omega) (by omega)]; omega
  have sw := swapR X U1 U2 V Y l1 (by simp; omega)
  rw [show X.length + U1.length + U2.length = X0.length + U0.length by omega, l1] at sw
  have eL : X ++ (U ++ (V ++ Y)) = X ++ (U1 ++ (U2 ++ (V ++ Y))) := by rw [eU]; simp
  simp only [go_sem, b1, hgt, ex, ed]
  rw [eL]
  refine ⟨_, sw, ?_⟩
  rintro _ _ ⟨rfl, rfl⟩
  simp only [go_sem, ed]
  refine ⟨(X ++ V, U2, U1, Y), ⟨by simp; omega, by rw [← h2, eU]; simp, by simp; omega, by simp; omega⟩, by simp; omega, ?_⟩
  rw [show X ++ (V ++ (U2 ++ (U1 ++ Y))) = (X ++ V) ++ (U2 ++ (U1 ++ Y)) by simp, ← l1]
  exact Mv.of [some 0] rfl mv_re (by simp)
 ·have b2 : decide ((V.length : Int) < (U.length : Int)) = false := by simp; omega
  have eV : V = V.take (V.length - U.length) ++ V.drop (V.length - U.length) := (List.take_append_drop _ _).symm
  have l1 : (V.take (V.length - U.length)).length = V.length - U.length := by simp
  have l2 : (V.drop (V.length - U.length)).length = U.length := by simp; omega
  generalize V.take (V.length - U.length) = V1 at eV l1
  generalize V.drop (V.length - U.length) = V2 at eV l2
  have ed : IntKind.i64.wrap ((V.length : Int) - (U.length : Int)) = ((V1.length : Nat) : Int) := by
   rw [wrap_int _ (by omega) (by omega)]; omega
  have em : IntKind.i64.wrap (((X0.length + U0.length : Nat) : Int) + (V.length : Int)) = ((X0.length + U0.length + V.length : Nat) : Int) := by
   rw [wrap_int _ (by omega) (by omega)]; omega
  have em2 : IntKind.i64.wrap (((X0.length + U0.length + V.length : Nat) : Int) - (U.length : Int)) = ((X.length + U.length + V1.length : Nat) : Int) := by
   rw [wrap_int _ (by omega) (by omega)]; omega
  have sw := swapR X U V1 V2 Y l2.symm (by simp; omega)
  have eL : X ++ (U ++ (V ++ Y)) = X ++ (U ++ (V1 ++ (V2 ++ Y))) := by rw [eV]; simp
  simp only [go_sem, b1, hgt, ex, ed, em, em2]
  rw [eL]
  refine ⟨_, sw, ?_⟩
  rintro _ _ ⟨rfl, rfl⟩
  simp only [go_sem, ed]
  refine ⟨(X, V2, V1, U ++ Y), ⟨by simp only; omega, by rw [← h2, eV]; simp, by simp only; omega, by simp only; omega⟩, by simp only; omega, ?_⟩
  dsimp only
  rw [l2]
  exact Mv.of [some 0] rfl mv_re (by simp)
end Go.Proofs.YtlejbkfefpfolaaGreatDoor.W
set_option maxRecDepth 100000
namespace Go.Proofs.YtlejbkfefpfolaaGreatDoor.W
open Go Go.Proofs Go.Proofs.YtlejbkfefpfolaaGreatDoor.AWP
theorem midW (s t : Nat) (h : s + t ≤ 4000000) : IntKind.i64.wrap ((IntKind.u64.wrap (IntKind.i64.wrap ((s : Int) + (t : Int)))).fdiv (2 ^ min 1 64)) = (((s + t) / 2 : Nat) : Int) := by
 have e : (s : Int) + (t : Int) = ((s + t : Nat) : Int) := by simp
 rw [e, wrap_nat _ (by omega), u64_wrap _ (by omega), show (2 : Int) ^ min 1 64 = 2 from rfl, Int.fdiv_eq_ediv_of_nonneg _ (by omega), show ((s + t : Nat) : Int) / 2 = (((s + t) / 2 : Nat) : Int) by omega, wrap_nat _ (by omega)]
theorem gB1 {P : List Re} {x : Re} {B Q : List Re} {k : Nat} {y : Re} (h : B[k]? = some y) : (P ++ x :: (B ++ Q))[P.length + 1 + k]? = some y := by
 have hk := (List.getElem?_eq_some_iff.1 h).1
 rw [List.getElem?_append_right (by omega), show P.length + 1 + k - P.length = k + 1 by omega, List.getElem?_cons_succ, List.getElem?_append_left hk, h]
theorem gA0 {P : List Re} {x : Re} {R : List Re} : (P ++ x :: R)[P.length]? = some x := by simp
theorem gSeg {P A R : List Re} {k : Nat} {y : Re} (h : A[k]? = some y) : (P ++ (A ++ R))[P.length + k]? = some y := by
 have hk := (List.getElem?_eq_some_iff.1 h).1
 rw [List.getElem?_append_right (by omega), show P.length + k - P.length = k by omega, List.getElem?_append_left hk, h]
theorem symOne (P : List Re) (x : Re) (B Q : List Re) (hB : Sorted B) (hl : (P ++ (x :: (B ++ Q))).length ≤ 1000000) :
  AC Tryz.prog 145 [.own 0, .i P.length, .i (P.length + 1 : Nat), .i (P.length + 1 + B.length : Nat), .fn 115 []] [reOb (P ++ (x :: (B ++ Q)))] (fun o om' => o = .ret (.tup []) ∧ om' = [reOb (P ++ (sortR (x :: B) ++ Q))]) := by
 simp only [List.length_append, List.length_cons] at hl
 have e1 : IntKind.i64.wrap (((P.length + 1 : Nat) : Int) - (P.length : Int)) = 1 := by
  rw [wrap_int _ (by omega) (by omega)]; omega
 have e1' : ((1 : Int) == 1) = true := rfl
 refine AC.lbody hT hm Tryz.func145 f145_nm f145_lc f145_res f145_nt ?_
 simp only [go_sem, List.length_singleton, e1, e1']
 refine xl_loopM hT hm (fun i : Nat × Nat => ⟨f145_i8 (.own 0) (.i P.length) (.fn 115 []) (.i (P.length + 1 + i.1 : Nat)) (.i (P.length + 1 + i.2 : Nat)), [reOb (P ++ (x :: (B ++ Q)))]⟩)
  (fun i => i.1 ≤ i.2 ∧ i.2 ≤ B.length ∧ (∀ y, 0 < i.1 → B[i.1 - 1]? = some y → y.le x) ∧ (∀ y, B[i.2]? = some y → x.le y)) (fun i => i.2 - i.1) (0, B.length) ⟨Nat.zero_le _, Nat.le_refl _, fun y h => absurd h (Nat.lt_irrefl _), fun y h => by simp at h⟩ ?_ ?_
 ·exact Mv.of [some 0] rfl mv_re (by simp [f145_i8])
 rintro ⟨i, j⟩ ⟨h1, h2, h3, h4⟩
 simp only at h1 h2 h3 h4
 simp only [go_sem]
 by_cases hij : i < j
 case pos =>
  have hc : P.length + 1 + i < P.length + 1 + j := by omega
  obtain ⟨y, hy⟩ := get_ex (l := B) (i := (i + j) / 2) (by omega)
  have hg := gB1 (P := P) (x := x) (Q := Q) hy
  have em := midW (P.length + 1 + i) (P.length + 1 + j) (by omega)
  rw [show (P.length + 1 + i + (P.length + 1 + j)) / 2 = P.length + 1 + (i + j) / 2 by omega] at em
  simp only [go_sem, Int.reduceEq, Int.reduceLE, Int.reduceLT, Int.reduceToNat, hc, em, hg, gA0]
  refine (two y x).pv ⟨.same (Re.d_bl _), .same (Re.d_bl _), trivial⟩ ?_
  simp only [go_sem, Int.reduceEq, Int.reduceLE, Int.reduceLT, Int.reduceToNat]
  by_cases hlt : y.cmp x < 0
  ·simp only [go_sem, Int.reduceEq, Int.reduceLE, Int.reduceLT, Int.reduceToNat, hlt, em]
   rw [wrap_succ _ (by omega)]
   refine ⟨((i + j) / 2 + 1, j), ⟨show (i + j) / 2 + 1 ≤ j by omega, h2, fun z _ hz => ?_, h4⟩, show j - ((i + j) / 2 + 1) < j - i by omega, Mv.of [some 0] rfl mv_re (by simp; rfl)⟩
   have hz' : B[(i + j) / 2]? = some z := hz
   rw [hy] at hz'
   cases hz'
   exact Re.lt_le hlt
  ·simp only [go_sem, Int.reduceEq, Int.reduceLE, Int.reduceLT, Int.reduceToNat, hlt, em]
   refine ⟨(i, (i + j) / 2), ⟨show i ≤ (i + j) / 2 by omega, show (i + j) / 2 ≤ B.length by omega, h3, fun z hz => ?_⟩, show (i + j) / 2 - i < j - i by omega, Mv.of [some 0] rfl mv_re (by simp)⟩
   simp only at hz
   rw [hy] at hz
   cases hz
   exact Re.not_lt.1 hlt
 case neg =>
  obtain rfl : i = j := by omega
  have hc : ¬ P.length + 1 + i < P.length + 1 + i := Nat.lt_irrefl _
  have eB : B = B.take i ++ B.drop i := (List.take_append_drop _ _).symm
  have l1 : (B.take i).length = i := by simp; omega
  have hh1 : ∀ y, (B.take i)[(B.take i).length - 1]? = some y → y.le x := fun y hy => by
   rw [l1, List.getElem?_take] at hy
   split at hy
   ·rename_i h0; exact h3 y (by omega) hy
   ·cases hy
  have hh2 : ∀ y, (B.drop i)[0]? = some y → x.le y := fun y hy => by
   rw [List.getElem?_drop] at hy
   exact h4 y hy
  have hs := sort_front (B1 := B.take i) (B2 := B.drop i) (by rw [← eB]; exact hB) hh1 hh2
  rw [← eB, List.singleton_append] at hs
  have ei : IntKind.i64.wrap (((P.length + 1 + i : Nat) : Int) - 1) = ((P.length + i : Nat) : Int) := by
   rw [wrap_int _ (by omega) (by omega)]; omega
  simp only [go_sem, Int.reduceEq, Int.reduceLE, Int.reduceLT, Int.reduceToNat, hc]
  refine xl_loopM hT hm (fun c : List Re × List Re => ⟨f145_i13 (.own 0) (.i (P.length + 1 + i : Nat)) (.i (P.length + c.1.length : Nat)), [reOb (P ++ (c.1 ++ x :: (c.2 ++ (B.drop i ++ Q))))]⟩)
   (fun c => c.1 ++ c.2 = B.take i) (fun c => c.2.length) ([], B.take i) rfl ?_ ?_
  ·have : P ++ ([] ++ x :: (B.take i ++ (B.drop i ++ Q))) = P ++ (x :: (B ++ Q)) := by
    rw [List.nil_append, ← List.append_assoc (B.take i), ← eB]
   dsimp only
   rw [this]
   exact Mv.of [some 0] rfl mv_re (by simp [f145_i13])
  rintro ⟨c1, c2⟩ hcc
  simp only at hcc
  have hcl : c1.length + c2.length = i := by rw [← l1, ← hcc]; simp
  simp only [go_sem]
  cases c2 with
  | nil =>
   simp only [List.append_nil] at hcc
   have hn : ¬ P.length + c1.length < P.length + i := by simp at hcl; omega
   simp only [go_sem, Int.reduceEq, Int.reduceLE, Int.reduceLT, Int.reduceToNat, ei, hn]
   have e : P ++ (c1 ++ x :: (B.drop i ++ Q)) = P ++ (sortR (x :: B) ++ Q) := by rw [hs, ← hcc]; simp
   rw [e]
   exact Fin.mv [some 0] rfl mv_re (by simp) ⟨rfl, rfl⟩
  | cons y c2 =>
   simp only [List.length_cons] at hcl
   have hn : P.length + c1.length < P.length + i := by omega
   obtain ⟨A, hA⟩ : ∃ A, A = P ++ c1 := ⟨_, rfl⟩
   have hAl : A.length = P.length + c1.length := by rw [hA]; simp
   obtain ⟨R, hR⟩ : ∃ R, R = B.drop i ++ Q := ⟨_, rfl⟩
   have hL : P ++ (c1 ++ x :: (y :: c2 ++ (B.drop i ++ Q))) = A ++ x :: ([] ++ y :: (c2 ++ R)) := by rw [hA, hR]; simp
   have hL2 : P ++ (c1 ++ [y] ++ x :: (c2 ++ (B.drop i ++ Q))) = A ++ y :: ([] ++ x :: (c2 ++ R)) := by rw [hA, hR]; simp
   have w1 : IntKind.i64.wrap (((P.length + c1.length : Nat) : Int) + 1) = ((A.length + 1 + ([] : List Re).length : Nat) : Int) := by
    rw [wrap_int _ (by omega) (by omega)]; simp; omega
   have p1 := pA A x [] y (c2 ++ R)
   have p2 := pB A x [] y (c2 ++ R)
   have p3 := pB A y [] y (c2 ++ R)
   have q1 := putA 27 A x ([] ++ y :: (c2 ++ R)) y
   have q2 := putB 27 A y [] y (c2 ++ R) x
   have w2 : IntKind.i64.wrap (((P.length + c1.length : Nat) : Int) + 1) = ((A.length + 1 : Nat) : Int) := w1
   simp only [List.nil_append, List.length_nil, Nat.add_zero] at p1 p2 p3 q1 q2 hL hL2
   rw [hL]
   rw [← hAl] at w2 hn ⊢
   simp only [go_sem, Int.reduceEq, Int.reduceLE, Int.reduceLT, Int.reduceToNat, ei, hn, w2, p1, p2, p3, q1, q2]
   refine ⟨(c1 ++ [y], c2), by simpa using hcc, by simp, ?_⟩
   dsimp only
   rw [hL2, show P.length + (c1 ++ [y]).length = A.length + 1 by simp; omega]
   exact Mv.of [some 0] rfl mv_re (by simp)
end Go.Proofs.YtlejbkfefpfolaaGreatDoor.W
set_option maxRecDepth 100000
namespace Go.Proofs.YtlejbkfefpfolaaGreatDoor.W
open Go Go.Proofs Go.Proofs.YtlejbkfefpfolaaGreatDoor.AWP
theorem gM {P A : List Re} {x : Re} {R : List Re} : (P ++ (A ++ x :: R))[P.length + A.length]? = some x := by
 rw [← List.append_assoc, List.getElem?_append_right (by simp)]; simp
theorem symLast (P A : List Re) (x : Re) (Q : List Re) (hA : Sorted A) (hA1 : A.length ≠ 1) (hl : (P ++ (A ++ x :: Q)).length ≤ 1000000) :
  AC Tryz.prog 145 [.own 0, .i P.length, .i (P.length + A.length : Nat), .i (P.length + A.length + 1 : Nat), .fn 115 []] [reOb (P ++ (A ++ x :: Q))] (fun o om' => o = .ret (.tup []) ∧ om' = [reOb (P ++ (sortR (A ++ [x]) ++ Q))]) := by
 simp only [List.length_append, List.length_cons] at hl
 have e0 : IntKind.i64.wrap (((P.length + A.length : Nat) : Int) - (P.length : Int)) = (A.length : Int) := by
  rw [wrap_int _ (by omega) (by omega)]; omega
 have e0' : ((A.length : Int) == 1) = false := beq_false (by omega)
 have e1 : IntKind.i64.wrap (((P.length + A.length + 1 : Nat) : Int) - ((P.length + A.length : Nat) : Int)) = 1 := by
  rw [wrap_int _ (by omega) (by omega)]; omega
 have e1' : ((1 : Int) == 1) = true := rfl
 refine AC.lbody hT hm Tryz.func145 f145_nm f145_lc f145_res f145_nt ?_
 simp only [go_sem, List.length_singleton, e0, e0', e1, e1']
 refine xl_loopM hT hm (fun i : Nat × Nat => ⟨f145_i22 (.own 0) (.i (P.length + A.length : Nat)) (.fn 115 []) (.i (P.length + i.1 : Nat)) (.i (P.length + i.2 : Nat)), [reOb (P ++ (A ++ x :: Q))]⟩)
  (fun i => i.1 ≤ i.2 ∧ i.2 ≤ A.length ∧ (∀ y, 0 < i.1 → A[i.1 - 1]? = some y → y.le x) ∧ (∀ y, A[i.2]? = some y → x.le y)) (fun i => i.2 - i.1) (0, A.length) ⟨Nat.zero_le _, Nat.le_refl _, fun y h => absurd h (Nat.lt_irrefl _), fun y h => by simp at h⟩ ?_ ?_
 ·exact Mv.of [some 0] rfl mv_re (by simp [f145_i22])
 rintro ⟨i, j⟩ ⟨h1, h2, h3, h4⟩
 simp only at h1 h2 h3 h4
 simp only [go_sem]
 by_cases hij : i < j
 case pos =>
  have hc : P.length + i < P.length + j := by omega
  obtain ⟨y, hy⟩ := get_ex (l := A) (i := (i + j) / 2) (by omega)
  have hg := gSeg (P := P) (R := x :: Q) hy
  have em := midW (P.length + i) (P.length + j) (by omega)
  rw [show (P.length + i + (P.length + j)) / 2 = P.length + (i + j) / 2 by omega] at em
  simp only [go_sem, Int.reduceEq, Int.reduceLE, Int.reduceLT, Int.reduceToNat, hc, em, hg, gM]
  refine (two x y).pv ⟨.same (Re.d_bl _), .same (Re.d_bl _), trivial⟩ ?_
  simp only [go_sem, Int.reduceEq, Int.reduceLE, Int.reduceLT, Int.reduceToNat]
  by_cases hlt : x.cmp y < 0
  ·simp only [go_sem, Int.reduceEq, Int.reduceLE, Int.reduceLT, Int.reduceToNat, hlt, em, Bool.not_true]
   refine ⟨(i, (i + j) / 2), ⟨show i ≤ (i + j) / 2 by omega, show (i + j) / 2 ≤ A.length by omega, h3, fun z hz => ?_⟩, show (i + j) / 2 - i < j - i by omega, Mv.of [some 0] rfl mv_re (by simp)⟩
   have hz' : A[(i + j) / 2]? = some z := hz
   rw [hy] at hz'
   cases hz'
   exact Re.lt_le hlt
  ·simp only [go_sem, Int.reduceEq, Int.reduceLE, Int.reduceLT, Int.reduceToNat, hlt, em, Bool.not_false]
   rw [wrap_succ _ (by omega)]
   refine ⟨((i + j) / 2 + 1, j), ⟨show (i + j) / 2 + 1 ≤ j by omega, h2, fun z _ hz => ?_, h4⟩, show j - ((i + j) / 2 + 1) < j - i by omega, Mv.of [some 0] rfl mv_re (by simp; rfl)⟩
   have hz' : A[(i + j) / 2]? = some z := hz
   rw [hy] at hz'
   cases hz'
   exact Re.not_lt.1 hlt
 case neg =>
  obtain rfl : i = j := by omega
  have hc : ¬ P.length + i < P.length + i := Nat.lt_irrefl _
  have eA : A = A.take i ++ A.drop i := (List.take_append_drop _ _).symm
  have l1 : (A.take i).length = i := by simp; omega
  have l2 : (A.drop i).length = A.length - i := by simp
  have hh1 : ∀ y, (A.take i)[(A.take i).length - 1]? = some y → y.le x := fun y hy => by
   rw [l1, List.getElem?_take] at hy
   split at hy
   ·rename_i h0; exact h3 y (by omega) hy
   ·cases hy
  have hh2 : ∀ y, (A.drop i)[0]? = some y → x.le y := fun y hy => by
   rw [List.getElem?_drop] at hy
   exact h4 y hy
  have hs := sort_back (B1 := A.take i) (B2 := A.drop i) (by rw [← eA]; exact hA) hh1 hh2
  rw [← eA] at hs
  simp only [go_sem, Int.reduceEq, Int.reduceLE, Int.reduceLT, Int.reduceToNat, hc]
  refine xl_loopM hT hm (fun c : List Re × List Re => ⟨f145_i27 (.own 0) (.i (P.length + i : Nat)) (.i (P.length + i + c.1.length : Nat)), [reOb (P ++ (A.take i ++ (c.1 ++ x :: (c.2 ++ Q))))]⟩)
   (fun c => c.1 ++ c.2 = A.drop i) (fun c => c.1.length) (A.drop i, []) (List.append_nil _) ?_ ?_
  ·have : P ++ (A.take i ++ (A.drop i ++ x :: ([] ++ Q))) = P ++ (A ++ x :: Q) := by
    rw [List.nil_append, ← List.append_assoc (A.take i), ← eA]
   dsimp only
   rw [this, show P.length + i + (A.drop i).length = P.length + A.length by omega]
   exact Mv.of [some 0] rfl mv_re (by simp [f145_i27])
  rintro ⟨c1, c2⟩ hcc
  simp only at hcc
  have hcl : c1.length + c2.length = A.length - i := by rw [← l2, ← hcc]; simp
  simp only [go_sem]
  have hc1 : c1 = [] ∨ ∃ c y, c1 = c ++ [y] := by
   rcases List.eq_nil_or_concat c1 with h | ⟨A', y, h⟩
   ·exact .inl h
   ·exact .inr ⟨A', y, by rw [h, List.concat_eq_append]⟩
  rcases hc1 with rfl | ⟨c, y, rfl⟩
  ·simp only [List.nil_append] at hcc
   simp only [go_sem, Int.reduceEq, Int.reduceLE, Int.reduceLT, Int.reduceToNat, List.length_nil, hc]
   have e : P ++ (A.take i ++ x :: (c2 ++ Q)) = P ++ (sortR (A ++ [x]) ++ Q) := by rw [hs, ← hcc]; simp
   rw [e]
   exact Fin.mv [some 0] rfl mv_re (by simp) ⟨rfl, rfl⟩
  ·simp only [List.length_append, List.length_singleton] at hcl
   obtain ⟨B, hB⟩ : ∃ B, B = P ++ A.take i ++ c := ⟨_, rfl⟩
   have hBl : B.length = P.length + i + c.length := by rw [hB]; simp; omega
   have hn : P.length + i < B.length + 1 := by omega
   obtain ⟨R, hR⟩ : ∃ R, R = c2 ++ Q := ⟨_, rfl⟩
   have hL : P ++ (A.take i ++ (c ++ [y] ++ x :: (c2 ++ Q))) = B ++ y :: (x :: R) := by rw [hB, hR]; simp
   have hL2 : P ++ (A.take i ++ (c ++ x :: (y :: c2 ++ Q))) = B ++ x :: (y :: R) := by rw [hB, hR]; simp
   have w2 : IntKind.i64.wrap (((B.length + 1 : Nat) : Int) - 1) = ((B.length : Nat) : Int) := by
    rw [wrap_int _ (by omega) (by omega)]; omega
   have p1 := pA B y [] x R
   have p2 := pB B y [] x R
   have p3 := pA B y [] y R
   have q1 := putB 27 B y [] x R y
   have q2 := putA 27 B y (y :: R) x
   simp only [List.nil_append, List.length_nil, Nat.add_zero] at p1 p2 p3 q1 q2
   rw [hL, show P.length + i + (c ++ [y]).length = B.length + 1 by simp; omega]
   simp only [go_sem, Int.reduceEq, Int.reduceLE, Int.reduceLT, Int.reduceToNat, hn, w2, p1, p2, p3, q1, q2]
   refine ⟨(c, y :: c2), by simpa using hcc, by simp, ?_⟩
   dsimp only
   rw [hL2, show P.length + i + c.length = B.length by omega]
   exact Mv.of [some 0] rfl mv_re (by simp)
end Go.Proofs.YtlejbkfefpfolaaGreatDoor.W
