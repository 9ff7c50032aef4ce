/- Places in a text: one alone; joined. Is a byte in a set? -/
import Derived.Test.YtlejbkfefpfolaaDoorNormF
import Derived.Test.YtlejbkfefpfolaaDoorMath
set_option linter.unusedVariables false
set_option linter.unusedSimpArgs false
set_option linter.unusedSectionVars false
set_option maxRecDepth 100000
/- Places in a text: one alone; joined. Is a byte in a set? -/
namespace Go.Proofs.YtlejbkfefpfolaaDoor.W
open Go Go.Proofs Go.Proofs.YtlejbkfefpfolaaDoor.AWP
attribute [local irreducible] xl hide aop aops aopQ qops guardP condP
abbrev bls (p : List Bool) : List (List D) := p.map fun b => [.b b]
abbrev Bls (p : List Bool) : D := .sl 1 (bls p)
abbrev blOb (p : List Bool) : Ob := .slc 4 1 (bls p)
theorem bls_bl (p : List Bool) : ∀ r ∈ bls p, ∀ d ∈ r, Bl 0 d := by
  intro r hr d hd
  obtain ⟨b, _, rfl⟩ := List.mem_map.1 hr
  rw [List.mem_singleton.1 hd]
  exact .v _
theorem Bls_bl (p : List Bool) : Bl 0 (Bls p) := .sl (bls_bl p)
theorem bls_set (p : List Bool) (i : Nat) (b : Bool) : (bls p).set i [.v (.bool b)] = bls (p.set i b) := by
  unfold bls
  rw [List.map_set]
theorem bls_get {p : List Bool} {i : Nat} {b : Bool} (h : p[i]? = some b) : (bls p)[i]? = some [.b b] := by simp [bls, h]
theorem setHas (ws : List Int) (hw : W64 ws) (b : UInt8) : AP Tryd.prog 47 [Ws ws, .y b] (.b (hasB ws b.toNat)) := by
  refine AC.lbody hT hm Tryd.func47 f47_nm f47_lc f47_res f47_nt ?_
  have hb4 := lt4 b
  have hg : ((ws.map wD).drop (b.toNat / 64))[0]? = some (wD (ws.getD (b.toNat / 64) 0)) := by
    rw [List.getElem?_drop, Nat.add_zero]
    exact wD_get (by rw [hw.len]; exact hb4)
  simp only [go_sem, Int.reduceEq, Int.reduceLE, Int.reduceLT, Int.reduceToNat, q64, r64, hb4, hg, wD_eq]
  exact Fin.v (by rw [has_bit hw])
theorem or_take {p q : List Bool} {i : Nat} {x y : Bool} (h1 : p[i]? = some x) (h2 : q[i]? = some y) : orL (p.take (i + 1)) (q.take (i + 1)) = orL (p.take i) (q.take i) ++ [x || y] := by
  have l1 : (p.take i).length = i := by have := (List.getElem?_eq_some_iff.1 h1).1; simp; omega
  have l2 : (q.take i).length = i := by have := (List.getElem?_eq_some_iff.1 h2).1; simp; omega
  unfold orL
  rw [List.take_add_one, List.take_add_one, h1, h2]
  simp only [Option.toList_some]
  rw [List.zipWith_append (by omega)]
  rfl
theorem new_take {p q : List Bool} {i : Nat} {x y : Bool} (h1 : p[i]? = some x) (h2 : q[i]? = some y) : newL (p.take (i + 1)) (q.take (i + 1)) = (newL (p.take i) (q.take i) || (y && !x)) := by
  have l1 : (p.take i).length = i := by have := (List.getElem?_eq_some_iff.1 h1).1; simp; omega
  have l2 : (q.take i).length = i := by have := (List.getElem?_eq_some_iff.1 h2).1; simp; omega
  unfold newL
  rw [List.take_add_one, List.take_add_one, h1, h2]
  simp only [Option.toList_some]
  rw [List.zipWith_append (by omega)]
  simp
theorem join (p q : List Bool) (h : p.length = q.length) (hp : p.length ≤ 1000000) : AC Tryd.prog 48 [.own 0, Bls q] [blOb p] (fun o om => o = .ret (.b (newL p q)) ∧ om = [blOb (orL p q)]) := by
  refine AC.lbody hT hm Tryd.func48 f48_nm f48_lc f48_res f48_nt ?_
  simp only [go_sem, Int.reduceEq, Int.reduceLE, Int.reduceLT, Int.reduceToNat, List.length_map]
  refine xl_loopM hT hm (fun i : Nat => ⟨f48_i8 (.own 0) (.b (newL (p.take i) (q.take i))) (Bls q) (.i q.length) (.i i), [blOb (orL (p.take i) (q.take i) ++ p.drop i)]⟩)
    (fun i => i ≤ p.length) (fun i => p.length - i) 0 (Nat.zero_le _) ?_ ?_
  · refine Mv.of [some 0] rfl ⟨.slcS (by simp [orL]) (bls_bl _), trivial⟩ ?_
    have hq : Cv [blOb p] (kF [some 0]) [some 0] (Bls q) (Bls q) := .same (Bls_bl q)
    simp [f48_i8, newL, hq]
  intro i hi
  simp only [go_sem, Int.reduceEq, Int.reduceLE, Int.reduceLT, Int.reduceToNat, List.length_map]
  by_cases hiq : i < q.length
  case neg =>
    have t1 : p.take i = p := List.take_of_length_le (by omega)
    have t2 : q.take i = q := List.take_of_length_le (by omega)
    have t3 : p.drop i = [] := List.drop_eq_nil_of_le (by omega)
    simp only [go_sem, Int.reduceEq, Int.reduceLE, Int.reduceLT, Int.reduceToNat, hiq, t1, t2, t3]
    exact Fin.mv (om' := [blOb (orL p q)]) [some 0] rfl ⟨.slcS rfl (bls_bl _), trivial⟩ .v ⟨rfl, rfl⟩
  obtain ⟨x, hx⟩ := get_ex (l := p) (show i < p.length by omega)
  obtain ⟨y, hy⟩ := get_ex hiq
  have ho := or_take hx hy
  have hn := new_take hx hy
  have hol : (orL (p.take i) (q.take i)).length = i := by rw [orL_len (by simp; omega)]; simp; omega
  generalize orL (p.take i) (q.take i) = o at ho hol ⊢
  generalize newL (p.take i) (q.take i) = nn at hn ⊢
  have hcur : (o ++ p.drop i)[i]? = some x := by
    rw [List.getElem?_append_right (by omega), hol, Nat.sub_self, List.getElem?_drop, Nat.add_zero]
    exact hx
  have hg := bls_get hcur
  have hgq := bls_get hy
  have hst : ∀ b, (bls (o ++ p.drop i)).set i [.v (.bool b)] = bls (o ++ [b] ++ p.drop (i + 1)) := by
    intro b
    rw [bls_set]
    congr 1
    rw [List.set_append_right _ _ (by omega), hol, Nat.sub_self, drop_get hx, List.set_cons_zero]
    simp
  have hil : i < (o ++ p.drop i).length := (List.getElem?_eq_some_iff.1 hcur).1
  have fin : ∀ (env : List D) (om : List Ob) (b : Bool), om = [blOb (o ++ [b] ++ p.drop (i + 1))] → True := fun _ _ _ _ => trivial
  clear fin
  have hw := wrap_succ i (by omega)
  have hq : ∀ om : List Ob, Cv om (kF [some 0]) [some 0] (Bls q) (Bls q) := fun om => .same (Bls_bl q)
  cases nn <;> cases y <;> cases x
  all_goals
    simp only [go_sem, Int.reduceEq, Int.reduceLE, Int.reduceLT, Int.reduceToNat, hiq, hg, hgq, List.length_map, hil, hst, Nat.div_one, Nat.mod_one, Bool.not_true, Bool.not_false, hw]
    refine ⟨i + 1, by omega, by omega, ?_⟩
    rw [ho, hn]
    exact Mv.of [some 0] rfl ⟨.slcS (by simp) (bls_bl _), trivial⟩ (by simp [f48_i8, hq])
end Go.Proofs.YtlejbkfefpfolaaDoor.W
