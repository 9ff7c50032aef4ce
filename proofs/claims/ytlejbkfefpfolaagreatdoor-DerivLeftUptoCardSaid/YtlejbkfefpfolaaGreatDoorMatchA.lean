/- Places in a text: one alone; joined. Is a byte in a set? -/
import Derived.Test.YtlejbkfefpfolaaGreatDoorNormF
import Derived.Test.YtlejbkfefpfolaaGreatDoorMath
set_option linter.unusedVariables false
set_option linter.unusedSimpArgs false
set_option linter.unusedSectionVars false
set_option maxRecDepth 100000
/- Places in a text: one alone; joined. Is a byte in a set? -/
namespace Go.Proofs.YtlejbkfefpfolaaGreatDoor.W
open Go Go.Proofs Go.Proofs.YtlejbkfefpfolaaGreatDoor.AWP
attribute [local irreducible] xl hide aop aops aopQ qops guardP condP
abbrev bls (p : List Bool) : List (List D) := p.map fun b => [.b b]
abbrev Bls (p : List Bool) : D := .sl 1 (bls p)
abbrev blOb (p : List Bool) : Ob := .slc 4 1 (bls p)
theorem bls_bl (p : List Bool) : ∀ r ∈ bls p, ∀ d ∈ r, Bl 0 d := by
  intro r hr d hd
  obtain ⟨b, _, rfl⟩ := List.mem_map.1 hr
  rw [List.mem_singleton.1 hd]
  exact .v _
theorem Bls_bl (p : List Bool) : Bl 0 (Bls p) := .sl (bls_bl p)
theorem bls_rep (n : Nat) : List.replicate n [D.v (.bool false)] = bls (List.replicate n false) := by simp [bls]
theorem bls_set (p : List Bool) (i : Nat) (b : Bool) : (bls p).set i [.v (.bool b)] = bls (p.set i b) := by
  unfold bls
  rw [List.map_set]
theorem bls_get {p : List Bool} {i : Nat} {b : Bool} (h : p[i]? = some b) : (bls p)[i]? = some [.b b] := by simp [bls, h]
theorem setHas (ws : List Int) (hw : W64 ws) (b : UInt8) : AP Tryz.prog 51 [Ws ws, .y b] (.b (hasB ws b.toNat)) := by
  refine AC.lbody hT hm Tryz.func51 f51_nm f51_lc f51_res f51_nt ?_
  have hb4 := lt4 b
  have hg : ((ws.map wD).drop (b.toNat / 64))[0]? = some (wD (ws.getD (b.toNat / 64) 0)) := by
    rw [List.getElem?_drop, Nat.add_zero]
    exact wD_get (by rw [hw.len]; exact hb4)
  simp only [go_sem, Int.reduceEq, Int.reduceLE, Int.reduceLT, Int.reduceToNat, q64, r64, hb4, hg, wD_eq]
  exact Fin.v (by rw [has_bit hw])
theorem or_take {p q : List Bool} {i : Nat} {x y : Bool} (h1 : p[i]? = some x) (h2 : q[i]? = some y) : orL (p.take (i + 1)) (q.take (i + 1)) = orL (p.take i) (q.take i) ++ [x || y] := by
  have l1 : (p.take i).length = i := by have := (List.getElem?_eq_some_iff.1 h1).1; simp; omega
  have l2 : (q.take i).length = i := by have := (List.getElem?_eq_some_iff.1 h2).1; simp; omega
  unfold orL
  rw [List.take_add_one, List.take_add_one, h1, h2]
  simp only [Option.toList_some]
  rw [List.zipWith_append (by omega)]
  rfl
theorem new_take {p q : List Bool} {i : Nat} {x y : Bool} (h1 : p[i]? = some x) (h2 : q[i]? = some y) : newL (p.take (i + 1)) (q.take (i + 1)) = (newL (p.take i) (q.take i) || (y && !x)) := by
  have l1 : (p.take i).length = i := by have := (List.getElem?_eq_some_iff.1 h1).1; simp; omega
  have l2 : (q.take i).length = i := by have := (List.getElem?_eq_some_iff.1 h2).1; simp; omega
  unfold newL
  rw [List.take_add_one, List.take_add_one, h1, h2]
  simp only [Option.toList_some]
  rw [List.zipWith_append (by omega)]
  simp
end Go.Proofs.YtlejbkfefpfolaaGreatDoor.W
