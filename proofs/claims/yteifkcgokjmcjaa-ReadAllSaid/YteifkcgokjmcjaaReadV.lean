/- The expressions of any texts, or the first one with an error, are the document's. -/
import Derived.Test.YteifkcgokjmcjaaReadB
set_option linter.unusedVariables false
set_option linter.unusedSimpArgs false
set_option linter.unusedSectionVars false
set_option maxRecDepth 100000
/- The expressions of any texts, or the first one with an error, are the document's. -/
namespace Go.Proofs.Yteifkcgokjmcjaa.W
open Go Go.Proofs Go.Proofs.Yteifkcgokjmcjaa.AWP
attribute [local irreducible] xl hide aop aops aopQ qops guardP condP

/-- The first text with an error, and its number. -/
def firstBad : List ByteArray → Nat → Option (Nat × Nat)
  | [], _ => none
  | s :: l, i => if (pRead s).2.2 ≠ 0 then some (i, (pRead s).2.2) else firstBad l (i + 1)
theorem firstBad_app (x : ByteArray) : ∀ (l : List ByteArray) (k : Nat), firstBad (l ++ [x]) k = (match firstBad l k with
    | some y => some y
    | none => if (pRead x).2.2 ≠ 0 then some (k + l.length, (pRead x).2.2) else none)
  | [], k => rfl
  | s :: l, k => by
    rw [List.cons_append, firstBad, firstBad]
    by_cases h : (pRead s).2.2 ≠ 0
    · rw [if_pos h, if_pos h]
    · rw [if_neg h, if_neg h, firstBad_app x l (k + 1), List.length_cons, show k + 1 + l.length = k + (l.length + 1) from by omega]
theorem firstBad_nz : ∀ (l : List ByteArray) (k : Nat) {i e : Nat}, firstBad l k = some (i, e) → e ≠ 0
  | [], k, i, e, h => by cases h
  | s :: l, k, i, e, h => by
    rw [firstBad] at h
    split at h
    · rename_i h0; cases h; exact h0
    · exact firstBad_nz l _ h
theorem firstBad_all : ∀ (l : List ByteArray) (k : Nat), (l.all fun s => decide ((pRead s).2.2 = 0)) = (firstBad l k).isNone
  | [], k => rfl
  | s :: l, k => by
    rw [List.all_cons, firstBad, firstBad_all l (k + 1)]
    by_cases h : (pRead s).2.2 = 0
    · simp [h]
    · simp [h]
def pAll (l : List ByteArray) : List Re × Nat × Nat :=
  match firstBad l 0 with
  | some (i, e) => ([], i, e)
  | none => (l.map fun s => (pRead s).1, 0, 0)
abbrev reads (l : List ByteArray) : List Re := l.map fun s => (pRead s).1
theorem reads_take {l : List ByteArray} {i : Nat} {x : ByteArray} (h : l[i]? = some x) : reads (l.take (i + 1)) = reads (l.take i) ++ [(pRead x).1] := by
  unfold reads
  rw [List.take_add_one, h]
  simp

theorem allN (l : List ByteArray) (hl : l.length ≤ 20) : AP Try.prog 20 [Strs l] (.tup [Res (pAll l).1, .i (pAll l).2.1, .i (pAll l).2.2]) := by
  refine AC.lbody hT hm Try.func20 f20_nm f20_lc f20_res f20_nt ?_
  simp only [go_sem, Int.reduceEq, Int.reduceLE, Int.reduceLT, Int.reduceToNat]
  refine xl_loopM hT hm (fun i : Nat => ⟨f20_i10 (.own 0) (Strs l) (.i l.length) (.i i), [lsOb (reads (l.take i))]⟩)
    (fun i => i ≤ l.length ∧ firstBad l 0 = firstBad (l.drop i) i) (fun i => l.length - i) 0 ⟨Nat.zero_le _, rfl⟩ ?_ ?_
  · exact Mv.of [none] rfl ⟨.nil (by omega), trivial⟩ (by simp [f20_i10])
  rintro i ⟨hi, hf⟩
  simp only [go_sem, Int.reduceEq, Int.reduceLE, Int.reduceLT, Int.reduceToNat]
  by_cases h : i < l.length
  case neg =>
    have ht : l.take i = l := List.take_of_length_le (by omega)
    rw [drop_end h] at hf
    simp only [go_sem, Int.reduceEq, Int.reduceLE, Int.reduceLT, Int.reduceToNat, h]
    unfold pAll
    rw [hf, ht]
    exact Fin.ret (.tupL ⟨cvLs rfl rfl, .v, .v, trivial⟩)
  obtain ⟨x, hx⟩ := get_ex h
  have hr := reads_take hx
  rw [drop_get hx, firstBad] at hf
  simp only [go_sem, Int.reduceEq, Int.reduceLE, Int.reduceLT, Int.reduceToNat, h, hx]
  refine (readN x).pd ⟨.v, trivial⟩ (wdD_bl _) ?_
  generalize pRead x = y at hr hf ⊢
  obtain ⟨r, p, e⟩ := y
  dsimp only at hr hf
  simp only [go_sem, Int.reduceEq, Int.reduceLE, Int.reduceLT, Int.reduceToNat]
  by_cases he : e = 0
  case neg =>
    have e1 : ((e : Int) != 0) = true := bne_true (by omega)
    simp only [go_sem, Int.reduceEq, Int.reduceLE, Int.reduceLT, Int.reduceToNat, e1]
    rw [if_pos he] at hf
    unfold pAll
    rw [hf]
    exact Fin.ret (.tupL ⟨by show Cv _ _ _ _ (.sl 6 (Re.cs [])); rw [Re.cs]; exact .nil, .v, .v, trivial⟩)
  subst he
  have e1 : (((0 : Nat) : Int) != 0) = false := rfl
  rw [if_neg (by simp)] at hf
  simp only [go_sem, Int.reduceEq, Int.reduceLE, Int.reduceLT, Int.reduceToNat, e1]
  refine ⟨by rw [List.length_take]; omega, i + 1, ⟨h, hf⟩, by omega, ?_⟩
  rw [wrap_succ i (by omega), hr]
  exact Mv.of [some 2] rfl ⟨.slcS (by simp) (Re.map_bl _), trivial⟩ (by simp [f20_i10])
end Go.Proofs.Yteifkcgokjmcjaa.W
