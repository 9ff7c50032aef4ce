/- Part of a program logic over data: rules of the walk, each proved. -/
import Derived.Test.YtfpfcokhnddddaaDoorGen
import Derived.Test.YtfpfcokhnddddaaDoorMath
set_option linter.unusedVariables false
set_option linter.unusedSimpArgs false
set_option linter.unusedSectionVars false
set_option maxRecDepth 100000
namespace Go.Proofs.YtfpfcokhnddddaaDoor.W
open Go Go.Proofs Go.Proofs.YtfpfcokhnddddaaDoor.AWP

end Go.Proofs.YtfpfcokhnddddaaDoor.W

set_option maxRecDepth 100000
namespace Go.Proofs.YtfpfcokhnddddaaDoor.W
open Go Go.Proofs Go.Proofs.YtfpfcokhnddddaaDoor.AWP

end Go.Proofs.YtfpfcokhnddddaaDoor.W

set_option maxRecDepth 100000
namespace Go.Proofs.YtfpfcokhnddddaaDoor.W
open Go Go.Proofs Go.Proofs.YtfpfcokhnddddaaDoor.AWP

end Go.Proofs.YtfpfcokhnddddaaDoor.W

set_option maxRecDepth 100000
namespace Go.Proofs.YtfpfcokhnddddaaDoor.W
open Go Go.Proofs Go.Proofs.YtfpfcokhnddddaaDoor.AWP

end Go.Proofs.YtfpfcokhnddddaaDoor.W

set_option maxRecDepth 100000
namespace Go.Proofs.YtfpfcokhnddddaaDoor.W
open Go Go.Proofs Go.Proofs.YtfpfcokhnddddaaDoor.AWP

theorem count (most : Int) (x : Re) : AP Tryd.prog 28 [.agg x.c, .i most] (.i (x.cnt most)) := by
  refine Re.ind (p := fun x => AP Tryd.prog 28 [.agg x.c, .i most] (.i (x.cnt most))) ?_ x
  intro k a b c d ks ih
  refine AC.wf rfl fun hw => ?_
  have hlen : ks.length ≤ 9223372036854775807 := by
    have := Re.ok_agg (hw _ (List.mem_cons_self ..))
    rw [Re.Ok] at this
    exact this.2
  refine AC.lbody hT hm Tryd.func28 f28_nm f28_lc f28_res f28_nt ?_
  simp only [go_sem]
  refine xl_loopM hT hm (fun i : Nat × Int => ⟨f28_i9 (.i most) (.pel (Re.mk k a b c d ks).c) (.i i.2) (.i ks.length) (.i i.1), []⟩)
    (fun i : Nat × Int => i.1 ≤ ks.length ∧ Re.cnts most ks 1 = Re.cnts most (ks.drop i.1) i.2) (fun i => ks.length - i.1) (0, 1) ⟨Nat.zero_le _, rfl⟩ (Mv.none (by simp [f28_i9, Re.c_mk, Re.cs_eq])) ?_
  rintro ⟨i, t⟩ ⟨q1, q3⟩
  simp only at q1 q3
  simp only [go_sem]
  by_cases hi : i < ks.length
  · obtain ⟨x, hxi⟩ := get_ex hi
    simp only [go_sem, hi]
    by_cases hm : most < t
    · simp only [go_sem, hm]
      refine Fin.v ?_
      rw [Re.cnt, q3, drop_get hxi, Re.cnts, if_pos hm]
    · simp only [go_sem, hm, hxi]
      refine (ih x (List.mem_of_getElem? hxi)).pv (by simp) ?_
      simp only [go_sem]
      refine ⟨(i + 1, IntKind.wrap .i64 (t + x.cnt most)), ⟨hi, ?_⟩, by simp only; omega, ?_⟩
      · rw [q3, drop_get hxi, Re.cnts, if_neg hm]
      · rw [wrap_succ i (by omega)]
        exact Mv.none (by simp)
  · simp only [go_sem, hi]
    refine Fin.v ?_
    rw [Re.cnt, q3, drop_end hi, Re.cnts]

theorem great (most : Int) (x : Re) : AP Tryd.prog 7 [.agg x.c, .i most] (.b (decide (most < x.cnt most))) := by
  refine AC.lbody hT hm Tryd.func7 f7_nm f7_lc f7_res f7_nt ?_
  simp only [go_sem]
  refine (count most x).pv (by simp) ?_
  simp only [go_sem]
  exact Fin.v rfl
end Go.Proofs.YtfpfcokhnddddaaDoor.W

set_option maxRecDepth 100000
namespace Go.Proofs.YtfpfcokhnddddaaDoor.W
open Go Go.Proofs Go.Proofs.YtfpfcokhnddddaaDoor.AWP

end Go.Proofs.YtfpfcokhnddddaaDoor.W
