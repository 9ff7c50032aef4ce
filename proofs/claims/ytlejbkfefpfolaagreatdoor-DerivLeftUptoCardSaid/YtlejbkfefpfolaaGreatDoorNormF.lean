/- Whether two are the same; the normal form, of what may be; whether one is its own. -/
import Derived.Test.YtlejbkfefpfolaaGreatDoorNormA
set_option linter.unusedVariables false
set_option linter.unusedSimpArgs false
set_option linter.unusedSectionVars false
set_option maxRecDepth 100000
/- The document's: what one stands for in an Alt. -/
namespace Go.Proofs.YtlejbkfefpfolaaGreatDoor.W
open Go Go.Proofs Go.Proofs.YtlejbkfefpfolaaGreatDoor.AWP
attribute [local irreducible] xl hide aop aops aopQ qops guardP condP
section
variable {p q : Re} {om : List Ob} {K : St → Prop} {KP : D → St → Prop} {e10 e11 e12 e13 e14 e15 e16 e17 e18 : D} {t : OT}
end
end Go.Proofs.YtlejbkfefpfolaaGreatDoor.W
set_option maxRecDepth 100000
/- The document's: an Alt of some that are made with care. -/
namespace Go.Proofs.YtlejbkfefpfolaaGreatDoor.W
open Go Go.Proofs Go.Proofs.YtlejbkfefpfolaaGreatDoor.AWP
attribute [local irreducible] xl hide aop aops aopQ qops guardP condP
end Go.Proofs.YtlejbkfefpfolaaGreatDoor.W
set_option maxRecDepth 100000
/- The normal form, and the document's. -/
namespace Go.Proofs.YtlejbkfefpfolaaGreatDoor.W
open Go Go.Proofs Go.Proofs.YtlejbkfefpfolaaGreatDoor.AWP
attribute [local irreducible] xl hide aop aops aopQ qops guardP condP
theorem nrm2 {x y : Re} (hx : x.nodesOk = true) (hy : y.nodesOk = true) : ∀ z ∈ [x.nrm, y.nrm], z.nodesOk = true := by
  simp [nrm_ok x hx, nrm_ok y hy]
theorem nNorm (r : Re) : r.nodesOk = true → r.sz ≤ 5000 → AP Tryz.prog 58 [.agg r.c] (.agg r.nrm.c) := by
  intro hok
  refine Re.indOk (p := fun r => r.sz ≤ 5000 → AP Tryz.prog 58 [.agg r.c] (.agg r.nrm.c)) ?_ ?_ ?_ ?_ r hok
  · intro k hk hs
    rw [nrm_leaf]
    refine AC.lbody hT hm Tryz.func58 f58_nm f58_lc f58_res f58_nt ?_
    rcases hk with rfl | rfl
    all_goals
      simp only [go_sem, Int.reduceEq, Int.reduceLE, Int.reduceLT, Int.reduceToNat, Re.c_mk, Int.reduceBEq, Re.put0]
      first | exact finR rfl | exact Fin.ret (.eq (by simp [Re.c_mk, Re.cs_eq]) (by simp))
  · intro a b c d hn hs
    rw [nrm_leaf]
    refine AC.lbody hT hm Tryz.func58 f58_nm f58_lc f58_res f58_nt ?_
    simp only [go_sem, Int.reduceEq, Int.reduceLE, Int.reduceLT, Int.reduceToNat, Re.c_mk, Int.reduceBEq, Re.put0]
    first | exact finR rfl | exact Fin.ret (.eq (by simp [Re.c_mk, Re.cs_eq]) (by simp))
  · intro k x y hk hx hy ihx ihy hs
    rw [sz_two] at hs
    rw [nrm_two _ _ _ hk]
    have h1 := ihx (by omega)
    have h2 := ihy (by omega)
    have z1 := nrm_sz x hx
    have z2 := nrm_sz y hy
    refine AC.lbody hT hm Tryz.func58 f58_nm f58_lc f58_res f58_nt ?_
    rcases hk with rfl | rfl
    · simp only [go_sem, Int.reduceEq, Int.reduceLE, Int.reduceLT, Int.reduceToNat, Re.c_mk, Int.reduceBEq]
      refine h1.qd ⟨.same (Re.d_bl _), trivial⟩ (Re.d_bl _) ?_
      simp only [go_sem, Int.reduceEq, Int.reduceLE, Int.reduceLT, Int.reduceToNat]
      refine h2.pd ⟨.same (Re.d_bl _), trivial⟩ (Re.d_bl _) ?_
      simp only [go_sem, Int.reduceEq, Int.reduceLE, Int.reduceLT, Int.reduceToNat]
      refine (nSeq x.nrm (nrm_ok x hx) y.nrm).pd ⟨.same (Re.d_bl _), .same (Re.d_bl _), trivial⟩ (Re.d_bl _) ?_
      simp only [go_sem, Int.reduceEq, Int.reduceLE, Int.reduceLT, Int.reduceToNat, Re.put0]
      first | exact finR rfl | exact Fin.ret (.eq (by simp [Re.c_mk, Re.cs_eq]) (by simp))
    · have h3 := nAlt [x.nrm, y.nrm] (by rw [Re.szs, Re.szs, Re.szs]; omega) (nrm2 hx hy)
      simp only [go_sem, Int.reduceEq, Int.reduceLE, Int.reduceLT, Int.reduceToNat, Re.c_mk, Int.reduceBEq]
      refine h1.qd ⟨.same (Re.d_bl _), trivial⟩ (Re.d_bl _) ?_
      simp only [go_sem, Int.reduceEq, Int.reduceLE, Int.reduceLT, Int.reduceToNat]
      refine h2.pd ⟨.same (Re.d_bl _), trivial⟩ (Re.d_bl _) ?_
      simp only [go_sem, Int.reduceEq, Int.reduceLE, Int.reduceLT, Int.reduceToNat]
      refine h3.pd ⟨.same (Res_bl' [x.nrm, y.nrm]), trivial⟩ (Re.d_bl _) ?_
      simp only [go_sem, Int.reduceEq, Int.reduceLE, Int.reduceLT, Int.reduceToNat, Re.put0]
      first | exact finR rfl | exact Fin.ret (.eq (by simp [Re.c_mk, Re.cs_eq]) (by simp))
  · intro x hx ih hs
    rw [sz_one] at hs
    have h1 := ih (by omega)
    rw [nrm_star]
    refine AC.lbody hT hm Tryz.func58 f58_nm f58_lc f58_res f58_nt ?_
    simp only [go_sem, Int.reduceEq, Int.reduceLE, Int.reduceLT, Int.reduceToNat, Re.c_mk, Int.reduceBEq]
    refine h1.pd ⟨.same (Re.d_bl _), trivial⟩ (Re.d_bl _) ?_
    simp only [go_sem, Int.reduceEq, Int.reduceLE, Int.reduceLT, Int.reduceToNat]
    refine (nStar x.nrm).pd ⟨.same (Re.d_bl _), trivial⟩ (Re.d_bl _) ?_
    simp only [go_sem, Int.reduceEq, Int.reduceLE, Int.reduceLT, Int.reduceToNat, Re.put0]
    first | exact finR rfl | exact Fin.ret (.eq (by simp [Re.c_mk, Re.cs_eq]) (by simp))
end Go.Proofs.YtlejbkfefpfolaaGreatDoor.W
set_option maxRecDepth 100000
/- Whether two are the same; the normal form, of what may be; whether one is its own. -/
namespace Go.Proofs.YtlejbkfefpfolaaGreatDoor.W
open Go Go.Proofs Go.Proofs.YtlejbkfefpfolaaGreatDoor.AWP
attribute [local irreducible] xl hide aop aops aopQ qops guardP condP
/-! ### What may be -/
def nrmZ (r : Re) : Re := if mayB r = true then r.nrm else .mk 0 0 0 0 0 []
theorem nNormZ (r : Re) (hz : r.sz ≤ 1048576) : AP Tryz.prog 33 [.agg r.c] (.agg (nrmZ r).c) := by
  have hmy := may r (by omega)
  unfold nrmZ
  refine AC.lbody hT hm Tryz.func33 f33_nm f33_lc f33_res f33_nt ?_
  simp only [go_sem, Int.reduceEq, Int.reduceLE, Int.reduceLT, Int.reduceToNat]
  refine hmy.pv ⟨.same (Res_bl' [r]), trivial⟩ ?_
  rcases mayCase r with h | h
  · simp only [go_sem, Int.reduceEq, Int.reduceLE, Int.reduceLT, Int.reduceToNat, h, Re.put0]
    exact Fin.ret (.aggL (by simp [CvL, Re.c_mk, Re.cs_eq]))
  · obtain ⟨h1, h2⟩ := mayZ h
    simp only [go_sem, Int.reduceEq, Int.reduceLE, Int.reduceLT, Int.reduceToNat, h]
    refine (nNorm r h1 (by omega)).pd ⟨.same (Re.d_bl _), trivial⟩ (Re.d_bl _) ?_
    simp only [go_sem, Int.reduceEq, Int.reduceLE, Int.reduceLT, Int.reduceToNat, Re.put0]
    exact finR (by simp)
end Go.Proofs.YtlejbkfefpfolaaGreatDoor.W
