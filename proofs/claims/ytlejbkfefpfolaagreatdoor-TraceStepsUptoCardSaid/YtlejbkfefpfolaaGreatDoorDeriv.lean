/- The derivative is the one that is defined; so are the steps. -/
import Derived.Test.YtlejbkfefpfolaaGreatDoorMatchA
import Derived.Test.YtlejbkfefpfolaaGreatDoorMathB
set_option linter.unusedVariables false
set_option linter.unusedSimpArgs false
set_option linter.unusedSectionVars false
set_option maxRecDepth 100000
namespace Go.Proofs.YtlejbkfefpfolaaGreatDoor.W
open Go Go.Proofs Go.Proofs.YtlejbkfefpfolaaGreatDoor.AWP
attribute [local irreducible] xl hide aop aops aopQ qops guardP condP
theorem nulB_of {x : Re} (h : x.nodesOk = true) (hz : x.sz ≤ 2000) : nulB x = x.nul := by unfold nulB; rw [may_of h hz, Bool.true_and]
theorem sz2 (k : Int) (x y : Re) : (Re.mk k 0 0 0 0 [x, y]).sz = 1 + (x.sz + y.sz) := by simp [Re.sz, Re.szs]
theorem sz1 (x : Re) : (Re.mk 6 0 0 0 0 [x]).sz = 1 + x.sz := by simp [Re.sz, Re.szs]
theorem rex0T : AP Tryz.prog 52 [Res []] (.agg epsR.c) := rexThen [] (by simp)
theorem rex0O : AP Tryz.prog 53 [Res []] (.agg empR.c) := rexOr [] (by simp)
theorem rex2T (x y : Re) : AP Tryz.prog 52 [.sl 6 [x.c, y.c]] (.agg (Re.mk 4 0 0 0 0 [x, y]).c) := by
 have := rexThen [x, y] (by simp)
 have e : Res [x, y] = .sl 6 [x.c, y.c] := by show D.sl 6 (Re.cs [x, y]) = _; rw [Re.cs_eq]; rfl
 rw [e] at this
 exact this
theorem rex2O (x y : Re) : AP Tryz.prog 53 [.sl 6 [x.c, y.c]] (.agg (Re.mk 5 0 0 0 0 [x, y]).c) := by
 have := rexOr [x, y] (by simp)
 have e : Res [x, y] = .sl 6 [x.c, y.c] := by show D.sl 6 (Re.cs [x, y]) = _; rw [Re.cs_eq]; rfl
 rw [e] at this
 exact this
theorem two_bl (x y : Re) : Bl 0 (.sl 6 [x.c, y.c]) := .sl fun r hr d hd => by
 rcases List.mem_cons.1 hr with rfl | hr
 ·exact Re.c_bl _ d hd
 ·rw [List.mem_singleton.1 hr] at hd; exact Re.c_bl _ d hd
theorem one_bl (x : Re) : Bl 0 (.sl 6 [x.c]) := .sl fun r hr d hd => by
 rw [List.mem_singleton.1 hr] at hd; exact Re.c_bl _ d hd
theorem stFit_re (x : Re) : stFit T 27 (.agg x.c) := ⟨_, _, rfl, rfl, by cases x; rw [Re.c_mk]; rfl⟩
set_option maxHeartbeats 1000000 in
theorem nDrv (b : UInt8) (r : Re) (hok : r.nodesOk = true) : r.wd → r.sz ≤ 2000 → AP Tryz.prog 30 [.agg r.c, .y b] (.agg (r.drv b.toNat).c) := by
 refine Re.indOk (p := fun r => r.wd → r.sz ≤ 2000 → AP Tryz.prog 30 [.agg r.c, .y b] (.agg (r.drv b.toNat).c)) ?_ ?_ ?_ ?_ r hok
 ·intro k hk _ _
  rw [drv_leaf hk]
  refine AC.lbody hT hm Tryz.func30 f30_nm f30_lc f30_res f30_nt ?_
  rcases hk with rfl | rfl
  all_goals
   simp only [go_sem, Int.reduceEq, Int.reduceLE, Int.reduceLT, Int.reduceToNat, Re.c_mk, Int.reduceBEq]
   refine rex0O.pd ⟨.nil, trivial⟩ (Re.d_bl _) ?_
   simp only [go_sem, Int.reduceEq, Int.reduceLE, Int.reduceLT, Int.reduceToNat, Re.put0]
   first | exact finR rfl | exact Fin.ret (.eq (by simp [Re.c_mk, Re.cs_eq]) (by simp))
 ·intro a1 a2 a3 a4 _ hw _
  rw [Re.wd] at hw
  have hh := setHas [a1, a2, a3, a4] hw.1 b
  rw [drv_cls]
  refine AC.lbody hT hm Tryz.func30 f30_nm f30_lc f30_res f30_nt ?_
  simp only [go_sem, Int.reduceEq, Int.reduceLE, Int.reduceLT, Int.reduceToNat, Re.c_mk, Int.reduceBEq]
  refine hh.pv ⟨.same (.agg (W_bl [a1, a2, a3, a4])), .v, trivial⟩ ?_
  cases hb : hasB [a1, a2, a3, a4] b.toNat with
  | true =>
   simp only [go_sem, Int.reduceEq, Int.reduceLE, Int.reduceLT, Int.reduceToNat]
   refine rex0T.pd ⟨.nil, trivial⟩ (Re.d_bl _) ?_
   simp only [go_sem, Int.reduceEq, Int.reduceLE, Int.reduceLT, Int.reduceToNat, Re.put0]
   first | exact finR rfl | exact Fin.ret (.eq (by simp [Re.c_mk, Re.cs_eq]) (by simp))
  | false =>
   simp only [go_sem, Int.reduceEq, Int.reduceLE, Int.reduceLT, Int.reduceToNat]
   refine rex0O.pd ⟨.nil, trivial⟩ (Re.d_bl _) ?_
   simp only [go_sem, Int.reduceEq, Int.reduceLE, Int.reduceLT, Int.reduceToNat, Re.put0]
   first | exact finR rfl | exact Fin.ret (.eq (by simp [Re.c_mk, Re.cs_eq]) (by simp))
 ·intro k x y hk hx hy ihx ihy hw hz
  rw [sz2] at hz
  obtain ⟨w1, w2⟩ := wd2 hw
  have cx := ihx w1 (by omega)
  have cy := ihy w2 (by omega)
  have hn := nullNull1 x (by omega)
  rw [nulB_of hx (by omega)] at hn
  rcases hk with rfl | rfl
  ·rw [drv_seq]
   have t1 := rex2T (x.drv b.toNat) y
   have t2 := rex2O (.mk 4 0 0 0 0 [x.drv b.toNat, y]) (y.drv b.toNat)
   generalize x.drv b.toNat = dx at cx t1 t2 ⊢
   generalize y.drv b.toNat = dy at cy t2 ⊢
   refine AC.lbody hT hm Tryz.func30 f30_nm f30_lc f30_res f30_nt ?_
   simp only [go_sem, Int.reduceEq, Int.reduceLE, Int.reduceLT, Int.reduceToNat, Re.c_mk, Re.cs_eq, Int.reduceBEq, ne_eq, reduceCtorEq, not_false_eq_true, implies_true]
   refine ⟨stFit_re x, ?_⟩
   refine cx.qd ⟨.same (Re.d_bl _), .v, trivial⟩ (Re.d_bl _) ?_
   simp only [go_sem, Int.reduceEq, Int.reduceLE, Int.reduceLT, Int.reduceToNat, ne_eq, reduceCtorEq, not_false_eq_true, implies_true]
   refine t1.qd ⟨.same (two_bl _ _), trivial⟩ (Re.d_bl _) ?_
   simp only [go_sem, Int.reduceEq, Int.reduceLE, Int.reduceLT, Int.reduceToNat, ne_eq, reduceCtorEq, not_false_eq_true, implies_true]
   refine hn.pv ⟨.same (one_bl x), trivial⟩ ?_
   cases hnx : x.nul with
   | true =>
    simp only [go_sem, Int.reduceEq, Int.reduceLE, Int.reduceLT, Int.reduceToNat]
    refine cy.qd ⟨.same (Re.d_bl _), .v, trivial⟩ (Re.d_bl _) ?_
    have hb2 := two_bl (.mk 4 0 0 0 0 [dx, y]) dy
    simp only [go_sem, Int.reduceEq, Int.reduceLE, Int.reduceLT, Int.reduceToNat, Re.c_mk, Re.cs_eq] at t2 hb2 ⊢
    refine t2.pd ⟨.same hb2, trivial⟩ (by simp) ?_
    simp only [go_sem, Int.reduceEq, Int.reduceLE, Int.reduceLT, Int.reduceToNat, Re.put0]
    first | exact finR rfl | exact Fin.ret (.eq (by simp [Re.c_mk, Re.cs_eq]) (by simp))
   | false =>
    simp only [go_sem, Int.reduceEq, Int.reduceLE, Int.reduceLT, Int.reduceToNat, Re.put0]
    first | exact finR rfl | exact Fin.ret (.eq (by simp [Re.c_mk, Re.cs_eq]) (by simp))
  ·rw [drv_alt]
   have t2 := rex2O (x.drv b.toNat) (y.drv b.toNat)
   generalize x.drv b.toNat = dx at cx t2 ⊢
   generalize y.drv b.toNat = dy at cy t2 ⊢
   refine AC.lbody hT hm Tryz.func30 f30_nm f30_lc f30_res f30_nt ?_
   simp only [go_sem, Int.reduceEq, Int.reduceLE, Int.reduceLT, Int.reduceToNat, Re.c_mk, Re.cs_eq, Int.reduceBEq]
   refine cx.qd ⟨.same (Re.d_bl _), .v, trivial⟩ (Re.d_bl _) ?_
   simp only [go_sem, Int.reduceEq, Int.reduceLE, Int.reduceLT, Int.reduceToNat]
   refine cy.pd ⟨.same (Re.d_bl _), .v, trivial⟩ (Re.d_bl _) ?_
   simp only [go_sem, Int.reduceEq, Int.reduceLE, Int.reduceLT, Int.reduceToNat]
   refine t2.pd ⟨.same (two_bl _ _), trivial⟩ (Re.d_bl _) ?_
   simp only [go_sem, Int.reduceEq, Int.reduceLE, Int.reduceLT, Int.reduceToNat, Re.put0]
   first | exact finR rfl | exact Fin.ret (.eq (by simp [Re.c_mk, Re.cs_eq]) (by simp))
 ·intro x hx ih hw hz
  rw [sz1] at hz
  have cx := ih (wd1 hw) (by omega)
  rw [drv_star]
  have t1 := rex2T (x.drv b.toNat) (.mk 6 0 0 0 0 [x])
  generalize x.drv b.toNat = dx at cx t1 ⊢
  have hbl := two_bl dx (.mk 6 0 0 0 0 [x])
  refine AC.lbody hT hm Tryz.func30 f30_nm f30_lc f30_res f30_nt ?_
  simp only [go_sem, Int.reduceEq, Int.reduceLE, Int.reduceLT, Int.reduceToNat, Re.c_mk, Re.cs_eq, Int.reduceBEq] at t1 hbl ⊢
  refine cx.qd ⟨.same (Re.d_bl _), .v, trivial⟩ (Re.d_bl _) ?_
  simp only [go_sem, Int.reduceEq, Int.reduceLE, Int.reduceLT, Int.reduceToNat, Re.c_mk, Re.cs_eq]
  refine t1.pd ⟨.same hbl, trivial⟩ (by simp) ?_
  simp only [go_sem, Int.reduceEq, Int.reduceLE, Int.reduceLT, Int.reduceToNat, Re.put0]
  first | exact finR rfl | exact Fin.ret (.eq (by simp [Re.c_mk, Re.cs_eq]) (by simp))
end Go.Proofs.YtlejbkfefpfolaaGreatDoor.W
set_option maxRecDepth 100000
namespace Go.Proofs.YtlejbkfefpfolaaGreatDoor.W
open Go Go.Proofs Go.Proofs.YtlejbkfefpfolaaGreatDoor.AWP
attribute [local irreducible] xl hide aop aops aopQ qops guardP condP
set_option maxHeartbeats 1000000 in
theorem rDrv (b : UInt8) (r : Re) (hok : r.nodesOk = true) : r.wd → AP Tryz.prog 32 [.agg r.c, .y b] (.agg (r.drv b.toNat).c) := by
 have hwu : IntKind.wrap .i64 (b.toNat : Int) = (b.toNat : Int) := wrap_nat _ (by have := b.toNat_lt; omega)
 refine Re.indOk (p := fun r => r.wd → AP Tryz.prog 32 [.agg r.c, .y b] (.agg (r.drv b.toNat).c)) ?_ ?_ ?_ ?_ r hok
 ·intro k hk _
  rw [drv_leaf hk]
  refine AC.lbody hT hm Tryz.func32 f32_nm f32_lc f32_res f32_nt ?_
  rcases hk with rfl | rfl
  all_goals
   simp only [go_sem, Int.reduceEq, Int.reduceLE, Int.reduceLT, Int.reduceToNat, Re.c_mk, Int.reduceBEq]
   refine (bare 1).pd ⟨.v, trivial⟩ (Re.d_bl _) ?_
   simp only [go_sem, Int.reduceEq, Int.reduceLE, Int.reduceLT, Int.reduceToNat, Re.put0]
   first | exact finR rfl | exact Fin.ret (.eq (by simp [Re.c_mk, Re.cs_eq]) (by simp))
 ·intro a1 a2 a3 a4 _ hw
  rw [Re.wd] at hw
  have hh := rHas [a1, a2, a3, a4] hw.1 b.toNat b.toNat_lt
  rw [drv_cls]
  refine AC.lbody hT hm Tryz.func32 f32_nm f32_lc f32_res f32_nt ?_
  simp only [go_sem, Int.reduceEq, Int.reduceLE, Int.reduceLT, Int.reduceToNat, Re.c_mk, Int.reduceBEq, hwu]
  refine hh.pv ⟨.same (.agg (W_bl [a1, a2, a3, a4])), .v, trivial⟩ ?_
  cases hb : hasB [a1, a2, a3, a4] b.toNat with
  | true =>
   simp only [go_sem, Int.reduceEq, Int.reduceLE, Int.reduceLT, Int.reduceToNat]
   refine (bare 2).pd ⟨.v, trivial⟩ (Re.d_bl _) ?_
   simp only [go_sem, Int.reduceEq, Int.reduceLE, Int.reduceLT, Int.reduceToNat, Re.put0]
   first | exact finR rfl | exact Fin.ret (.eq (by simp [Re.c_mk, Re.cs_eq]) (by simp))
  | false =>
   simp only [go_sem, Int.reduceEq, Int.reduceLE, Int.reduceLT, Int.reduceToNat, Re.c_mk]
   refine (bare 1).pd ⟨.v, trivial⟩ (Re.d_bl _) ?_
   simp only [go_sem, Int.reduceEq, Int.reduceLE, Int.reduceLT, Int.reduceToNat, Re.put0]
   first | exact finR rfl | exact Fin.ret (.eq (by simp [Re.c_mk, Re.cs_eq]) (by simp))
 ·intro k x y hk hx hy ihx ihy hw
  obtain ⟨w1, w2⟩ := wd2 hw
  have cx := ihx w1
  have cy := ihy w2
  have hn := rNul x hx
  rcases hk with rfl | rfl
  ·rw [drv_seq]
   have t1 := mkTwo 4 (x.drv b.toNat) y
   have t2 := mkTwo 5 (.mk 4 0 0 0 0 [x.drv b.toNat, y]) (y.drv b.toNat)
   generalize x.drv b.toNat = dx at cx t1 t2 ⊢
   generalize y.drv b.toNat = dy at cy t2 ⊢
   refine AC.lbody hT hm Tryz.func32 f32_nm f32_lc f32_res f32_nt ?_
   simp only [go_sem, Int.reduceEq, Int.reduceLE, Int.reduceLT, Int.reduceToNat, Re.c_mk, Re.cs_eq, Int.reduceBEq]
   refine cx.pd ⟨.same (Re.d_bl _), .v, trivial⟩ (Re.d_bl _) ?_
   simp only [go_sem, Int.reduceEq, Int.reduceLE, Int.reduceLT, Int.reduceToNat, Re.c_mk, Re.cs_eq, Int.reduceBEq, Re.put0, ne_eq, reduceCtorEq, not_false_eq_true, implies_true]
   refine t1.qd ⟨.v, .same (Re.d_bl _), .same (Re.d_bl _), trivial⟩ (Re.d_bl _) ?_
   simp only [go_sem, Int.reduceEq, Int.reduceLE, Int.reduceLT, Int.reduceToNat, Re.put0, Re.c_mk, Re.cs_eq, ne_eq, reduceCtorEq, not_false_eq_true, implies_true]
   refine hn.pv ⟨.same (Re.d_bl _), trivial⟩ ?_
   cases hnx : x.nul with
   | true =>
    simp only [go_sem, Int.reduceEq, Int.reduceLE, Int.reduceLT, Int.reduceToNat, Re.c_mk, Re.cs_eq]
    refine cy.qd ⟨.same (Re.d_bl _), .v, trivial⟩ (Re.d_bl _) ?_
    have hb1 := Re.d_bl (.mk 4 0 0 0 0 [dx, y])
    simp only [go_sem, Int.reduceEq, Int.reduceLE, Int.reduceLT, Int.reduceToNat, Re.c_mk, Re.cs_eq] at t2 hb1 ⊢
    refine t2.pd ⟨.v, .same hb1, .same (Re.d_bl _), trivial⟩ (by simp) ?_
    simp only [go_sem, Int.reduceEq, Int.reduceLE, Int.reduceLT, Int.reduceToNat, Re.put0]
    first | exact finR rfl | exact Fin.ret (.eq (by simp [Re.c_mk, Re.cs_eq]) (by simp))
   | false =>
    simp only [go_sem, Int.reduceEq, Int.reduceLE, Int.reduceLT, Int.reduceToNat, Re.put0]
    first | exact finR rfl | exact Fin.ret (.eq (by simp [Re.c_mk, Re.cs_eq]) (by simp))
  ·rw [drv_alt]
   have t2 := mkTwo 5 (x.drv b.toNat) (y.drv b.toNat)
   generalize x.drv b.toNat = dx at cx t2 ⊢
   generalize y.drv b.toNat = dy at cy t2 ⊢
   refine AC.lbody hT hm Tryz.func32 f32_nm f32_lc f32_res f32_nt ?_
   simp only [go_sem, Int.reduceEq, Int.reduceLE, Int.reduceLT, Int.reduceToNat, Re.c_mk, Re.cs_eq, Int.reduceBEq]
   refine cx.pd ⟨.same (Re.d_bl _), .v, trivial⟩ (Re.d_bl _) ?_
   simp only [go_sem, Int.reduceEq, Int.reduceLE, Int.reduceLT, Int.reduceToNat, Re.c_mk, Re.cs_eq, Int.reduceBEq, Re.put0]
   refine cy.qd ⟨.same (Re.d_bl _), .v, trivial⟩ (Re.d_bl _) ?_
   simp only [go_sem, Int.reduceEq, Int.reduceLE, Int.reduceLT, Int.reduceToNat, Re.c_mk, Re.cs_eq, Int.reduceBEq, Re.put0]
   refine t2.pd ⟨.v, .same (Re.d_bl _), .same (Re.d_bl _), trivial⟩ (Re.d_bl _) ?_
   simp only [go_sem, Int.reduceEq, Int.reduceLE, Int.reduceLT, Int.reduceToNat, Re.put0]
   first | exact finR rfl | exact Fin.ret (.eq (by simp [Re.c_mk, Re.cs_eq]) (by simp))
 ·intro x hx ih hw
  have cx := ih (wd1 hw)
  rw [drv_star]
  have t1 := mkTwo 4 (x.drv b.toNat) (.mk 6 0 0 0 0 [x])
  generalize x.drv b.toNat = dx at cx t1 ⊢
  refine AC.lbody hT hm Tryz.func32 f32_nm f32_lc f32_res f32_nt ?_
  simp only [go_sem, Int.reduceEq, Int.reduceLE, Int.reduceLT, Int.reduceToNat, Re.c_mk, Re.cs_eq, Int.reduceBEq]
  refine cx.pd ⟨.same (Re.d_bl _), .v, trivial⟩ (Re.d_bl _) ?_
  simp only [go_sem, Int.reduceEq, Int.reduceLE, Int.reduceLT, Int.reduceToNat, Re.c_mk, Re.cs_eq, Int.reduceBEq, Re.put0]
  simp only [go_sem, Int.reduceEq, Int.reduceLE, Int.reduceLT, Int.reduceToNat, Re.c_mk, Re.cs_eq] at t1
  refine t1.pd ⟨.v, .same (Re.d_bl _), .same (by simp), trivial⟩ (by simp) ?_
  simp only [go_sem, Int.reduceEq, Int.reduceLE, Int.reduceLT, Int.reduceToNat, Re.put0]
  first | exact finR rfl | exact Fin.ret (.eq (by simp [Re.c_mk, Re.cs_eq]) (by simp))
abbrev plD (x : Re × Nat) : D := .tup [.agg x.1.c, .i x.2]
theorem plD_bl (x : Re × Nat) : Bl 0 (plD x) := .tup (by simp)
theorem nPlain (b : UInt8) (r : Re) (hz : r.sz ≤ 1048576) (hw : r.wd) : AP Tryz.prog 10 [.agg r.c, .y b] (plD (pln b.toNat r)) := by
 have hmy := may r (by omega)
 unfold pln
 refine AC.lbody hT hm Tryz.func10 f10_nm f10_lc f10_res f10_nt ?_
 simp only [go_sem, Int.reduceEq, Int.reduceLE, Int.reduceLT, Int.reduceToNat]
 refine hmy.pv ⟨.same (Res_bl' [r]), trivial⟩ ?_
 rcases mayCase r with h | h
 ·simp only [go_sem, Int.reduceEq, Int.reduceLE, Int.reduceLT, Int.reduceToNat, h, Re.put0]
  exact Fin.ret (.tupL ⟨.aggL (by simp [CvL, zeroR, Re.c_mk, Re.cs_eq]), .v, trivial⟩)
 obtain ⟨h1, h2⟩ := mayZ h
 have hd := nDrv b r h1 hw h2
 have hds := drv_sz b.toNat r h1
 have hsq : r.sz * r.sz ≤ 2000 * 2000 := Nat.mul_le_mul h2 h2
 have hmd := may (r.drv b.toNat) (by omega)
 generalize r.drv b.toNat = y at hd hmd ⊢
 simp only [go_sem, Int.reduceEq, Int.reduceLE, Int.reduceLT, Int.reduceToNat, h, Bool.not_true]
 refine hd.pd ⟨.same (Re.d_bl _), .v, trivial⟩ (Re.d_bl _) ?_
 simp only [go_sem, Int.reduceEq, Int.reduceLE, Int.reduceLT, Int.reduceToNat, Re.put0]
 refine hmd.pv ⟨.same (Res_bl' [y]), trivial⟩ ?_
 rcases mayCase y with h' | h'
 ·simp only [go_sem, Int.reduceEq, Int.reduceLE, Int.reduceLT, Int.reduceToNat, h', Re.put0]
  exact Fin.ret (.tupL ⟨.aggL (by simp [CvL, zeroR, Re.c_mk, Re.cs_eq]), .v, trivial⟩)
 ·simp only [go_sem, Int.reduceEq, Int.reduceLE, Int.reduceLT, Int.reduceToNat, h', Bool.not_true, Re.put0]
  exact Fin.ret (.tupL ⟨.same (Re.d_bl _), .v, trivial⟩)
theorem rPlain (b : UInt8) (r : Re) (hz : r.sz ≤ 1048576) (hw : r.wd) : AP Tryz.prog 11 [.agg r.c, .y b] (plD (pln b.toNat r)) := by
 have hmy := rMay r (by omega)
 unfold pln
 refine AC.lbody hT hm Tryz.func11 f11_nm f11_lc f11_res f11_nt ?_
 simp only [go_sem, Int.reduceEq, Int.reduceLE, Int.reduceLT, Int.reduceToNat]
 refine hmy.pv ⟨.same (Re.d_bl _), trivial⟩ ?_
 rcases mayCase r with h | h
 ·simp only [go_sem, Int.reduceEq, Int.reduceLE, Int.reduceLT, Int.reduceToNat, h, Re.put0]
  exact Fin.ret (.tupL ⟨.aggL (by simp [CvL, zeroR, Re.c_mk, Re.cs_eq]), .v, trivial⟩)
 obtain ⟨h1, h2⟩ := mayZ h
 have hd := rDrv b r h1 hw
 have hds := drv_sz b.toNat r h1
 have hsq : r.sz * r.sz ≤ 2000 * 2000 := Nat.mul_le_mul h2 h2
 have hmd := rMay (r.drv b.toNat) (by omega)
 generalize r.drv b.toNat = y at hd hmd ⊢
 simp only [go_sem, Int.reduceEq, Int.reduceLE, Int.reduceLT, Int.reduceToNat, h, Bool.not_true]
 refine hd.pd ⟨.same (Re.d_bl _), .v, trivial⟩ (Re.d_bl _) ?_
 simp only [go_sem, Int.reduceEq, Int.reduceLE, Int.reduceLT, Int.reduceToNat, Re.put0]
 refine hmd.pv ⟨.same (Re.d_bl _), trivial⟩ ?_
 rcases mayCase y with h' | h'
 ·simp only [go_sem, Int.reduceEq, Int.reduceLE, Int.reduceLT, Int.reduceToNat, h', Re.put0]
  exact Fin.ret (.tupL ⟨.aggL (by simp [CvL, zeroR, Re.c_mk, Re.cs_eq]), .v, trivial⟩)
 ·simp only [go_sem, Int.reduceEq, Int.reduceLE, Int.reduceLT, Int.reduceToNat, h', Bool.not_true, Re.put0]
  exact Fin.ret (.tupL ⟨.same (Re.d_bl _), .v, trivial⟩)
theorem nz_sz (r : Re) (hz : r.sz ≤ 1048576) : (nzR r).sz ≤ 1048576 := by
 unfold nzR
 split
 ·rename_i h
  have := nrm_sz r (may_ok h).1
  omega
 ·simp [zeroR, Re.sz, Re.szs]
theorem zero_wd : zeroR.wd := wd_bare 0
theorem nz_wd (r : Re) (hw : r.wd) : (nzR r).wd := by
 unfold nzR
 split
 ·rename_i h; exact nrm_wd r (may_ok h).1 hw
 ·exact zero_wd
theorem nStep (b : UInt8) (r : Re) (hz : r.sz ≤ 1048576) (hw : r.wd) : AP Tryz.prog 12 [.agg r.c, .y b] (plD (stp b.toNat r)) := by
 have hN : AP Tryz.prog 33 [.agg r.c] (.agg (nzR r).c) := nNormZ r hz
 have hP := nPlain b (nzR r) (nz_sz r hz) (nz_wd r hw)
 have hok : (pln b.toNat (nzR r)).2 = 0 → AP Tryz.prog 33 [.agg (pln b.toNat (nzR r)).1.c] (.agg (pln b.toNat (nzR r)).1.nrm.c) := by
  intro h
  obtain ⟨_, h2, h3⟩ := pln_ok h
  rw [h3]
  have := nNormZ ((nzR r).drv b.toNat) (by have := (mayZ h2).2; omega)
  have e : nrmZ ((nzR r).drv b.toNat) = ((nzR r).drv b.toNat).nrm := by unfold nrmZ; rw [if_pos h2]
  rw [e] at this
  exact this
 unfold stp
 generalize pln b.toNat (nzR r) = p at hP hok ⊢
 obtain ⟨x, e⟩ := p
 refine AC.lbody hT hm Tryz.func12 f12_nm f12_lc f12_res f12_nt ?_
 simp only [go_sem, Int.reduceEq, Int.reduceLE, Int.reduceLT, Int.reduceToNat]
 refine hN.pd ⟨.same (Re.d_bl _), trivial⟩ (Re.d_bl _) ?_
 simp only [go_sem, Int.reduceEq, Int.reduceLE, Int.reduceLT, Int.reduceToNat]
 refine hP.pd ⟨.same (Re.d_bl _), .v, trivial⟩ (plD_bl _) ?_
 by_cases he : e = 0
 ·subst he
  have z1 : (((0 : Nat) : Int) != 0) = false := rfl
  simp only [go_sem, Int.reduceEq, Int.reduceLE, Int.reduceLT, Int.reduceToNat, z1, Re.put0]
  refine (hok rfl).pd ⟨.same (Re.d_bl _), trivial⟩ (Re.d_bl _) ?_
  simp only [go_sem, Int.reduceEq, Int.reduceLE, Int.reduceLT, Int.reduceToNat, Re.put0]
  exact Fin.ret (.tupL ⟨.same (Re.d_bl _), .v, trivial⟩)
 ·have z2 : (((e : Nat) : Int) != 0) = true := bne_true (by omega)
  simp only [go_sem, Int.reduceEq, Int.reduceLE, Int.reduceLT, Int.reduceToNat, z2, he, Re.put0]
  exact Fin.ret (.tupL ⟨.aggL (by simp [CvL, zeroR, Re.c_mk, Re.cs_eq]), .v, trivial⟩)
theorem rStep (b : UInt8) (r : Re) (hz : r.sz ≤ 1048576) (hw : r.wd) : AP Tryz.prog 13 [.agg r.c, .y b] (plD (stp b.toNat r)) := by
 have hN : AP Tryz.prog 34 [.agg r.c] (.agg (nzR r).c) := rNormZ r hz hw
 have hP := rPlain b (nzR r) (nz_sz r hz) (nz_wd r hw)
 have hok : (pln b.toNat (nzR r)).2 = 0 → AP Tryz.prog 35 [.agg (pln b.toNat (nzR r)).1.c] (.agg (pln b.toNat (nzR r)).1.nrm.c) := by
  intro h
  obtain ⟨h1, h2, h3⟩ := pln_ok h
  rw [h3]
  exact rNorm ((nzR r).drv b.toNat) (mayZ h2).1 (by have := (mayZ h2).2; omega) (drv_wd _ _ (mayZ h1).1 (nz_wd r hw))
 unfold stp
 generalize pln b.toNat (nzR r) = p at hP hok ⊢
 obtain ⟨x, e⟩ := p
 refine AC.lbody hT hm Tryz.func13 f13_nm f13_lc f13_res f13_nt ?_
 simp only [go_sem, Int.reduceEq, Int.reduceLE, Int.reduceLT, Int.reduceToNat]
 refine hN.pd ⟨.same (Re.d_bl _), trivial⟩ (Re.d_bl _) ?_
 simp only [go_sem, Int.reduceEq, Int.reduceLE, Int.reduceLT, Int.reduceToNat]
 refine hP.pd ⟨.same (Re.d_bl _), .v, trivial⟩ (plD_bl _) ?_
 by_cases he : e = 0
 ·subst he
  have z1 : (((0 : Nat) : Int) != 0) = false := rfl
  simp only [go_sem, Int.reduceEq, Int.reduceLE, Int.reduceLT, Int.reduceToNat, z1, Re.put0]
  refine (hok rfl).pd ⟨.same (Re.d_bl _), trivial⟩ (Re.d_bl _) ?_
  simp only [go_sem, Int.reduceEq, Int.reduceLE, Int.reduceLT, Int.reduceToNat, Re.put0]
  exact Fin.ret (.tupL ⟨.same (Re.d_bl _), .v, trivial⟩)
 ·have z2 : (((e : Nat) : Int) != 0) = true := bne_true (by omega)
  simp only [go_sem, Int.reduceEq, Int.reduceLE, Int.reduceLT, Int.reduceToNat, z2, he, Re.put0]
  exact Fin.ret (.tupL ⟨.aggL (by simp [CvL, zeroR, Re.c_mk, Re.cs_eq]), .v, trivial⟩)
end Go.Proofs.YtlejbkfefpfolaaGreatDoor.W
set_option maxRecDepth 100000
namespace Go.Proofs.YtlejbkfefpfolaaGreatDoor.W
open Go Go.Proofs Go.Proofs.YtlejbkfefpfolaaGreatDoor.AWP
attribute [local irreducible] xl hide aop aops aopQ qops guardP condP
abbrev wkD (x : List Re × Nat) : D := .tup [Res x.1, .i x.2]
theorem wkD_bl (x : List Re × Nat) : Bl 0 (wkD x) := .tup (by simp)
theorem stt_sz {r : Re} (hr : Gd r) {s : ByteArray} {k : Nat} (h : ∀ j, j < k → ste r s j = 0) : (stt r s k).sz ≤ 1048576 ∧ (stt r s k).wd := by
 have := stt_gd hr s k h
 exact ⟨by have := (mayZ this.1).2; omega, this.2⟩
theorem nWalk (r : Re) (hz : r.sz ≤ 1048576) (hw : r.wd) (s : ByteArray) (hs : s.size ≤ 1000) : AP Tryz.prog 15 [.agg r.c, .s s] (wkD (wlk r s)) := by
 have hmy := may r (by omega)
 have hN : AP Tryz.prog 33 [.agg r.c] (.agg (nzR r).c) := nNormZ r hz
 refine AC.lbody hT hm Tryz.func15 f15_nm f15_lc f15_res f15_nt ?_
 simp only [go_sem, Int.reduceEq, Int.reduceLE, Int.reduceLT, Int.reduceToNat]
 refine hmy.pv ⟨.same (Res_bl' [r]), trivial⟩ ?_
 rcases mayCase r with h | h
 ·have e : wlk r s = ([], 1) := by unfold wlk; rw [if_neg (by rw [h]; simp)]
  rw [e]
  simp only [go_sem, Int.reduceEq, Int.reduceLE, Int.reduceLT, Int.reduceToNat, h]
  exact Fin.ret (.tupL ⟨.nil, .v, trivial⟩)
 have hg : Gd r := ⟨h, hw⟩
 rw [nz_eq h] at hN
 simp only [go_sem, Int.reduceEq, Int.reduceLE, Int.reduceLT, Int.reduceToNat, h]
 refine hN.pd ⟨.same (Re.d_bl _), trivial⟩ (Re.d_bl _) ?_
 simp only [go_sem, Int.reduceEq, Int.reduceLE, Int.reduceLT, Int.reduceToNat]
 refine xl_loopM hT hm (fun i : Nat => ⟨f15_i12 (.s s) (.own 0) (.i s.size) (.i i), [reOb (stts r s (i + 1))]⟩)
  (fun i => i ≤ s.size ∧ ∀ j, j < i → ste r s j = 0) (fun i => s.size - i) 0 ⟨Nat.zero_le _, fun j hj => absurd hj (Nat.not_lt_zero _)⟩ (Mv.of [some 0] rfl (mv1 rfl) (by simp [f15_i12])) ?_
 rintro i ⟨hi, hst⟩
 have hln := stts_len r s (i + 1)
 simp only [go_sem, Int.reduceEq, Int.reduceLE, Int.reduceLT, Int.reduceToNat]
 by_cases hil : i < s.size
 case neg =>
  obtain rfl : i = s.size := by omega
  rw [wlk_all h hst]
  simp only [go_sem, Int.reduceEq, Int.reduceLE, Int.reduceLT, Int.reduceToNat, hil]
  exact Fin.ret (.tupL ⟨frzR rfl, .v, trivial⟩)
 have hget := stts_get (r := r) (s := s) (show i < i + 1 by omega)
 have hsuc := stts_succ r s (i + 1)
 obtain ⟨u, hu⟩ := get_lt hil
 have hbu : byteAt s i = u.toNat := by unfold byteAt; rw [at_of hu]
 obtain ⟨g1, g2⟩ := stt_sz hg hst
 have hS := nStep u (stt r s i) g1 g2
 have hse : (stp u.toNat (stt r s i)).2 = ste r s i := by unfold ste; rw [hbu]
 have hsx : (stp u.toNat (stt r s i)).1 = stt r s (i + 1) := by rw [← hbu]; rfl
 have hL : (stts r s (i + 1)).length ≤ 1001 := by rw [hln]; omega
 generalize stts r s (i + 1) = L at hln hget hsuc hL ⊢
 generalize stp u.toNat (stt r s i) = p at hS hse hsx
 obtain ⟨y, e⟩ := p
 simp only at hse hsx
 generalize stt r s i = x at hS hget
 simp only [go_sem, Int.reduceEq, Int.reduceLE, Int.reduceLT, Int.reduceToNat, hil, hln, hget, hu, ne_eq, reduceCtorEq, not_false_eq_true, implies_true]
 refine hS.qd ⟨.same (Re.d_bl _), .v, trivial⟩ (plD_bl _) ?_
 simp only [go_sem, Int.reduceEq, Int.reduceLE, Int.reduceLT, Int.reduceToNat, ne_eq, reduceCtorEq, not_false_eq_true, implies_true]
 refine ⟨stFit_re y, ?_⟩
 by_cases he : e = 0
 case neg =>
  have z2 : (((e : Nat) : Int) != 0) = true := bne_true (by omega)
  rw [wlk_err h hil hst (by rw [← hse]; exact he), ← hse]
  simp only [go_sem, Int.reduceEq, Int.reduceLE, Int.reduceLT, Int.reduceToNat, z2]
  exact Fin.ret (.tupL ⟨.nil, .v, trivial⟩)
 have z1 : (((0 : Nat) : Int) != 0) = false := rfl
 rw [he]
 simp only [go_sem, Int.reduceEq, Int.reduceLE, Int.reduceLT, Int.reduceToNat, z1]
 refine ⟨by omega, ?_⟩
 refine ⟨i + 1, ⟨hil, fun j hj => ?_⟩, by omega, ?_⟩
 ·by_cases e : j = i
  ·rw [e, ← hse]; exact he
  ·exact hst j (by omega)
 ·rw [wrap_succ i (by omega), hsuc, ← hsx]
  exact Mv.of [some 2] rfl (mv1 (by simp)) (by simp)
set_option maxHeartbeats 1000000 in
theorem rWalk (r : Re) (hz : r.sz ≤ 1048576) (hw : r.wd) (s : ByteArray) (hs : s.size ≤ 1000) : AP Tryz.prog 16 [.agg r.c, .s s] (wkD (wlk r s)) := by
 have hmy := rMay r (by omega)
 refine AC.lbody hT hm Tryz.func16 f16_nm f16_lc f16_res f16_nt ?_
 simp only [go_sem, Int.reduceEq, Int.reduceLE, Int.reduceLT, Int.reduceToNat]
 refine hmy.pv ⟨.same (Re.d_bl _), trivial⟩ ?_
 rcases mayCase r with h | h
 ·have e : wlk r s = ([], 1) := by unfold wlk; rw [if_neg (by rw [h]; simp)]
  rw [e]
  simp only [go_sem, Int.reduceEq, Int.reduceLE, Int.reduceLT, Int.reduceToNat, h]
  exact Fin.ret (.tupL ⟨frzR (l := []) rfl, .v, trivial⟩)
 have hg : Gd r := ⟨h, hw⟩
 obtain ⟨hok, hz2⟩ := mayZ h
 have hN := rNorm r hok (by omega) hw
 simp only [go_sem, Int.reduceEq, Int.reduceLE, Int.reduceLT, Int.reduceToNat, h]
 refine hN.pd ⟨.same (Re.d_bl _), trivial⟩ (Re.d_bl _) ?_
 simp only [go_sem, Int.reduceEq, Int.reduceLE, Int.reduceLT, Int.reduceToNat]
 have mv3 : ∀ {om : List Ob} {F : Nat → Bool} (k : Nat) (x : Re) (L : List Re), om[0]? = some (reOb []) → om[1]? = some (.var 27 x.c) → om[k]? = some (reOb L) →
   MvL om F [some 0, some 1, some k] [some 0, some 1, some k] [reOb [], .var 27 x.c, reOb L] :=
  fun k x L h0 h1 h2 => ⟨.slcS h0 (Re.map_bl _), .varS h1 (Re.c_bl _), .slcS h2 (Re.map_bl _), trivial⟩
 refine xl_loopM hT hm (fun i : Nat => ⟨f16_i14 (.s s) (.own 0) (.ref 1 0) (.own 2) (.i i), [reOb [], .var 27 (stt r s i).c, reOb (stts r s (i + 1))]⟩)
  (fun i => i ≤ s.size ∧ ∀ j, j < i → ste r s j = 0) (fun i => s.size - i) 0 ⟨Nat.zero_le _, fun j hj => absurd hj (Nat.not_lt_zero _)⟩ (Mv.of [some 0, some 1, some 2] rfl (mv3 2 _ _ rfl rfl rfl) (by simp [f16_i14])) ?_
 rintro i ⟨hi, hst⟩
 have hln := stts_len r s (i + 1)
 simp only [go_sem, Int.reduceEq, Int.reduceLE, Int.reduceLT, Int.reduceToNat]
 by_cases hil : i < s.size
 case neg =>
  obtain rfl : i = s.size := by omega
  rw [wlk_all h hst]
  simp only [go_sem, Int.reduceEq, Int.reduceLE, Int.reduceLT, Int.reduceToNat, hil]
  exact Fin.ret (.tupL ⟨frzR rfl, .v, trivial⟩)
 have hsuc := stts_succ r s (i + 1)
 obtain ⟨u, hu⟩ := get_lt hil
 have hbu : byteAt s i = u.toNat := by unfold byteAt; rw [at_of hu]
 obtain ⟨g1, g2⟩ := stt_sz hg hst
 have hS := rStep u (stt r s i) g1 g2
 have hse : (stp u.toNat (stt r s i)).2 = ste r s i := by unfold ste; rw [hbu]
 have hsx : (stp u.toNat (stt r s i)).1 = stt r s (i + 1) := by rw [← hbu]; rfl
 have hL : (stts r s (i + 1)).length ≤ 1001 := by rw [hln]; omega
 generalize stts r s (i + 1) = L at hln hsuc hL ⊢
 generalize stp u.toNat (stt r s i) = p at hS hse hsx
 obtain ⟨y, e⟩ := p
 simp only at hse hsx
 generalize stt r s i = x at hS ⊢
 simp only [go_sem, Int.reduceEq, Int.reduceLE, Int.reduceLT, Int.reduceToNat, hil, hln, hu, ne_eq, reduceCtorEq, not_false_eq_true, implies_true]
 refine hS.qd ⟨.same (Re.d_bl _), .v, trivial⟩ (plD_bl _) ?_
 simp only [go_sem, Int.reduceEq, Int.reduceLE, Int.reduceLT, Int.reduceToNat, ne_eq, reduceCtorEq, not_false_eq_true, implies_true]
 refine ⟨stFit_re y, ?_⟩
 by_cases he : e = 0
 case neg =>
  have z2 : (((e : Nat) : Int) != 0) = true := bne_true (by omega)
  rw [wlk_err h hil hst (by rw [← hse]; exact he), ← hse]
  simp only [go_sem, Int.reduceEq, Int.reduceLE, Int.reduceLT, Int.reduceToNat, z2]
  exact Fin.ret (.tupL ⟨frzR (l := []) rfl, .v, trivial⟩)
 have z1 : (((0 : Nat) : Int) != 0) = false := rfl
 rw [he]
 simp only [go_sem, Int.reduceEq, Int.reduceLE, Int.reduceLT, Int.reduceToNat, z1, Re.put]
 refine ⟨by omega, ?_⟩
 refine ⟨i + 1, ⟨hil, fun j hj => ?_⟩, by omega, ?_⟩
 ·by_cases e : j = i
  ·rw [e, ← hse]; exact he
  ·exact hst j (by omega)
 ·rw [wrap_succ i (by omega), hsuc, ← hsx]
  exact Mv.of [some 0, some 1, some 4] rfl (mv3 4 _ _ rfl rfl (by simp)) (by simp)
end Go.Proofs.YtlejbkfefpfolaaGreatDoor.W
set_option maxRecDepth 100000
namespace Go.Proofs.YtlejbkfefpfolaaGreatDoor.W
open Go Go.Proofs Go.Proofs.YtlejbkfefpfolaaGreatDoor.AWP
attribute [local irreducible] xl hide aop aops aopQ qops guardP condP
theorem decL (a b : Int) (h : a < b) : decide (a < b) = true := decide_eq_true h
theorem decF (a b : Int) (h : ¬ a < b) : decide (a < b) = false := decide_eq_false h
theorem sames_self : ∀ (l : List Re), (∀ x ∈ l, x.same x = true) → Re.sames l l = true
 | [], _ => by rw [Re.sames]
 | x :: l, h => by rw [Re.sames, h x (by simp), sames_self l fun y hy => h y (by simp [hy])]; rfl
theorem same_self (r : Re) : r.same r = true := by
 refine Re.ind (p := fun r => r.same r = true) ?_ r
 intro k a b c d ks ih
 rw [Re.same, sames_self ks ih]
 simp
def s9 : ByteArray := ⟨#[40, 97, 98, 41, 42]⟩
def t9 : ByteArray := ⟨#[97, 98]⟩
end Go.Proofs.YtlejbkfefpfolaaGreatDoor.W
