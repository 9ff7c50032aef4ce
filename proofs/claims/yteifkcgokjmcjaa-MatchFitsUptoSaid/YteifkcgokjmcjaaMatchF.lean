/- Where texts end: one behind another. -/
import Derived.Test.YteifkcgokjmcjaaMatchE
set_option linter.unusedVariables false
set_option linter.unusedSimpArgs false
set_option linter.unusedSectionVars false
set_option maxRecDepth 100000
/- Where texts end: one behind another. -/
namespace Go.Proofs.Yteifkcgokjmcjaa.W
open Go Go.Proofs Go.Proofs.Yteifkcgokjmcjaa.AWP
attribute [local irreducible] xl hide aop aops aopQ qops guardP condP

/-- The call with one's own places, other objects behind. -/
theorem rO.call {s : ByteArray} {r : Re} (h : rO s r) {p : List Bool} (hp : p.length = s.size + 1) (bk : List Ob) :
    AC Try.prog 80 [.agg r.c, .s s, .own 0] (blOb p :: bk) (retP (if epsy r then .own 0 else Bls (img (r.mt s) p)) (blOb p :: bk)) := by
  refine (h p hp).framed (fr := []) (bk := bk) rfl (fun j d d' h1 h2 => ?_) (fun o ho => ?_) ?_
  · rw [h1] at h2
    cases h2
    match j, h1 with
    | 0, h1 => cases h1; exact .inl ⟨Re.d_bl _, rfl⟩
    | 1, h1 => cases h1; exact .inl ⟨.v _, rfl⟩
    | 2, h1 => cases h1; exact .inr (.inr ⟨0, Nat.one_pos, rfl, rfl⟩)
    | j + 3, h1 => simp at h1
  · rw [List.mem_singleton.1 ho]; exact blOb_all p
  · cases epsy r
    · exact .inl ⟨Bls_bl _, rfl⟩
    · exact .inr (.inr ⟨0, Nat.one_pos, rfl, rfl⟩)
/-- The same, an object ahead. -/
theorem rO.call1 {s : ByteArray} {r : Re} (h : rO s r) {p : List Bool} (hp : p.length = s.size + 1) (o : Ob) (bk : List Ob) :
    AC Try.prog 80 [.agg r.c, .s s, .own 1] (o :: blOb p :: bk) (retP (if epsy r then .own 1 else Bls (img (r.mt s) p)) (o :: blOb p :: bk)) := by
  refine (h p hp).framed (ds' := [.agg r.c, .s s, .own 1]) (r' := if epsy r then .own 1 else Bls (img (r.mt s) p)) (fr := [o]) (bk := bk) rfl (fun j d d' h1 h2 => ?_) (fun o ho => ?_) ?_
  · match j, h1, h2 with
    | 0, h1, h2 => cases h1; cases h2; exact .inl ⟨Re.d_bl _, rfl⟩
    | 1, h1, h2 => cases h1; cases h2; exact .inl ⟨.v _, rfl⟩
    | 2, h1, h2 => cases h1; cases h2; exact .inr (.inr ⟨0, Nat.one_pos, rfl, rfl⟩)
    | j + 3, h1, h2 => simp at h1
  · rw [List.mem_singleton.1 ho]; exact blOb_all p
  · cases epsy r
    · exact .inl ⟨Bls_bl _, rfl⟩
    · exact .inr (.inr ⟨0, Nat.one_pos, rfl, rfl⟩)

theorem rE4 (s : ByteArray) (hs : s.size ≤ 1000) (x y : Re) (hox : x.nodesOk = true) (hx : rD s x ∧ rO s x) (hy : rD s y ∧ rO s y) : rD s (.mk 4 0 0 0 0 [x, y]) ∧ rO s (.mk 4 0 0 0 0 [x, y]) := by
  have hw1 := wrap_succ s.size (by omega)
  have hb : ((s.size + 1 : Nat) : Int) ≤ 281474976710656 := by omega
  have hep : epsy (.mk 4 0 0 0 0 [x, y]) = (epsy x && epsy y) := by simp [epsy]
  constructor <;> intro p hp
  · rw [img_seq s x y hox p hp]
    refine AC.lbody hT hm Try.func80 f80_nm f80_lc f80_res f80_nt ?_
    simp only [go_sem, Int.reduceEq, Int.reduceLE, Int.reduceLT, Int.reduceToNat, hw1, hb, Re.c_mk, Int.reduceBEq]
    refine ⟨by omega, by omega, ?_⟩
    refine (hx.1 p hp).qd ⟨.same (Re.d_bl _), .v, .same (Bls_bl _), trivial⟩ (Bls_bl _) ?_
    simp only [go_sem, Int.reduceEq, Int.reduceLE, Int.reduceLT, Int.reduceToNat, Re.c_mk]
    refine (hy.1 (img (x.mt s) p) (by rw [img_len]; exact hp)).pd ⟨.same (Re.d_bl _), .v, .same (Bls_bl _), trivial⟩ (Bls_bl _) ?_
    simp only [go_sem, Int.reduceEq, Int.reduceLE, Int.reduceLT, Int.reduceToNat, Re.c_mk]
    exact Fin.ret (.same (Bls_bl _))
  · rw [img_seq s x y hox p hp, hep]
    have c1 := hx.2.call hp
    have c2 := hy.2.call hp
    have d2 := hy.1 (img (x.mt s) p) (by rw [img_len]; exact hp)
    have e1 := epsy_img s x hox
    cases h1 : epsy x
    · rw [h1] at c1
      refine AC.lbody hT hm Try.func80 f80_nm f80_lc f80_res f80_nt ?_
      simp only [go_sem, Int.reduceEq, Int.reduceLE, Int.reduceLT, Int.reduceToNat, hw1, hb, Re.c_mk, Int.reduceBEq]
      refine ⟨by omega, by omega, ?_⟩
      refine ⟨_, c1 _, ?_⟩
      simp only [go_sem, Int.reduceEq, Int.reduceLE, Int.reduceLT, Int.reduceToNat, Re.c_mk]
      refine d2.pd ⟨.same (Re.d_bl _), .v, .same (Bls_bl _), trivial⟩ (Bls_bl _) ?_
      simp only [go_sem, Int.reduceEq, Int.reduceLE, Int.reduceLT, Int.reduceToNat, Re.c_mk, Bool.false_and]
      exact keepO p _ (.same (Bls_bl _))
    · rw [h1] at c1
      rw [e1 h1 p hp]
      refine AC.lbody hT hm Try.func80 f80_nm f80_lc f80_res f80_nt ?_
      simp only [go_sem, Int.reduceEq, Int.reduceLE, Int.reduceLT, Int.reduceToNat, hw1, hb, Re.c_mk, Int.reduceBEq]
      refine ⟨by omega, by omega, ?_⟩
      refine ⟨_, c1 _, ?_⟩
      simp only [go_sem, Int.reduceEq, Int.reduceLE, Int.reduceLT, Int.reduceToNat, Re.c_mk]
      refine ⟨_, c2 _, ?_⟩
      rintro _ _ ⟨rfl, rfl⟩
      simp only [go_sem, Int.reduceEq, Int.reduceLE, Int.reduceLT, Int.reduceToNat, Re.c_mk, Bool.true_and]
      cases epsy y
      · exact keepO p _ (.same (Bls_bl _))
      · exact keepO p _ (.own rfl)
end Go.Proofs.Yteifkcgokjmcjaa.W
