/- There and back: rules' text is read as it was. -/
import Derived.Test.YtdliolbjngcgcaaGreatDoorWalkA
import Derived.Test.YtdliolbjngcgcaaGreatDoorMathA
import Derived.Test.YtdliolbjngcgcaaGreatDoorLogicC
import Derived.Test.YtdliolbjngcgcaaGreatDoorMathB
import Derived.Lib.IndexBytes
set_option linter.unusedVariables false
set_option linter.unusedSimpArgs false
set_option linter.unusedSectionVars false
set_option maxRecDepth 100000
/- The document's reader: atoms, rows, alternatives. -/
namespace Go.Proofs.YtdliolbjngcgcaaGreatDoor.W
open Go Go.Proofs Go.Proofs.YtdliolbjngcgcaaGreatDoor.AWP
attribute [local irreducible] xl hide aop aops aopQ qops guardP condP
theorem prC_bl (x : PR) : Bl 0 (.agg (prC x)) := by cases x <;> exact .agg (pC_bl _ _ _)
theorem rAll : AP Tryz.prog 79 [.i 0, .i 255] (Ws (rangeS 0 256)) := rRange 0 255 (by omega) (by omega)
theorem rAtom (A : Nat → PR) (s : ByteArray) (p : Nat) (hs : s.size ≤ 65536) (hp : p ≤ s.size) (HA : ∀ q, p < q → q ≤ s.size → AP Tryz.prog 31 [.s s, .i q] (.agg (prC (A q)))) :
    AP Tryz.prog 60 [.s s, .i p] (.agg (prC (pAtom A s p))) := by
  unfold pAtom
  refine AC.lbody hT hm Tryz.func60 f60_nm f60_lc f60_res f60_nt ?_
  simp only [go_sem, Int.reduceEq, Int.reduceLE, Int.reduceLT, Int.reduceToNat]
  refine (rIs s p 46).pv ⟨.v, .v, .eq rfl (by simp), trivial⟩ ?_
  simp only [go_sem, Int.reduceEq, Int.reduceLE, Int.reduceLT, Int.reduceToNat]
  cases h1 : isB s p cDot
  case true =>
    have lt := isB_lt h1
    have hw := wrap_succ p (by omega)
    have hl := rangeS_len 0 256
    simp only [go_sem, Int.reduceEq, Int.reduceLE, Int.reduceLT, Int.reduceToNat, hw]
    refine rAll.pd ⟨.v, .v, trivial⟩ (.agg (W_bl _)) ?_
    generalize rangeS 0 256 = ws at hl
    simp only [go_sem, Int.reduceEq, Int.reduceLE, Int.reduceLT, Int.reduceToNat]
    refine (rReOf ws hl).pd ⟨.same (.agg (W_bl _)), trivial⟩ (Re.d_bl _) ?_
    simp only [go_sem, Int.reduceEq, Int.reduceLE, Int.reduceLT, Int.reduceToNat, hw, re_take6, re_drop7, pC_fold, pC_len, pC_put, pC_take8, pC_drop0]
    exact FinC rfl
  simp only [go_sem, Int.reduceEq, Int.reduceLE, Int.reduceLT, Int.reduceToNat]
  refine (rIs s p 91).pv ⟨.v, .v, .eq rfl (by simp), trivial⟩ ?_
  simp only [go_sem, Int.reduceEq, Int.reduceLE, Int.reduceLT, Int.reduceToNat]
  cases h2 : isB s p cLb
  case true =>
    have lt := isB_lt h2
    have hw := wrap_succ p (by omega)
    simp only [go_sem, Int.reduceEq, Int.reduceLE, Int.reduceLT, Int.reduceToNat, hw]
    refine (rCls s (p + 1) hs lt).pd ⟨.v, .v, trivial⟩ (prC_bl _) ?_
    cases hc : clsGo s noneS (p + 1) <;>
    · simp only [go_sem, Int.reduceEq, Int.reduceLE, Int.reduceLT, Int.reduceToNat, pC_len, pC_put, pC_take8, pC_drop0]
      exact FinC rfl
  simp only [go_sem, Int.reduceEq, Int.reduceLE, Int.reduceLT, Int.reduceToNat]
  refine (rIs s p 40).pv ⟨.v, .v, .eq rfl (by simp), trivial⟩ ?_
  simp only [go_sem, Int.reduceEq, Int.reduceLE, Int.reduceLT, Int.reduceToNat]
  cases h3 : isB s p cLp
  case true =>
    have lt := isB_lt h3
    have hw := wrap_succ p (by omega)
    simp only [go_sem, Int.reduceEq, Int.reduceLE, Int.reduceLT, Int.reduceToNat, hw]
    refine (rIs s (p + 1) 41).pv ⟨.v, .v, .eq rfl (by simp), trivial⟩ ?_
    simp only [go_sem, Int.reduceEq, Int.reduceLE, Int.reduceLT, Int.reduceToNat]
    cases h4 : isB s (p + 1) cRp
    case true =>
      have lt := isB_lt h4
      have hw2 : IntKind.i64.wrap ((p : Int) + 2) = ((p + 2 : Nat) : Int) := by
        rw [show ((p : Int) + 2) = ((p + 2 : Nat) : Int) by simp, wrap_nat _ (by omega)]
      simp only [go_sem, Int.reduceEq, Int.reduceLE, Int.reduceLT, Int.reduceToNat]
      refine (bare 2).pd (by simp) (Re.d_bl _) ?_
      generalize Re.mk 2 0 0 0 0 [] = r
      simp only [go_sem, Int.reduceEq, Int.reduceLE, Int.reduceLT, Int.reduceToNat, hw2, re_take6, re_drop7, pC_fold, pC_len, pC_put, pC_take8, pC_drop0]
      exact FinC rfl
    simp only [go_sem, Int.reduceEq, Int.reduceLE, Int.reduceLT, Int.reduceToNat, hw]
    refine (HA (p + 1) (by omega) (by omega)).pd ⟨.v, .v, trivial⟩ (prC_bl _) ?_
    cases hc : A (p + 1)
    case bad e =>
      simp only [go_sem, Int.reduceEq, Int.reduceLE, Int.reduceLT, Int.reduceToNat, pC_len, pC_put, pC_take8, pC_drop0]
      simp only [go_sem, Int.reduceEq, Int.reduceLE, Int.reduceLT, Int.reduceToNat, pC_7, pC_len, pC_put, pC_take8, pC_drop0]
      exact FinC rfl
    rename_i r q
    simp only [go_sem, Int.reduceEq, Int.reduceLE, Int.reduceLT, Int.reduceToNat, pC_len, pC_put, pC_take8, pC_drop0]
    simp only [go_sem, Int.reduceEq, Int.reduceLE, Int.reduceLT, Int.reduceToNat, pC_7, pC_6, pC_len, pC_put, pC_take8, pC_take6, pC_drop0]
    refine (rIs s q 41).pv ⟨.v, .v, .eq rfl (by simp), trivial⟩ ?_
    simp only [go_sem, Int.reduceEq, Int.reduceLE, Int.reduceLT, Int.reduceToNat]
    cases h5 : isB s q cRp
    case false =>
      simp only [go_sem, Int.reduceEq, Int.reduceLE, Int.reduceLT, Int.reduceToNat, pC_6]
      refine (rBadP q).pd ⟨.v, trivial⟩ (.agg (pC_bl _ _ _)) ?_
      simp only [go_sem, Int.reduceEq, Int.reduceLE, Int.reduceLT, Int.reduceToNat, pC_len, pC_put, pC_take8, pC_drop0]
      exact FinC rfl
    have lt5 := isB_lt h5
    have hw5 := wrap_succ q (by omega)
    simp only [go_sem, Int.reduceEq, Int.reduceLE, Int.reduceLT, Int.reduceToNat, pC_6, pC_len, pC_take6, pC_drop0, hw5, re_take6, re_drop7, pC_fold, pC_put, pC_take8]
    exact FinC rfl
  simp only [go_sem, Int.reduceEq, Int.reduceLE, Int.reduceLT, Int.reduceToNat]
  refine (rSgn s p hs).pd ⟨.v, .v, trivial⟩ (by cases pSign s p <;> simp [sgD]) ?_
  cases hsg : pSign s p
  case bad e =>
    simp only [go_sem, Int.reduceEq, Int.reduceLE, Int.reduceLT, Int.reduceToNat]
    refine (rBadP e).pd ⟨.v, trivial⟩ (.agg (pC_bl _ _ _)) ?_
    simp only [go_sem, Int.reduceEq, Int.reduceLE, Int.reduceLT, Int.reduceToNat, pC_len, pC_put, pC_take8, pC_drop0]
    exact FinC rfl
  rename_i b q
  have nb : ¬ (b.toNat : Int) < 0 := by omega
  have eb : IntKind.u8.wrap (b.toNat : Int) = b.toNat := by rw [IntKind.wrap_u8]; have := b.toNat_lt; omega
  simp only [go_sem, Int.reduceEq, Int.reduceLE, Int.reduceLT, Int.reduceToNat]
  simp only [go_sem, Int.reduceEq, Int.reduceLE, Int.reduceLT, Int.reduceToNat, nb, eb]
  have hl := ofS_len [b]
  refine (rOf [b] (by simp)).pd ⟨.eq rfl (by simp), trivial⟩ (.agg (W_bl _)) ?_
  generalize ofS [b] = ws at hl
  simp only [go_sem, Int.reduceEq, Int.reduceLE, Int.reduceLT, Int.reduceToNat]
  refine (rReOf ws hl).pd ⟨.same (.agg (W_bl _)), trivial⟩ (Re.d_bl _) ?_
  simp only [go_sem, Int.reduceEq, Int.reduceLE, Int.reduceLT, Int.reduceToNat, re_take6, re_drop7, pC_fold, pC_len, pC_put, pC_take8, pC_drop0]
  exact FinC rfl
theorem isB_atom (s : ByteArray) (p : Nat) : isB s p cAtom = (isB s p cDot || isB s p cLb || isB s p cLp) := by
  by_cases h : p < s.size
  · obtain ⟨b, hb⟩ := get_lt h
    rw [isB_at hb, isB_at hb, isB_at hb, isB_at hb]
    exact all_ofNat (p := fun b => decide (0 ≤ firstIdx cAtom b) = (decide (0 ≤ firstIdx cDot b) || decide (0 ≤ firstIdx cLb b) || decide (0 ≤ firstIdx cLp b))) (by decide +kernel) b
  · rw [isB_end h, isB_end h, isB_end h, isB_end h]; rfl
theorem mvRow {l : List Re} {k : Nat} {om : List Ob} {F : Nat → Bool} (h1 : om[0]? = some zP) (h2 : om[k]? = some (lsOb l)) : MvL om F [some 0, some k] [some 0, some k] [zP, lsOb l] :=
  ⟨.varS h1 (by simp), .slcS h2 (Re.map_bl l), trivial⟩
theorem mvStar {l : List Re} {r : Re} {q : Nat} {om : List Ob} {F : Nat → Bool} (h1 : om[0]? = some zP) (h2 : om[1]? = some (lsOb l)) (h3 : om[2]? = some (pOb r q false)) : MvL om F [some 0, some 1, some 2] [some 0, some 1, some 2] [zP, lsOb l, pOb r q false] :=
  ⟨.varS h1 (by simp), .slcS h2 (Re.map_bl l), .varS h3 (pC_bl _ _ _), trivial⟩
set_option maxHeartbeats 2000000 in
theorem rRow (A : Nat → PR) (s : ByteArray) (p : Nat) (hs : s.size ≤ 65536) (hp : p ≤ s.size) (hA : Fwd A s) (HA : ∀ q, p < q → q ≤ s.size → AP Tryz.prog 31 [.s s, .i q] (.agg (prC (A q)))) :
    AP Tryz.prog 44 [.s s, .i p] (.agg (prC (pRow A s p))) := by
  refine AC.lbody hT hm Tryz.func44 f44_nm f44_lc f44_res f44_nt ?_
  simp only [go_sem, Int.reduceEq, Int.reduceLE, Int.reduceLT, Int.reduceToNat]
  refine xl_loopM hT hm (fun i : List Re × Nat => ⟨f44_i12 (.s s) (.i i.2) (.ref 0 0) (.own 1), [zP, lsOb i.1]⟩)
    (fun i => i.2 ≤ s.size ∧ p ≤ i.2 ∧ i.1.length ≤ i.2 ∧ ((i.1 = [] ∧ i.2 = p) ∨ (i.1 ≠ [] ∧ pRow A s p = rowGo A s i.1 i.2))) (fun i => s.size - i.2) ([], p) ⟨hp, Nat.le_refl _, Nat.zero_le _, .inl ⟨rfl, rfl⟩⟩ ?_ ?_
  · exact Mv.of [some 0, some 1] rfl (mvRow rfl rfl) (by simp [f44_i12])
  rintro ⟨l, q⟩ ⟨hq, hpq, hlen, hst⟩
  dsimp only at hq hpq hlen hst
  have HA' : ∀ q', q < q' → q' ≤ s.size → AP Tryz.prog 31 [.s s, .i q'] (.agg (prC (A q'))) := fun q' h h' => HA q' (by omega) h'
  have go : (l = [] ∨ (isB s q cAtom || begB s q) = true) → pRow A s p = match pPart A s q with
      | .bad e => .bad e
      | .ok r q' => rowGo A s (l ++ [r]) q' := by
    intro h
    rcases hst with ⟨rfl, rfl⟩ | ⟨hl, hst⟩
    · unfold pRow
      cases pPart A s q <;> rfl
    · have h := h.resolve_left hl
      rw [hst, rowGo, if_pos h]
      cases hpp : pPart A s q with
      | bad e => rfl
      | ok r q' =>
        dsimp only
        rw [dif_pos (pPart_lt hA hpp)]
  simp only [go_sem, Int.reduceEq, Int.reduceLE, Int.reduceLT, Int.reduceToNat]
  by_cases hl : l = []
  case' pos =>
    have t0 : ((l.length : Int) == 0) = true := by rw [hl]; rfl
    have go := go (.inl hl)
    simp only [go_sem, Int.reduceEq, Int.reduceLE, Int.reduceLT, Int.reduceToNat, t0]
  case' neg =>
    have n0 : ((l.length : Int) == 0) = false := AWP.beq_false (by have := List.length_pos_iff.2 hl; omega)
    have go := fun h => go (.inr h)
    rw [isB_atom] at go
    simp only [go_sem, Int.reduceEq, Int.reduceLE, Int.reduceLT, Int.reduceToNat, n0]
    refine (rIs s q 46).pv ⟨.v, .v, .eq rfl (by simp), trivial⟩ ?_
    simp only [go_sem, Int.reduceEq, Int.reduceLE, Int.reduceLT, Int.reduceToNat]
    cases h1 : isB s q cDot
  case' neg.true =>
    have go := go (by rw [h1]; rfl)
    simp only [go_sem, Int.reduceEq, Int.reduceLE, Int.reduceLT, Int.reduceToNat]
  case' neg.false =>
    simp only [go_sem, Int.reduceEq, Int.reduceLE, Int.reduceLT, Int.reduceToNat]
    refine (rIs s q 91).pv ⟨.v, .v, .eq rfl (by simp), trivial⟩ ?_
    simp only [go_sem, Int.reduceEq, Int.reduceLE, Int.reduceLT, Int.reduceToNat]
    cases h2 : isB s q cLb
  case' neg.false.true =>
    have go := go (by rw [h1, h2]; rfl)
    simp only [go_sem, Int.reduceEq, Int.reduceLE, Int.reduceLT, Int.reduceToNat]
  case' neg.false.false =>
    simp only [go_sem, Int.reduceEq, Int.reduceLE, Int.reduceLT, Int.reduceToNat]
    refine (rIs s q 40).pv ⟨.v, .v, .eq rfl (by simp), trivial⟩ ?_
    simp only [go_sem, Int.reduceEq, Int.reduceLE, Int.reduceLT, Int.reduceToNat]
    cases h3 : isB s q cLp
  case' neg.false.false.true =>
    have go := go (by rw [h1, h2, h3]; rfl)
    simp only [go_sem, Int.reduceEq, Int.reduceLE, Int.reduceLT, Int.reduceToNat]
  case' neg.false.false.false =>
    simp only [go_sem, Int.reduceEq, Int.reduceLE, Int.reduceLT, Int.reduceToNat]
    refine (rBegins s q hs).pv ⟨.v, .v, trivial⟩ ?_
    simp only [go_sem, Int.reduceEq, Int.reduceLE, Int.reduceLT, Int.reduceToNat]
    cases h4 : begB s q
  case neg.false.false.false.false =>
    have hst := (hst.resolve_left fun h => hl h.1).2
    rw [rowGo, isB_atom, if_neg (by rw [h1, h2, h3, h4]; simp)] at hst
    rw [hst]
    simp only [go_sem, Int.reduceEq, Int.reduceLE, Int.reduceLT, Int.reduceToNat]
    refine (rFold 4 l (by omega)).callF (fun k => k == 1) ⟨.v, cvLs rfl rfl, trivial⟩ (Re.d_bl _) ?_
    have ef : frzL (fun k => k == 1) [zP, lsOb l] = [zP, .frz 6 (l.map Re.c)] := rfl
    rw [show noK 4 = 2 from rfl]
    generalize foldL 4 2 l = r
    simp only [go_sem, Int.reduceEq, Int.reduceLE, Int.reduceLT, Int.reduceToNat, ef, re_take6, re_drop7, pC_fold, pC_len, pC_put, pC_take8, pC_drop0]
    exact FinC rfl
  case' neg.false.false.false.true =>
    have go := go (by rw [h1, h2, h3, h4]; rfl)
    simp only [go_sem, Int.reduceEq, Int.reduceLE, Int.reduceLT, Int.reduceToNat]
  all_goals
    refine (rAtom A s q hs hq HA').pd ⟨.v, .v, trivial⟩ (prC_bl _) ?_
    unfold pPart at go
    cases hc : pAtom A s q
    case bad e =>
      rw [hc] at go
      rw [go]
      simp only [go_sem, Int.reduceEq, Int.reduceLE, Int.reduceLT, Int.reduceToNat, pC_7, pC_len, pC_put, pC_take8, pC_drop0]
      exact FinC rfl
    rename_i r0 q0
    rw [hc] at go
    dsimp only at go
    have hq0 := pAtom_lt hA hc
    simp only [go_sem, Int.reduceEq, Int.reduceLE, Int.reduceLT, Int.reduceToNat, pC_7, pC_6, pC_len, pC_put, pC_take8, pC_drop0]
    refine xl_loopM hT hm (fun i : Re × Nat => ⟨f44_i10 (.s s) (.i i.2) (.ref 0 0) (.own 1) (.ref 2 0), [zP, lsOb l, pOb i.1 q0 false]⟩)
      (fun i => i.2 ≤ s.size ∧ q0 ≤ i.2 ∧ starGo s i.1 i.2 = starGo s r0 q0) (fun i => s.size - i.2) (r0, q0) ⟨hq0.2, Nat.le_refl _, rfl⟩ (Mv.of [some 0, some 1, some 2] rfl (mvStar rfl rfl rfl) (by simp [f44_i10])) ?_
    rintro ⟨r, q2⟩ ⟨hq2, hq02, hstar⟩
    dsimp only at hq2 hq02 hstar
    simp only [go_sem, Int.reduceEq, Int.reduceLE, Int.reduceLT, Int.reduceToNat]
    refine (rIs s q2 42).pv ⟨.v, .v, .eq rfl (by simp), trivial⟩ ?_
    simp only [go_sem, Int.reduceEq, Int.reduceLE, Int.reduceLT, Int.reduceToNat]
    cases h5 : isB s q2 cStar
    case false =>
      rw [starGo, dif_neg (by rw [h5]; simp)] at hstar
      rw [← hstar] at go
      simp only [go_sem, Int.reduceEq, Int.reduceLE, Int.reduceLT, Int.reduceToNat, pC_len, pC_take6, pC_drop0]
      exact ⟨by omega, (l ++ [r], q2), ⟨hq2, by dsimp only; omega, by simp; omega, .inr ⟨by simp, go⟩⟩, by dsimp only; omega, Mv.of [some 0, some 3] rfl (mvRow rfl (by simp)) (by simp [f44_i12])⟩
    have lt := isB_lt h5
    have hw := wrap_succ q2 (by omega)
    rw [starGo, dif_pos h5] at hstar
    simp only [go_sem, Int.reduceEq, Int.reduceLE, Int.reduceLT, Int.reduceToNat, hw, pC_len, pC_take6, pC_drop0]
    refine (many r).pd ⟨.same (Re.d_bl _), trivial⟩ (Re.d_bl _) ?_
    generalize Re.mk 6 0 0 0 0 [r] = r' at hstar
    simp only [go_sem, Int.reduceEq, Int.reduceLE, Int.reduceLT, Int.reduceToNat, hw, pC_putR]
    exact ⟨(r', q2 + 1), ⟨lt, by dsimp only; omega, hstar⟩, by dsimp only; omega, Mv.of [some 0, some 1, some 2] rfl (mvStar rfl rfl rfl) (by simp [f44_i10])⟩
theorem rAlt1 (A : Nat → PR) (s : ByteArray) (p : Nat) (hs : s.size ≤ 65536) (hp : p ≤ s.size) (hA : Fwd A s) (HA : ∀ q, p < q → q ≤ s.size → AP Tryz.prog 31 [.s s, .i q] (.agg (prC (A q)))) :
    AP Tryz.prog 31 [.s s, .i p] (.agg (prC (pAlt A s p))) := by
  refine AC.lbody hT hm Tryz.func31 f31_nm f31_lc f31_res f31_nt ?_
  simp only [go_sem, Int.reduceEq, Int.reduceLE, Int.reduceLT, Int.reduceToNat]
  refine xl_loopM hT hm (fun i : List Re × Nat => ⟨f31_i10 (.s s) (.i i.2) (.ref 0 0) (.own 1), [zP, lsOb i.1]⟩)
    (fun i => i.2 ≤ s.size ∧ p ≤ i.2 ∧ i.1.length ≤ i.2 ∧ pAlt A s p = match pRow A s i.2 with
      | .bad e => .bad e
      | .ok r q' => altGo A s (i.1 ++ [r]) q') (fun i => s.size - i.2) ([], p) ⟨hp, Nat.le_refl _, Nat.zero_le _, by unfold pAlt; cases pRow A s p <;> rfl⟩ (Mv.of [some 0, some 1] rfl (mvRow rfl rfl) (by simp [f31_i10])) ?_
  rintro ⟨l, q⟩ ⟨hq, hpq, hlen, go⟩
  dsimp only at hq hpq hlen go
  have HA' : ∀ q', q < q' → q' ≤ s.size → AP Tryz.prog 31 [.s s, .i q'] (.agg (prC (A q'))) := fun q' h h' => HA q' (by omega) h'
  simp only [go_sem, Int.reduceEq, Int.reduceLE, Int.reduceLT, Int.reduceToNat]
  refine (rRow A s q hs hq hA HA').pd ⟨.v, .v, trivial⟩ (prC_bl _) ?_
  cases hc : pRow A s q
  case bad e =>
    rw [hc] at go
    rw [go]
    simp only [go_sem, Int.reduceEq, Int.reduceLE, Int.reduceLT, Int.reduceToNat, pC_7, pC_len, pC_put, pC_take8, pC_drop0]
    exact FinC rfl
  rename_i r q'
  rw [hc] at go
  dsimp only at go
  have hq' := pRow_lt hA hc
  simp only [go_sem, Int.reduceEq, Int.reduceLE, Int.reduceLT, Int.reduceToNat, pC_7, pC_6, pC_len, pC_put, pC_take6, pC_take8, pC_drop0]
  refine ⟨by omega, ?_⟩
  refine (rIs s q' 124).pv ⟨.v, .v, .eq rfl (by simp), trivial⟩ ?_
  simp only [go_sem, Int.reduceEq, Int.reduceLE, Int.reduceLT, Int.reduceToNat]
  have el : lsOb (l ++ [r]) = .slc 52 6 (l.map Re.c ++ [r.c]) := by simp
  cases h1 : isB s q' cBar
  case false =>
    rw [altGo, if_neg (by rw [h1]; simp)] at go
    rw [go]
    simp only [go_sem, Int.reduceEq, Int.reduceLE, Int.reduceLT, Int.reduceToNat]
    refine (rFold 5 (l ++ [r]) (by simp; omega)).callF (fun k => k == 3) ⟨.v, cvLs (by rw [el]; rfl) rfl, trivial⟩ (Re.d_bl _) ?_
    have ef : frzL (fun k => k == 3) [zP, Ob.dead, .var 79 (prC (PR.ok r q')), .slc 52 6 (l.map Re.c ++ [r.c])] = [zP, Ob.dead, .var 79 (prC (PR.ok r q')), .frz 6 (l.map Re.c ++ [r.c])] := rfl
    rw [show noK 5 = 1 from rfl]
    generalize foldL 5 1 (l ++ [r]) = z
    simp only [go_sem, Int.reduceEq, Int.reduceLE, Int.reduceLT, Int.reduceToNat, ef, re_take6, re_drop7, pC_fold, pC_len, pC_put, pC_take8, pC_drop0]
    exact FinC rfl
  rw [altGo, if_pos h1] at go
  have lt := isB_lt h1
  have hw := wrap_succ q' (by omega)
  simp only [go_sem, Int.reduceEq, Int.reduceLE, Int.reduceLT, Int.reduceToNat, hw]
  refine ⟨(l ++ [r], q' + 1), ⟨lt, by dsimp only; omega, by simp; omega, ?_⟩, by dsimp only; omega, Mv.of [some 0, some 3] rfl (mvRow rfl (by simp)) (by simp [f31_i10])⟩
  rw [go]
  cases hc' : pRow A s (q' + 1) with
  | bad e => rfl
  | ok r' q'' =>
    dsimp only
    have := pRow_lt hA hc'
    rw [dif_pos (by omega)]
theorem rAlt (s : ByteArray) (hs : s.size ≤ 65536) : ∀ (n p : Nat), s.size - p ≤ n → p ≤ s.size → AP Tryz.prog 31 [.s s, .i p] (.agg (prC (altF s p))) := by
  intro n
  induction n with
  | zero =>
    intro p hn hp
    rw [altF_eq]
    exact rAlt1 _ s p hs hp (altA_fwd s p) fun q h h' => by omega
  | succ n ih =>
    intro p hn hp
    rw [altF_eq]
    refine rAlt1 _ s p hs hp (altA_fwd s p) fun q h h' => ?_
    unfold altA
    rw [if_pos ⟨h, h'⟩]
    exact ih q (by omega) h'
end Go.Proofs.YtdliolbjngcgcaaGreatDoor.W
set_option maxRecDepth 100000
/- The document's reader: what a text is read as. -/
namespace Go.Proofs.YtdliolbjngcgcaaGreatDoor.W
open Go Go.Proofs Go.Proofs.YtdliolbjngcgcaaGreatDoor.AWP
attribute [local irreducible] xl hide aop aops aopQ qops guardP condP
theorem rRead (s : ByteArray) : AP Tryz.prog 16 [.s s] (wdD (pRead s)) := by
  unfold pRead
  by_cases hs : s.size ≤ 65536
  case neg =>
    have h1 : (65536 : Int) < s.size := by omega
    rw [if_pos (by omega)]
    refine AC.lbody hT hm Tryz.func16 f16_nm f16_lc f16_res f16_nt ?_
    simp only [go_sem, Int.reduceEq, Int.reduceLE, Int.reduceLT, Int.reduceToNat, h1]
    exact Fin.ret (.tupL ⟨.aggL (by simp [CvL, Re.c_mk, Re.cs_eq]), .v, .v, trivial⟩)
  rw [if_neg (by omega)]
  have h1 : ¬ (65536 : Int) < s.size := by omega
  have hsz := pWhole_sz s
  have ha := rAlt s hs _ 0 (Nat.le_refl _) (Nat.zero_le _)
  unfold pWhole at hsz ⊢
  refine AC.lbody hT hm Tryz.func16 f16_nm f16_lc f16_res f16_nt ?_
  simp only [go_sem, Int.reduceEq, Int.reduceLE, Int.reduceLT, Int.reduceToNat, h1]
  refine ha.pd ⟨.v, .v, trivial⟩ (.agg (by cases altF s 0 <;> exact pC_bl _ _ _)) ?_
  cases hc : altF s 0 with
  | bad e =>
    simp only [go_sem, Int.reduceEq, Int.reduceLE, Int.reduceLT, Int.reduceToNat, pC_len, pC_put, pC_take8, pC_drop0, pC_7, pC_6, and_self]
    exact Fin.ret (.tupL ⟨.aggL (by simp [CvL, Re.c_mk, Re.cs_eq]), .v, .v, trivial⟩)
  | ok r q =>
    rw [hc] at hsz
    dsimp only at hsz ⊢
    simp only [go_sem, Int.reduceEq, Int.reduceLE, Int.reduceLT, Int.reduceToNat, pC_len, pC_put, pC_take8, pC_drop0, pC_7, pC_6]
    by_cases hq : q < s.size
    · simp only [go_sem, Int.reduceEq, Int.reduceLE, Int.reduceLT, Int.reduceToNat, hq, pC_len, pC_put, pC_take8, pC_drop0, pC_7, pC_6, and_self]
      exact Fin.ret (.tupL ⟨.aggL (by simp [CvL, Re.c_mk, Re.cs_eq]), .v, .v, trivial⟩)
    rw [if_neg hq] at hsz
    simp only [go_sem, Int.reduceEq, Int.reduceLE, Int.reduceLT, Int.reduceToNat, hq, pC_len, pC_put, pC_take8, pC_drop0, pC_7, pC_6, pC_take6]
    refine (rMay r (by dsimp only at hsz; omega)).pv ⟨.same (Re.d_bl _), trivial⟩ ?_
    cases hm : mayB r
    · simp only [go_sem, Int.reduceEq, Int.reduceLE, Int.reduceLT, Int.reduceToNat]
      exact Fin.ret (.tupL ⟨.aggL (by simp [CvL, Re.c_mk, Re.cs_eq]), .v, .v, trivial⟩)
    · simp only [go_sem, Int.reduceEq, Int.reduceLE, Int.reduceLT, Int.reduceToNat, pC_len, pC_put, pC_take8, pC_drop0, pC_7, pC_6, pC_take6, Re.put1]
      exact Fin.ret (.tupL ⟨.same (Re.d_bl _), .v, .v, trivial⟩)
/-! ### Texts: is one of some so? -/
theorem idxSt (G : FuncId) (p : ByteArray → Bool) (l : List ByteArray) (hl : l.length ≤ 9223372036854775807) (H : ∀ x ∈ l, AP Tryz.prog G [.s x] (.b (p x))) : AP Tryz.prog 56 [.sl 1 (l.map fun x => [.s x]), .fn G []] (.i (idxI p l)) := by
  refine AC.lbody hT hm Tryz.func56 f56_nm f56_lc f56_res f56_nt ?_
  simp only [go_sem, Int.reduceEq, Int.reduceLE, Int.reduceLT, Int.reduceToNat]
  refine xl_loopM hT hm (fun i : Nat => ⟨f56_i7 (.sl 1 (l.map fun x => [.s x])) (.fn G []) (.i l.length) (.i i), []⟩)
    (fun i => i ≤ l.length ∧ ∀ j x, j < i → l[j]? = some x → p x = false) (fun i => l.length - i) 0 ⟨Nat.zero_le _, fun j x h => absurd h (Nat.not_lt_zero _)⟩ (Mv.none (by simp [f56_i7])) ?_
  rintro i ⟨hi, hn⟩
  simp only [go_sem, Int.reduceEq, Int.reduceLE, Int.reduceLT, Int.reduceToNat]
  by_cases h : i < l.length
  case neg =>
    simp only [go_sem, Int.reduceEq, Int.reduceLE, Int.reduceLT, Int.reduceToNat, h]
    refine Fin.v ?_
    have : l.findIdx? p = none := by
      rw [List.findIdx?_eq_none_iff]
      intro x hx
      obtain ⟨j, hj⟩ := List.getElem?_of_mem hx
      exact hn j x (by have := (List.getElem?_eq_some_iff.1 hj).1; omega) hj
    unfold idxI
    rw [this]
  obtain ⟨x, hx⟩ := get_ex h
  simp only [go_sem, Int.reduceEq, Int.reduceLE, Int.reduceLT, Int.reduceToNat, h, hx]
  refine (H x (List.mem_of_getElem? hx)).pv ⟨.same (by simp), trivial⟩ ?_
  cases hp : p x
  case true =>
    simp only [go_sem, Int.reduceEq, Int.reduceLE, Int.reduceLT, Int.reduceToNat]
    refine Fin.v ?_
    have : l.findIdx? p = some i := by
      rw [List.findIdx?_eq_some_iff_getElem]
      obtain ⟨hlt, hxe⟩ := List.getElem?_eq_some_iff.1 hx
      refine ⟨hlt, by rw [hxe]; exact hp, fun j hji => ?_⟩
      have := hn j l[j] hji (List.getElem?_eq_getElem (by omega))
      simp [this]
    unfold idxI
    rw [this]
  simp only [go_sem, Int.reduceEq, Int.reduceLE, Int.reduceLT, Int.reduceToNat]
  rw [wrap_succ i (by omega)]
  refine ⟨i + 1, ⟨h, fun j y hj hy => ?_⟩, by omega, Mv.none (by simp)⟩
  by_cases e : j = i
  · subst e; rw [hx] at hy; cases hy; exact hp
  · exact hn j y (by omega) hy
theorem anySt (G : FuncId) (p : ByteArray → Bool) (l : List ByteArray) (hl : l.length ≤ 9223372036854775807) (H : ∀ x ∈ l, AP Tryz.prog G [.s x] (.b (p x))) : AP Tryz.prog 40 [.sl 1 (l.map fun x => [.s x]), .fn G []] (.b (l.any p)) := by
  refine AC.lbody hT hm Tryz.func40 f40_nm f40_lc f40_res f40_nt ?_
  simp only [go_sem, Int.reduceEq, Int.reduceLE, Int.reduceLT, Int.reduceToNat]
  refine (idxSt G p l hl H).pv ⟨.same (by simp), .same (by simp), trivial⟩ ?_
  simp only [go_sem, Int.reduceEq, Int.reduceLE, Int.reduceLT, Int.reduceToNat]
  exact Fin.v (by rw [idxI_nn])
end Go.Proofs.YtdliolbjngcgcaaGreatDoor.W
set_option maxRecDepth 100000
/- Names; rules as data; which are great; their names. -/
namespace Go.Proofs.YtdliolbjngcgcaaGreatDoor.W
open Go Go.Proofs Go.Proofs.YtdliolbjngcgcaaGreatDoor.AWP
attribute [local irreducible] xl hide aop aops aopQ qops guardP condP
abbrev Strs (l : List ByteArray) : D := .sl 1 (l.map fun x => [.s x])
theorem strs_bl (l : List ByteArray) : ∀ r ∈ l.map (fun x => [D.s x]), ∀ d ∈ r, Bl 0 d := by
  intro r hr d hd
  obtain ⟨b, _, rfl⟩ := List.mem_map.1 hr
  rw [List.mem_singleton.1 hd]
  exact .v _
theorem Strs_bl (l : List ByteArray) : Bl 0 (Strs l) := .sl (strs_bl l)
theorem numName1 (s : ByteArray) (hs : s.size ≤ 1000000) : AP Tryz.prog 41 [.s s] (.b (!nameB s)) := by
  refine AC.lbody hT hm Tryz.func41 f41_nm f41_lc f41_res f41_nt ?_
  simp only [go_sem, Int.reduceEq, Int.reduceLE, Int.reduceLT, Int.reduceToNat]
  refine (numName s hs).pv ⟨.v, trivial⟩ ?_
  simp only [go_sem, Int.reduceEq, Int.reduceLE, Int.reduceLT, Int.reduceToNat]
  exact Fin.v rfl
theorem numNames (l : List ByteArray) (hl : l.length ≤ 1000000) (hs : ∀ x ∈ l, x.size ≤ 1000000) : AP Tryz.prog 28 [Strs l] (.b (!l.any fun s => !nameB s)) := by
  refine AC.lbody hT hm Tryz.func28 f28_nm f28_lc f28_res f28_nt ?_
  simp only [go_sem, Int.reduceEq, Int.reduceLE, Int.reduceLT, Int.reduceToNat]
  refine (anySt 41 (fun s => !nameB s) l (by omega) fun x hx => numName1 x (hs x hx)).pv ⟨.same (Strs_bl l), .same (by simp), trivial⟩ ?_
  simp only [go_sem, Int.reduceEq, Int.reduceLE, Int.reduceLT, Int.reduceToNat]
  exact Fin.v rfl
theorem numNameS (s : ByteArray) (hs : s.size ≤ 1000000) : AP Tryz.prog 28 [.sl 1 [[.s s]]] (.b (nameB s)) := by
  have := numNames [s] (by simp) (by simpa using hs)
  have e : (![s].any fun s => !nameB s) = nameB s := by simp
  rw [e] at this
  exact this
/-- Rules: a name and an expression. -/
abbrev Rl := ByteArray × Re
def rlD (x : Rl) : List D := .s x.1 :: x.2.c
theorem rlD_len (x : Rl) : (rlD x).length = 7 := by simp [rlD]
theorem rlD_bl (x : Rl) : ∀ d ∈ rlD x, Bl 0 d := by
  intro d hd
  rcases List.mem_cons.1 hd with rfl | hd
  · exact .v _
  · exact Re.c_bl _ d hd
abbrev rlR (l : List Rl) : List (List D) := l.map rlD
theorem rlR_bl (l : List Rl) : ∀ r ∈ rlR l, ∀ d ∈ r, Bl 0 d := by
  intro r hr d hd
  obtain ⟨x, _, rfl⟩ := List.mem_map.1 hr
  exact rlD_bl x d hd
abbrev Rls (l : List Rl) : D := .sl 7 (rlR l)
theorem Rls_bl (l : List Rl) : Bl 0 (Rls l) := .sl (rlR_bl l)
theorem rlR_get {l : List Rl} {i : Nat} {x : Rl} (h : l[i]? = some x) : (rlR l)[i]? = some (rlD x) := by rw [List.getElem?_map, h]; rfl
theorem rlD_0 (x : Rl) : (rlD x)[0]? = some (.s x.1) := rfl
theorem rlD_drop (x : Rl) : (rlD x).drop 1 = x.2.c := rfl
theorem rlD_take (x : Rl) : (rlD x).take 7 = rlD x := List.take_of_length_le (by simp [rlD_len])
theorem rl_put (ty : Nat) (a : List D) (ha : a.length = 7) (x : Rl) : obPut (.var ty a) 0 (rlD x) = some (.var ty (rlD x)) := by
  rw [obPut_var (by simp [ha, rlD_len]), splc_all (by simp [ha, rlD_len])]
end Go.Proofs.YtdliolbjngcgcaaGreatDoor.W
set_option maxRecDepth 100000
/- Few enough nodes; the lines of a text. -/
namespace Go.Proofs.YtdliolbjngcgcaaGreatDoor.W
open Go Go.Proofs Go.Proofs.YtdliolbjngcgcaaGreatDoor.AWP
attribute [local irreducible] xl hide aop aops aopQ qops guardP condP
theorem one_blR (x : Re) : Bl 0 (.sl 6 [x.c]) := .sl fun r hr d hd => by
  rw [List.mem_singleton.1 hr] at hd; exact Re.c_bl _ d hd
def rlSz : List Rl → Nat
  | [] => 0
  | x :: l => x.2.sz + rlSz l
theorem rlSz_app : ∀ (a b : List Rl), rlSz (a ++ b) = rlSz a + rlSz b
  | [], b => by simp [rlSz]
  | x :: a, b => by rw [List.cons_append, rlSz, rlSz, rlSz_app a b]; omega
theorem rlSz_take {l : List Rl} {i : Nat} {x : Rl} (h : l[i]? = some x) : rlSz (l.take (i + 1)) = rlSz (l.take i) + x.2.sz := by
  rw [List.take_add_one, h, rlSz_app]
  simp [rlSz]
theorem rlSz_le : ∀ (l : List Rl) (m : Nat), (∀ x ∈ l, x.2.sz ≤ m) → rlSz l ≤ l.length * m
  | [], m, _ => Nat.zero_le _
  | x :: l, m, h => by
    have h1 := h x (by simp)
    have h2 := rlSz_le l m fun y hy => h y (by simp [hy])
    rw [rlSz, List.length_cons, Nat.add_mul]
    omega
def fewB (l : List Rl) : Bool := decide ((l.length : Int) - 1 + rlSz l ≤ 2000)
set_option maxHeartbeats 1000000 in
theorem few (l : List Rl) (hl : l.length ≤ 1000) (hz : ∀ x ∈ l, x.2.sz ≤ 1048576) : AP Tryz.prog 12 [Rls l] (.b (fewB l)) := by
  have hq : ∀ om (ks : List (Option Nat)), Cv om (fun _ => true) ks (Rls l) (Rls l) := fun om ks => .same (Rls_bl l)
  have hw0 : IntKind.i64.wrap ((l.length : Int) - 1) = (l.length : Int) - 1 := wrap_int _ (by omega) (by omega)
  unfold fewB
  refine AC.lbody hT hm Tryz.func12 f12_nm f12_lc f12_res f12_nt ?_
  simp only [go_sem, Int.reduceEq, Int.reduceLE, Int.reduceLT, Int.reduceToNat, List.length_map, hw0]
  refine xl_loopM hT hm (fun i : Nat => ⟨f12_i7 (.i ((l.length : Int) - 1 + rlSz (l.take i))) (Rls l) (.i l.length) (.i i), []⟩)
    (fun i => i ≤ l.length) (fun i => l.length - i) 0 (Nat.zero_le _) (Mv.none (by simp [f12_i7, hq, rlSz])) ?_
  intro i hi
  simp only [go_sem, Int.reduceEq, Int.reduceLE, Int.reduceLT, Int.reduceToNat, List.length_map]
  by_cases h : i < l.length
  case neg =>
    have ht : l.take i = l := List.take_of_length_le (by omega)
    simp only [go_sem, Int.reduceEq, Int.reduceLE, Int.reduceLT, Int.reduceToNat, h]
    rw [ht]
    exact Fin.v rfl
  obtain ⟨x, hx⟩ := get_ex h
  have hg := rlR_get hx
  have hlen := rlD_len x
  have hxs := hz x (List.mem_of_getElem? hx)
  have e1 : Re.szs [x.2] = x.2.sz := by simp [Re.szs]
  have hS := size [x.2] (by rw [e1]; omega)
  rw [e1] at hS
  have ht := rlSz_take hx
  have hb := rlSz_le (l.take i) 1048576 fun y hy => hz y (List.mem_of_mem_take hy)
  rw [List.length_take] at hb
  have hb2 : min i l.length * 1048576 ≤ 1000 * 1048576 := Nat.mul_le_mul_right _ (by omega)
  have hwi := wrap_succ i (by omega)
  have hw1 : IntKind.i64.wrap ((l.length : Int) - 1 + rlSz (l.take i) + x.2.sz) = (l.length : Int) - 1 + rlSz (l.take (i + 1)) := by
    rw [wrap_int _ (by omega) (by omega), ht]; omega
  simp only [go_sem, Int.reduceEq, Int.reduceLE, Int.reduceLT, Int.reduceToNat, List.length_map, h, hg, rlD_0, hlen, rlD_take, rl_put, rlD_drop]
  refine hS.pv ⟨.same (one_blR x.2), trivial⟩ ?_
  simp only [go_sem, Int.reduceEq, Int.reduceLE, Int.reduceLT, Int.reduceToNat, hw1]
  refine ⟨i + 1, h, by omega, ?_⟩
  rw [hwi]
  exact Mv.none (by simp [hq])
end Go.Proofs.YtdliolbjngcgcaaGreatDoor.W
set_option maxRecDepth 100000
/- A line of rules. -/
namespace Go.Proofs.YtdliolbjngcgcaaGreatDoor.W
open Go Go.Proofs Go.Proofs.YtdliolbjngcgcaaGreatDoor.AWP
attribute [local irreducible] xl hide aop aops aopQ qops guardP condP
abbrev metL (l : List Rl) : List (ByteArray × Value) := l.map fun x => (x.1, Value.bool true)
def inB (n : ByteArray) (l : List Rl) : Bool := l.any fun x => decide (n = x.1)
theorem met_find (n : ByteArray) : ∀ l : List Rl, esFind n (metL l) = if inB n l = true then some (.bool true) else none
  | [] => rfl
  | x :: l => by
    have ih := met_find n l
    show (if n = x.1 then some (Value.bool true) else esFind n (metL l)) = _
    rw [ih]
    unfold inB
    by_cases h : n = x.1
    · simp [h]
    · rw [if_neg h]; simp only [List.any_cons, h, decide_false, Bool.false_or]
theorem get_con (R : List Ob) (v : Ob) : (R ++ [v])[R.length]? = some v := by simp
theorem set_con (R : List Ob) (v w : Ob) : (R ++ [v]).set R.length w = R ++ [w] := by
  rw [List.set_append_right _ _ (Nat.le_refl _)]; simp
theorem met_app (l : List Rl) (x : Rl) : metL l ++ [(x.1, Value.bool true)] = metL (l ++ [x]) := by simp [metL]
/-- What a line comes to: a place, an error's number, the rule. -/
def lineR (l : List Rl) (s : ByteArray) : Nat × Nat × Option Rl :=
  if 100 ≤ l.length then (0, 4, none)
  else if (!(cutS 32 s).2.2 || !nameB (cutS 32 s).1 || inB (cutS 32 s).1 l) = true then (0, 2, none)
  else if (pRead (cutS 32 s).2.1).2.2 = 2 then ((cutS 32 s).1.size + 1 + (pRead (cutS 32 s).2.1).2.1, 2, none)
  else (0, (pRead (cutS 32 s).2.1).2.2, some ((cutS 32 s).1, (pRead (cutS 32 s).2.1).1))
theorem ext_size (s : ByteArray) (a b : Nat) : (s.extract a b).size ≤ s.size := by rw [ByteArray.size_extract]; omega
theorem cut_size (c : UInt8) (s : ByteArray) : (cutS c s).1.size ≤ s.size ∧ (cutS c s).2.1.size ≤ s.size := by
  unfold cutS
  split
  · exact ⟨ext_size _ _ _, ext_size _ _ _⟩
  · exact ⟨Nat.le_refl _, Nat.zero_le _⟩
abbrev rlOb (l : List Rl) : Ob := .slc 56 7 (rlR l)
set_option maxHeartbeats 2000000 in
theorem lineS (a0 a1 a2 a5 a6 a7 a8 : Ob) (l : List Rl) (hl : l.length ≤ 100) (s : ByteArray) (hs : s.size ≤ 70000) (R : List Ob) (n : Nat) (hRn : R[n]? = some (rlOb l)) (hRl : R.length = n + 1) :
    AC Tryz.prog 11 [.ref 4 0, .s s] ([a0, a1, a2, .mp (metL l), .var 36 [.own (n + 9), .own 3], a5, a6, a7, a8] ++ R)
      (fun o om' => o = .ret (.tup [.i (lineR l s).1, .i (lineR l s).2.1]) ∧
        match (lineR l s).2.2 with
        | none => ∃ Y, om' = [a0, a1, a2, .mp (metL l), .var 36 [.own (n + 9), .own 3], a5, a6, a7, a8] ++ R ++ Y
        | some x => ∃ R' n', R'[n']? = some (rlOb (l ++ [x])) ∧ R'.length = n' + 1 ∧ om' = [a0, a1, a2, .mp (metL (l ++ [x])), .var 36 [.own (n' + 9), .own 3], a5, a6, a7, a8] ++ R') := by
  have hC := cut2 s 32 (by omega)
  have hsz := cut_size 32 s
  unfold lineR
  generalize cutS 32 s = x at hC hsz
  obtain ⟨nm, rest, ok⟩ := x
  simp only at hsz
  have hN := numNameS nm (by omega)
  have hM := met_find nm l
  have hRd := readN rest
  have hat : (pRead rest).2.1 ≤ 70001 := by have := pRead_at rest; omega
  generalize pRead rest = p at hRd hat
  obtain ⟨y, at', e⟩ := p
  simp only at hat ⊢
  refine AC.lbody hT hm Tryz.func11 f11_nm f11_lc f11_res f11_nt ?_
  simp only [go_sem, Int.reduceEq, Int.reduceLE, Int.reduceLT, Int.reduceToNat]
  refine hC.pd ⟨.v, .v, trivial⟩ (cutD_bl _) ?_
  by_cases h100 : 100 ≤ l.length
  · rw [if_pos h100]
    have h1 : (100 : Int) ≤ l.length := by omega
    simp only [go_sem, Int.reduceEq, Int.reduceLE, Int.reduceLT, Int.reduceToNat, hRn, List.length_map, h1]
    exact finSelf ⟨rfl, [], by simp⟩
  rw [if_neg h100]
  have h1 : ¬ (100 : Int) ≤ l.length := by omega
  cases ok with
  | false =>
    simp only [go_sem, Int.reduceEq, Int.reduceLE, Int.reduceLT, Int.reduceToNat, hRn, List.length_map, h1, Bool.not_false, Bool.true_or, if_true]
    exact finSelf ⟨rfl, [], by simp⟩
  | true =>
  simp only [go_sem, Int.reduceEq, Int.reduceLE, Int.reduceLT, Int.reduceToNat, hRn, List.length_map, h1, Bool.not_true, Bool.false_or]
  refine hN.pv ⟨.same (.sl (by simp)), trivial⟩ ?_
  cases hnb : nameB nm with
  | false =>
    simp only [go_sem, Int.reduceEq, Int.reduceLE, Int.reduceLT, Int.reduceToNat, Bool.not_false, Bool.true_or, if_true]
    exact finSelf ⟨rfl, [], by simp⟩
  | true =>
  cases hin : inB nm l with
  | true =>
    rw [hin, if_pos rfl] at hM
    simp only [go_sem, Int.reduceEq, Int.reduceLE, Int.reduceLT, Int.reduceToNat, hM, Option.getD_some, Option.isSome_some, Bool.not_true, Bool.false_or, if_true]
    exact finSelf ⟨rfl, [], by simp⟩
  | false =>
  rw [hin, if_neg (by simp)] at hM
  simp only [go_sem, Int.reduceEq, Int.reduceLE, Int.reduceLT, Int.reduceToNat, hM, Option.getD_none, Option.isSome_none, Bool.not_true, Bool.false_or, if_false, Bool.false_eq_true]
  refine hRd.pd ⟨.v, trivial⟩ (wdD_bl _) ?_
  by_cases he : e = 2
  · subst he
    have z1 : (((2 : Nat) : Int) == 2) = true := rfl
    rw [if_pos rfl]
    have hw : IntKind.i64.wrap (IntKind.i64.wrap ((nm.size : Int) + 1) + at') = ((nm.size + 1 + at' : Nat) : Int) := by
      have hw1 : IntKind.i64.wrap ((nm.size : Int) + 1) = (nm.size : Int) + 1 := wrap_int _ (by omega) (by omega)
      rw [hw1, wrap_int _ (by omega) (by omega)]; omega
    simp only [go_sem, Int.reduceEq, Int.reduceLE, Int.reduceLT, Int.reduceToNat, z1, get_con, set_con, Re.put0, hw]
    exact finSelf ⟨rfl, [.var 52 y.c], by simp⟩
  have z1 : (((e : Nat) : Int) == 2) = false := beq_eq_false_iff_ne.2 (by omega)
  rw [if_neg he]
  have hR2 : ∀ v, (R ++ [v])[n]? = some (rlOb l) := fun v => by rw [List.getElem?_append_left (by omega)]; exact hRn
  simp only [go_sem, Int.reduceEq, Int.reduceLE, Int.reduceLT, Int.reduceToNat, z1, get_con, set_con, Re.put0, hR2, hM, List.length_map]
  refine ⟨by omega, finSelf ⟨rfl, (R ++ [Ob.var 52 y.c]).set n .dead ++ [rlOb (l ++ [(nm, y)])], R.length + 1, ?_, by simp, ?_⟩⟩
  · rw [List.getElem?_append_right (by simp)]
    simp
  · rw [← met_app]
    simp [rlD]
set_option maxHeartbeats 2000000 in
theorem lineN (a0 a1 a2 a5 a6 a7 a8 : Ob) (s : ByteArray) (hs : s.size ≤ 70000) :
    AC Tryz.prog 11 [.ref 4 0, .s s] [a0, a1, a2, .mp (metL []), .var 36 [.v (.slice none 0 0), .own 3], a5, a6, a7, a8]
      (fun o om' => o = .ret (.tup [.i (lineR [] s).1, .i (lineR [] s).2.1]) ∧
        match (lineR [] s).2.2 with
        | none => ∃ Y, om' = [a0, a1, a2, .mp (metL []), .var 36 [.v (.slice none 0 0), .own 3], a5, a6, a7, a8] ++ Y
        | some x => ∃ R' n', R'[n']? = some (rlOb ([] ++ [x])) ∧ R'.length = n' + 1 ∧ om' = [a0, a1, a2, .mp (metL ([] ++ [x])), .var 36 [.own (n' + 9), .own 3], a5, a6, a7, a8] ++ R') := by
  have hC := cut2 s 32 (by omega)
  have hsz := cut_size 32 s
  unfold lineR
  generalize cutS 32 s = x at hC hsz
  obtain ⟨nm, rest, ok⟩ := x
  simp only at hsz
  have hN := numNameS nm (by omega)
  have hRd := readN rest
  have hat : (pRead rest).2.1 ≤ 70001 := by have := pRead_at rest; omega
  generalize pRead rest = p at hRd hat
  obtain ⟨y, at', e⟩ := p
  simp only at hat ⊢
  refine AC.lbody hT hm Tryz.func11 f11_nm f11_lc f11_res f11_nt ?_
  simp only [go_sem, Int.reduceEq, Int.reduceLE, Int.reduceLT, Int.reduceToNat]
  refine hC.pd ⟨.v, .v, trivial⟩ (cutD_bl _) ?_
  have h1 : decide ((100 : Int) ≤ ((0 : Nat) : Int)) = false := rfl
  cases ok with
  | false =>
    simp only [go_sem, Int.reduceEq, Int.reduceLE, Int.reduceLT, Int.reduceToNat, h1, Bool.not_false, Bool.true_or, if_true]
    exact finSelf ⟨rfl, [], by simp⟩
  | true =>
  simp only [go_sem, Int.reduceEq, Int.reduceLE, Int.reduceLT, Int.reduceToNat, h1, Bool.not_true, Bool.false_or]
  refine hN.pv ⟨.same (.sl (by simp)), trivial⟩ ?_
  cases hnb : nameB nm with
  | false =>
    simp only [go_sem, Int.reduceEq, Int.reduceLE, Int.reduceLT, Int.reduceToNat, Bool.not_false, Bool.true_or, if_true]
    exact finSelf ⟨rfl, [], by simp⟩
  | true =>
  have hM : esFind nm [] = none := rfl
  have hM2 : esFind nm (metL []) = none := rfl
  have hin : inB nm [] = false := rfl
  simp only [go_sem, Int.reduceEq, Int.reduceLE, Int.reduceLT, Int.reduceToNat, hM, hM2, hin, Option.getD_none, Option.isSome_none, Bool.not_true, Bool.false_or, if_false, Bool.false_eq_true]
  refine hRd.pd ⟨.v, trivial⟩ (wdD_bl _) ?_
  by_cases he : e = 2
  · subst he
    have z1 : (((2 : Nat) : Int) == 2) = true := rfl
    rw [if_pos rfl]
    have hw : IntKind.i64.wrap (IntKind.i64.wrap ((nm.size : Int) + 1) + at') = ((nm.size + 1 + at' : Nat) : Int) := by
      have hw1 : IntKind.i64.wrap ((nm.size : Int) + 1) = (nm.size : Int) + 1 := wrap_int _ (by omega) (by omega)
      rw [hw1, wrap_int _ (by omega) (by omega)]; omega
    simp only [go_sem, Int.reduceEq, Int.reduceLE, Int.reduceLT, Int.reduceToNat, z1, Re.put0, hw]
    exact finSelf ⟨rfl, [.var 52 y.c], by simp⟩
  have z1 : (((e : Nat) : Int) == 2) = false := beq_eq_false_iff_ne.2 (by omega)
  rw [if_neg he]
  simp only [go_sem, Int.reduceEq, Int.reduceLE, Int.reduceLT, Int.reduceToNat, z1, Re.put0, hM, List.length_map]
  exact finSelf ⟨rfl, [Ob.var 52 y.c, rlOb [(nm, y)]], 1, rfl, rfl, by simp [rlD]⟩
end Go.Proofs.YtdliolbjngcgcaaGreatDoor.W
set_option maxRecDepth 100000
/- The lines of a text; a round of reading rules. -/
namespace Go.Proofs.YtdliolbjngcgcaaGreatDoor.W
open Go Go.Proofs Go.Proofs.YtdliolbjngcgcaaGreatDoor.AWP
attribute [local irreducible] xl hide aop aops aopQ qops guardP condP
abbrev LN1 : Nat := 24
theorem lines (s : ByteArray) (om : List Ob) : AC Tryz.prog 9 [.s s] om (fun o om' => o = .ret (.fn LN1 [.ref om.length 0]) ∧ om' = om ++ [.var 9 [.s s]]) := by
  refine AC.lbody hT hm Tryz.func9 f9_nm f9_lc f9_res f9_nt ?_
  simp only [go_sem, Int.reduceEq, Int.reduceLE, Int.reduceLT, Int.reduceToNat]
  exact finSelf ⟨rfl, rfl⟩
/-- The slots where the loop begins. -/
abbrev lpE (s : ByteArray) : List D :=
  [.s s, .pel [.s s], .ref 0 0, .ref 1 0, .ref 2 0, .ref 5 0, .ref 6 0, .any, .any, .any, .any, .any, .s s, .i s.size, .b false,
    .own 3, .agg [.v (.slice none 0 0), .own 3], .ref 4 0, .s s, .fn LN1 [.ref 7 0]] ++ List.replicate 44 .any
abbrev resO (p e : Int) : List Ob := [.var 23 [.v (.slice none 0 0)], .var 3 [.i p], .var 24 [.v (.int .i64 e)]]
abbrev lpO (ca cb : Code) (s : ByteArray) (st : LoopState) (pe : Option Code) : Ob := .lp #[20] ca cb st pe (lpE s)
/-- What the reader holds: no rules yet, or some. -/
def rdrO (l : List Rl) (sd : D) (R : List Ob) : Prop := (l = [] ∧ sd = .v (.slice none 0 0) ∧ R = []) ∨ ∃ n, R[n]? = some (rlOb l) ∧ R.length = n + 1 ∧ sd = .own (n + 9)
theorem lineU (a0 a1 a2 a5 a6 a7 a8 : Ob) (l : List Rl) (hl : l.length ≤ 100) (s : ByteArray) (hs : s.size ≤ 70000) (sd : D) (R : List Ob) (h : rdrO l sd R) :
    AC Tryz.prog 11 [.ref 4 0, .s s] ([a0, a1, a2, .mp (metL l), .var 36 [sd, .own 3], a5, a6, a7, a8] ++ R)
      (fun o om' => o = .ret (.tup [.i (lineR l s).1, .i (lineR l s).2.1]) ∧
        match (lineR l s).2.2 with
        | none => ∃ M, om' = [a0, a1, a2, .mp (metL l), .var 36 [sd, .own 3], a5, a6, a7, a8] ++ M
        | some x => ∃ R' sd', rdrO (l ++ [x]) sd' R' ∧ om' = [a0, a1, a2, .mp (metL (l ++ [x])), .var 36 [sd', .own 3], a5, a6, a7, a8] ++ R') := by
  rcases h with ⟨rfl, rfl, rfl⟩ | ⟨n, hRn, hRl, rfl⟩
  · refine (lineN a0 a1 a2 a5 a6 a7 a8 s hs).mono ?_
    rintro o om' ⟨rfl, h⟩
    refine ⟨rfl, ?_⟩
    split
    · rename_i e; rw [e] at h; exact h
    · rename_i x e
      rw [e] at h
      obtain ⟨R', n', h1, h2, h3⟩ := h
      exact ⟨R', _, .inr ⟨n', h1, h2, rfl⟩, h3⟩
  · refine (lineS a0 a1 a2 a5 a6 a7 a8 l hl s hs R n hRn hRl).mono ?_
    rintro o om' ⟨rfl, h⟩
    refine ⟨rfl, ?_⟩
    split
    · rename_i e
      rw [e] at h
      obtain ⟨Y, h⟩ := h
      exact ⟨R ++ Y, by rw [h, List.append_assoc]⟩
    · rename_i x e
      rw [e] at h
      obtain ⟨R', n', h1, h2, h3⟩ := h
      exact ⟨R', _, .inr ⟨n', h1, h2, rfl⟩, h3⟩
theorem lineR_some {l : List Rl} {s : ByteArray} : (lineR l s).2.1 = 0 → ∃ x, (lineR l s).2.2 = some x := by
  unfold lineR
  split
  · intro h; cases h
  split
  · intro h; cases h
  split
  · intro h; cases h
  · exact fun _ => ⟨_, rfl⟩
theorem lineR_lt {l : List Rl} {s : ByteArray} {x : Rl} : (lineR l s).2.2 = some x → l.length < 100 := by
  unfold lineR
  split
  · intro h; cases h
  · intro _; omega
theorem lineR_at (l : List Rl) (s : ByteArray) : (lineR l s).1 ≤ s.size + 1 + s.size := by
  have h1 := cut_size 32 s
  have h2 := pRead_at (cutS 32 s).2.1
  unfold lineR
  split
  · exact Nat.zero_le _
  split
  · exact Nat.zero_le _
  split
  · show _ + 1 + _ ≤ _; omega
  · exact Nat.zero_le _
/-- A line is read: a place and an error, or what is read so far. -/
def rStep (tot : Nat) (l : List Rl) (a : Nat) (ln : ByteArray) : (Nat × Nat) ⊕ (List Rl × Nat) :=
  if (csuf 10 ln).2 = false then .inl (tot, 2)
  else if (lineR l (csuf 10 ln).1).2.1 ≠ 0 then .inl (a + (lineR l (csuf 10 ln).1).1, (lineR l (csuf 10 ln).1).2.1)
  else match (lineR l (csuf 10 ln).1).2.2 with
    | some x => .inr (l ++ [x], a + ln.size)
    | none => .inl (0, 0)
theorem csuf_size (c : UInt8) (s : ByteArray) : (csuf c s).1.size ≤ s.size := by
  unfold csuf
  split
  · exact ext_size _ _ _
  · exact Nat.le_refl _
/-- How the objects stand behind a line. -/
def rdQ (ca cb : Code) (s r : ByteArray) (q : (Nat × Nat) ⊕ (List Rl × Nat)) (om' : List Ob) : Prop :=
  match q with
  | .inl (p, e) => ∃ o3 o4 o5 o6 o7 M, om' = resO p e ++ [o3, o4, o5, o6, o7, lpO ca cb s .done (some .ret)] ++ M
  | .inr (l, a) => ∃ sd R, rdrO l sd R ∧ om' = resO 0 0 ++ [.mp (metL l), .var 36 [sd, .own 3], .var 33 [.ref 4 0], .var 3 [.i a], .var 9 [.s r], lpO ca cb s .ready none] ++ R
def isInr {α β : Type} : α ⊕ β → Bool
  | .inl _ => false
  | .inr _ => true
set_option maxHeartbeats 8000000 in
theorem roundU {ca cb : Code} (ha : lc ca = (f5_a14).st) (hb : lc cb = (f5_b14).st) (s : ByteArray) (hs : s.size ≤ 70000) (l : List Rl) (hl : l.length ≤ 100) (sd : D) (R : List Ob) (hR : rdrO l sd R)
    (a : Nat) (ha' : a ≤ 70000) (r ln : ByteArray) (hln : ln.size ≤ 70000) :
    AY Tryz.prog 8 [.s ln] (resO 0 0 ++ [.mp (metL l), .var 36 [sd, .own 3], .var 33 [.ref 4 0], .var 3 [.i a], .var 9 [.s r], lpO ca cb s .ready none] ++ R)
      (fun o om' => o = .ret (.b (isInr (rStep s.size l a ln))) ∧ rdQ ca cb s r (rStep s.size l a ln) om') := by
  have hC := csuf2 ln 10 (by omega)
  have hsz := csuf_size 10 ln
  unfold rStep
  generalize csuf 10 ln = c at hC hsz
  obtain ⟨b, ended⟩ := c
  simp only at hsz
  refine AY.walk hT hm ha hb rfl rfl rfl ?_
  simp only [go_sem, Int.reduceEq, Int.reduceLE, Int.reduceLT, Int.reduceToNat]
  refine hC.pd ⟨.v, .v, trivial⟩ (csufD_bl _) ?_
  cases ended with
  | false =>
    simp only [go_sem, Int.reduceEq, Int.reduceLE, Int.reduceLT, Int.reduceToNat]
    refine ⟨⟨?_, ?_⟩, ?_⟩ <;> exact finSelf ⟨rfl, _, _, _, _, _, R, rfl⟩
  | true =>
  simp only [go_sem, Int.reduceEq, Int.reduceLE, Int.reduceLT, Int.reduceToNat]
  refine ⟨_, lineU _ _ _ _ _ _ _ l hl b (by omega) sd R hR, ?_⟩
  rintro _ om' ⟨rfl, hom⟩
  have hS := @lineR_some l b
  have hA := lineR_at l b
  generalize lineR l b = q at hom hS hA ⊢
  obtain ⟨p, e, x⟩ := q
  simp only at hS hA hom
  by_cases he : e = 0
  case neg =>
    obtain ⟨o3, o4, M, rfl⟩ : ∃ o3 o4 M, om' = resO 0 0 ++ [o3, o4, .var 33 [.ref 4 0], .var 3 [.i a], .var 9 [.s r], .lp #[20] ca cb .busy none (lpE s)] ++ M := by
      cases x with
      | none => obtain ⟨M, h⟩ := hom; exact ⟨_, _, M, h⟩
      | some x => obtain ⟨R', sd', h1, h2⟩ := hom; exact ⟨_, _, R', h2⟩
    have z1 : (((e : Nat) : Int) != 0) = true := by simp; omega
    have hw : IntKind.i64.wrap ((a : Int) + (p : Int)) = ((a + p : Nat) : Int) := by rw [wrap_int _ (by omega) (by omega)]; omega
    rw [if_neg (by simp), if_pos he]
    simp only [go_sem, Int.reduceEq, Int.reduceLE, Int.reduceLT, Int.reduceToNat, z1, hw]
    clear hom hC hA hS
    repeat' apply And.intro
    all_goals exact finSelf ⟨rfl, _, _, _, _, _, M, rfl⟩
  subst he
  obtain ⟨x, rfl⟩ := hS rfl
  obtain ⟨R', sd', h1, rfl⟩ := hom
  rw [if_neg (by simp), if_neg (by simp)]
  have hw : IntKind.i64.wrap ((a : Int) + (ln.size : Int)) = ((a + ln.size : Nat) : Int) := by rw [wrap_int _ (by omega) (by omega)]; omega
  have z0 : ((((0 : Nat) : Int) != 0)) = false := rfl
  simp only [go_sem, Int.reduceEq, Int.reduceLE, Int.reduceLT, Int.reduceToNat, z0, hw]
  exact finSelf ⟨rfl, sd', R', h1, rfl⟩
/-- A text's first line, with its end; what is behind it. -/
def lineOf (s : ByteArray) : ByteArray × ByteArray :=
  if ixN 10 s.data.toList < s.size then (s.extract 0 (ixN 10 s.data.toList + 1), s.extract (ixN 10 s.data.toList + 1) s.size) else (s, ⟨#[]⟩)
theorem lineOf_size (s : ByteArray) (h : 0 < s.size) : (lineOf s).1.size + (lineOf s).2.size = s.size ∧ 0 < (lineOf s).1.size := by
  unfold lineOf
  split
  · simp only [ByteArray.size_extract]; omega
  · exact ⟨rfl, h⟩
/-- All lines. -/
def rGo (tot : Nat) : Nat → ByteArray → List Rl → Nat → (Nat × Nat) ⊕ (List Rl × Nat)
  | 0, _, l, a => .inr (l, a)
  | n + 1, s, l, a =>
    if s.size = 0 then .inr (l, a)
    else match rStep tot l a (lineOf s).1 with
      | .inl q => .inl q
      | .inr (l', a') => rGo tot n (lineOf s).2 l' a'
theorem rStep_inr {tot : Nat} {l : List Rl} {a : Nat} {ln : ByteArray} {l' : List Rl} {a' : Nat} (h : rStep tot l a ln = .inr (l', a')) : l.length < 100 ∧ l'.length = l.length + 1 ∧ a' = a + ln.size := by
  unfold rStep at h
  split at h
  · cases h
  split at h
  · cases h
  split at h
  · rename_i x hx
    cases h
    exact ⟨lineR_lt hx, by simp, rfl⟩
  · cases h
set_option maxHeartbeats 8000000 in
theorem lines1 {ca cb : Code} (ha : lc ca = (f5_a14).st) (hb : lc cb = (f5_b14).st) (s : ByteArray) (hs : s.size ≤ 70000) :
    AC Tryz.prog LN1 [.yld 8, .ref 7 0] (resO 0 0 ++ [.mp (metL []), .var 36 [.v (.slice none 0 0), .own 3], .var 33 [.ref 4 0], .var 3 [.i 0], .var 9 [.s s], lpO ca cb s .ready none])
      (fun o om' => o = .ret (.tup []) ∧ ∃ r, rdQ ca cb s r (rGo s.size s.size s [] 0) om') := by
  refine AC.lbody hT hm Tryz.func24 f24_nm f24_lc f24_res f24_nt ?_
  simp only [go_sem, Int.reduceEq, Int.reduceLE, Int.reduceLT, Int.reduceToNat]
  refine xl_loopM hT hm (fun i : ByteArray × List Rl × Nat × D × List Ob => ⟨f24_i7 (.yld 8) (.ref 7 0), resO 0 0 ++ [.mp (metL i.2.1), .var 36 [i.2.2.2.1, .own 3], .var 33 [.ref 4 0], .var 3 [.i i.2.2.1], .var 9 [.s i.1], lpO ca cb s .ready none] ++ i.2.2.2.2⟩)
    (fun i => rdrO i.2.1 i.2.2.2.1 i.2.2.2.2 ∧ i.2.1.length ≤ 100 ∧ i.2.2.1 + i.1.size = s.size ∧ ∃ n, i.1.size ≤ n ∧ rGo s.size s.size s [] 0 = rGo s.size n i.1 i.2.1 i.2.2.1) (fun i => i.1.size) (s, [], 0, .v (.slice none 0 0), [])
    ⟨.inl ⟨rfl, rfl, rfl⟩, by simp, by simp, s.size, Nat.le_refl _, rfl⟩ (Mv.keep (by simp [f24_i7])) ?_
  rintro ⟨r, l, a, sd, R⟩ ⟨h1, h2, h3, n, h4, h5⟩
  simp only at h1 h2 h3 h4 h5
  simp only [go_sem, Int.reduceEq, Int.reduceLE, Int.reduceLT, Int.reduceToNat]
  by_cases h0 : 0 < r.size
  case neg =>
    have h0' : ¬ (0 : Int) < r.size := by omega
    simp only [go_sem, Int.reduceEq, Int.reduceLE, Int.reduceLT, Int.reduceToNat, h0']
    refine finSelf ⟨rfl, r, ?_⟩
    rw [h5]
    have : rGo s.size n r l a = .inr (l, a) := by
      cases n with
      | zero => rfl
      | succ n => rw [rGo, if_pos (by omega)]
    rw [this]
    exact ⟨sd, R, h1, rfl⟩
  have h0' : (0 : Int) < r.size := by omega
  obtain ⟨hL1, hL2⟩ := lineOf_size r h0
  obtain ⟨m, rfl⟩ : ∃ m, n = m + 1 := ⟨n - 1, by omega⟩
  rw [rGo, if_neg (by omega)] at h5
  have hix := idx2 r 10
  simp only [go_sem, Int.reduceEq, Int.reduceLE, Int.reduceLT, Int.reduceToNat, h0']
  refine hix.pv ⟨.v, .v, trivial⟩ ?_
  have fin : ∀ o om', o = Out.ret (.b (isInr (rStep s.size l a (lineOf r).1))) ∧ rdQ ca cb s (lineOf r).2 (rStep s.size l a (lineOf r).1) om' →
      (isInr (rStep s.size l a (lineOf r).1) = true → ∃ i' : ByteArray × List Rl × Nat × D × List Ob, (rdrO i'.2.1 i'.2.2.2.1 i'.2.2.2.2 ∧ i'.2.1.length ≤ 100 ∧ i'.2.2.1 + i'.1.size = s.size ∧ ∃ n, i'.1.size ≤ n ∧ rGo s.size s.size s [] 0 = rGo s.size n i'.1 i'.2.1 i'.2.2.1) ∧ i'.1.size < r.size ∧
        om' = resO 0 0 ++ [.mp (metL i'.2.1), .var 36 [i'.2.2.2.1, .own 3], .var 33 [.ref 4 0], .var 3 [.i i'.2.2.1], .var 9 [.s i'.1], lpO ca cb s .ready none] ++ i'.2.2.2.2) ∧
      (isInr (rStep s.size l a (lineOf r).1) = false → ∃ r, rdQ ca cb s r (rGo s.size s.size s [] 0) om') := by
    rintro o om' ⟨_, hq⟩
    cases hst : rStep s.size l a (lineOf r).1 with
    | inl q =>
      rw [hst] at hq h5
      refine ⟨fun h => (by cases h), fun _ => ⟨(lineOf r).2, ?_⟩⟩
      rw [h5]
      exact hq
    | inr q =>
      obtain ⟨l', a'⟩ := q
      rw [hst] at hq h5
      refine ⟨fun _ => ?_, fun h => (by cases h)⟩
      obtain ⟨sd', R', q1, q2⟩ := hq
      have hr := rStep_inr hst
      exact ⟨((lineOf r).2, l', a', sd', R'), ⟨q1, show l'.length ≤ 100 by omega, show a' + (lineOf r).2.size = s.size by omega, m, show (lineOf r).2.size ≤ m by omega, h5⟩, show (lineOf r).2.size < r.size by omega, q2⟩
  by_cases hx : ixN 10 r.data.toList < r.size
  · have e1 : ixS 10 r = (ixN 10 r.data.toList : Int) := by unfold ixS; rw [if_pos hx]
    have e2 : lineOf r = (r.extract 0 (ixN 10 r.data.toList + 1), r.extract (ixN 10 r.data.toList + 1) r.size) := by unfold lineOf; rw [if_pos hx]
    rw [e1]
    have hR := roundU ha hb s hs l h2 sd R h1 a (by omega) (lineOf r).2 (lineOf r).1 (by omega)
    generalize rStep s.size l a (lineOf r).1 = st at fin hR
    rw [e2] at hR
    generalize ixN 10 r.data.toList = k at hR hx e2
    have hw := wrap_succ k (by omega)
    have hg : (0 : Int) ≤ k := by omega
    have hk1 : k + 1 ≤ r.size := hx
    simp only [go_sem, Int.reduceEq, Int.reduceLE, Int.reduceLT, Int.reduceToNat, hg, hw, hk1, Nat.zero_le, Nat.le_refl]
    refine ⟨_, hR, ?_⟩
    rintro o om' ⟨rfl, hq⟩
    have fin := fin _ om' ⟨rfl, by rw [e2]; exact hq⟩
    cases hi : isInr st with
    | true =>
      obtain ⟨i', p1, p2, rfl⟩ := fin.1 hi
      simp only [go_sem, Int.reduceEq, Int.reduceLE, Int.reduceLT, Int.reduceToNat]
      exact ⟨i', p1, p2, Mv.keep (by simp)⟩
    | false =>
      simp only [go_sem, Int.reduceEq, Int.reduceLE, Int.reduceLT, Int.reduceToNat]
      exact finSelf ⟨rfl, fin.2 hi⟩
  · have e1 : ixS 10 r = -1 := by unfold ixS; rw [if_neg hx]
    have e2 : lineOf r = (r, ⟨#[]⟩) := by unfold lineOf; rw [if_neg hx]
    rw [e1]
    have hR := roundU ha hb s hs l h2 sd R h1 a (by omega) (lineOf r).2 (lineOf r).1 (by omega)
    generalize rStep s.size l a (lineOf r).1 = st at fin hR
    rw [e2] at hR
    simp only [go_sem, Int.reduceEq, Int.reduceLE, Int.reduceLT, Int.reduceToNat]
    refine ⟨_, hR, ?_⟩
    rintro o om' ⟨rfl, hq⟩
    have fin := fin _ om' ⟨rfl, by rw [e2]; exact hq⟩
    cases hi : isInr st with
    | true =>
      obtain ⟨i', p1, p2, rfl⟩ := fin.1 hi
      simp only [go_sem, Int.reduceEq, Int.reduceLE, Int.reduceLT, Int.reduceToNat]
      exact ⟨i', p1, p2, Mv.keep (by simp)⟩
    | false =>
      simp only [go_sem, Int.reduceEq, Int.reduceLE, Int.reduceLT, Int.reduceToNat]
      exact finSelf ⟨rfl, fin.2 hi⟩
end Go.Proofs.YtdliolbjngcgcaaGreatDoor.W
set_option maxRecDepth 100000
/- Rules are read from a text. -/
namespace Go.Proofs.YtdliolbjngcgcaaGreatDoor.W
open Go Go.Proofs Go.Proofs.YtdliolbjngcgcaaGreatDoor.AWP
attribute [local irreducible] xl hide aop aops aopQ qops guardP condP
theorem lineR_may {l : List Rl} {s : ByteArray} {x : Rl} (h : (lineR l s).2.2 = some x) (h0 : (lineR l s).2.1 = 0) : mayB x.2 = true := by
  revert h h0
  unfold lineR
  split
  · intro h; cases h
  split
  · intro h; cases h
  split
  · intro h; cases h
  · intro h h0
    cases h
    exact (pRead_ok h0).2.1
theorem rStep_may {tot : Nat} {l : List Rl} {a : Nat} {ln : ByteArray} {l' : List Rl} {a' : Nat} (h : rStep tot l a ln = .inr (l', a')) (hl : ∀ x ∈ l, mayB x.2 = true) : ∀ x ∈ l', mayB x.2 = true := by
  unfold rStep at h
  split at h
  · cases h
  split at h
  · cases h
  rename_i h0
  split at h
  · rename_i x hx
    cases h
    intro y hy
    rcases List.mem_append.1 hy with hy | hy
    · exact hl y hy
    · rw [List.mem_singleton.1 hy]
      exact lineR_may hx (by simpa using h0)
  · cases h
theorem rGo_may {tot : Nat} : ∀ {n : Nat} {s : ByteArray} {l : List Rl} {a : Nat} {l' : List Rl} {a' : Nat}, rGo tot n s l a = .inr (l', a') → l.length ≤ 100 → (∀ x ∈ l, mayB x.2 = true) → l'.length ≤ 100 ∧ ∀ x ∈ l', mayB x.2 = true
  | 0, s, l, a, l', a', h, hn, hl => by
    rw [rGo] at h; cases h; exact ⟨hn, hl⟩
  | n + 1, s, l, a, l', a', h, hn, hl => by
    rw [rGo] at h
    split at h
    · cases h; exact ⟨hn, hl⟩
    · split at h
      · cases h
      · rename_i l1 a1 hst
        have hr := rStep_inr hst
        exact rGo_may h (by omega) (rStep_may hst hl)
def readQ : (Nat × Nat) ⊕ (List Rl × Nat) → List Rl × Nat × Nat
  | .inl (p, e) => ([], p, e)
  | .inr (l, _) => if l = [] then ([], 0, 2) else if fewB l = false then ([], 0, 4) else (l, 0, 0)
/-- The rules of a text; a place; an error's number. -/
def readR (s : ByteArray) : List Rl × Nat × Nat := if 65536 < s.size then ([], 0, 3) else readQ (rGo s.size s.size s [] 0)
abbrev readD (x : List Rl × Nat × Nat) : D := .tup [Rls x.1, .i x.2.1, .i x.2.2]
theorem readD_bl (x : List Rl × Nat × Nat) : Bl 0 (readD x) := .tup (by simpa using Rls_bl x.1)
set_option maxHeartbeats 8000000 in
theorem ruleRead (s : ByteArray) : AP Tryz.prog 5 [.s s] (readD (readR s)) := by
  unfold readR
  refine AC.lbody hT hm Tryz.func5 f5_nm f5_lc f5_res f5_nt ?_
  simp only [go_sem, Int.reduceEq, Int.reduceLE, Int.reduceLT, Int.reduceToNat]
  by_cases h : 65536 < s.size
  · have h' : (65536 : Int) < s.size := by omega
    rw [if_pos h]
    simp only [go_sem, Int.reduceEq, Int.reduceLE, Int.reduceLT, Int.reduceToNat, h']
    exact Fin.ret (.tupL ⟨.nil, .v, .v, trivial⟩)
  have h' : ¬ (65536 : Int) < s.size := by omega
  rw [if_neg h]
  simp only [go_sem, Int.reduceEq, Int.reduceLE, Int.reduceLT, Int.reduceToNat, h']
  refine ⟨_, lines s _, ?_⟩
  rintro _ _ ⟨rfl, rfl⟩
  simp only [go_sem, Int.reduceEq, Int.reduceLE, Int.reduceLT, Int.reduceToNat, W_rfun]
  intro ca cb ha hb
  refine ⟨_, lines1 ha hb s (by omega), ?_⟩
  rintro _ om' ⟨rfl, r, hq⟩
  clear ha hb
  have hmay := @rGo_may s.size s.size s [] 0
  generalize rGo s.size s.size s [] 0 = q at hq hmay ⊢
  cases q with
  | inl q =>
    obtain ⟨p, e⟩ := q
    rw [show readQ (.inl (p, e)) = ([], p, e) from rfl]
    obtain ⟨o3, o4, o5, o6, o7, M, rfl⟩ := hq
    simp only [go_sem, Int.reduceEq, Int.reduceLE, Int.reduceLT, Int.reduceToNat]
    refine ⟨by simp, ?_⟩
    exact Fin.ret (.tupL ⟨.nil, .v, .v, trivial⟩)
  | inr q =>
    obtain ⟨l, a⟩ := q
    obtain ⟨sd, R, hr, rfl⟩ := hq
    obtain ⟨hl1, hl2⟩ := hmay rfl (by simp) (by simp)
    rw [show readQ (.inr (l, a)) = if l = [] then ([], 0, 2) else if fewB l = false then ([], 0, 4) else (l, 0, 0) from rfl]
    rcases hr with ⟨rfl, rfl, rfl⟩ | ⟨n, hn, hRl, rfl⟩
    · have z : (((0 : Nat) : Int) == 0) = true := rfl
      rw [if_pos rfl]
      simp only [go_sem, Int.reduceEq, Int.reduceLE, Int.reduceLT, Int.reduceToNat, z]
      refine ⟨by simp, ?_⟩
      exact Fin.ret (.tupL ⟨.nil, .v, .v, trivial⟩)
    have hF := few l (by omega) fun x hx => by have := (mayZ (hl2 x hx)).2; omega
    by_cases hl0 : l = []
    · subst hl0
      have z : (((0 : Nat) : Int) == 0) = true := rfl
      rw [if_pos rfl]
      simp only [go_sem, Int.reduceEq, Int.reduceLE, Int.reduceLT, Int.reduceToNat, hn, List.length_map, List.length_nil, z]
      refine ⟨by simp, ?_⟩
      exact Fin.ret (.tupL ⟨.nil, .v, .v, trivial⟩)
    have z : (((l.length : Nat) : Int) == 0) = false := by
      rw [beq_eq_false_iff_ne]
      have := List.length_pos_iff.2 hl0
      omega
    rw [if_neg hl0]
    simp only [go_sem, Int.reduceEq, Int.reduceLE, Int.reduceLT, Int.reduceToNat, hn, List.length_map, z]
    refine ⟨by simp, ?_⟩
    refine hF.pv ⟨.frzS (by simp; exact hn) rfl (rlR_bl l), trivial⟩ ?_
    cases hf : fewB l with
    | false =>
      rw [if_pos rfl]
      simp only [go_sem, Int.reduceEq, Int.reduceLE, Int.reduceLT, Int.reduceToNat]
      exact Fin.ret (.tupL ⟨.nil, .v, .v, trivial⟩)
    | true =>
      rw [if_neg (by simp)]
      simp only [go_sem, Int.reduceEq, Int.reduceLE, Int.reduceLT, Int.reduceToNat, hn]
      exact Fin.ret (.tupL ⟨.frzS (by simp; exact hn) rfl (rlR_bl l), .v, .v, trivial⟩)
end Go.Proofs.YtdliolbjngcgcaaGreatDoor.W
set_option maxRecDepth 100000
/- A strings.Builder at the head of more cells, with other objects around. -/
namespace Go.Proofs.YtdliolbjngcgcaaGreatDoor.W
open Go Go.Proofs Go.Proofs.YtdliolbjngcgcaaGreatDoor.AWP
attribute [local irreducible] xl hide aop aops aopQ qops guardP condP
/-- A type of n cells that begins as a Builder does. -/
def BldN (T n : Nat) : Prop := liesAt Tryz.prog Tryz.prog.depth T (n / Tryz.prog.cellsOf T) 0 63 1 = true
theorem bldN : BldN 63 2 := by unfold BldN; kernel_rfl
theorem bldFreshN {T n : Nat} (lies : BldN T n) (hn : 0 < n) (b : Nat) (w : World) (h0 : w.cell? ⟨b, 0, none⟩ = some (.pointer none)) (hsh : w.shape? b = some (T, n)) (hfz : w.frozen? ⟨b, 0, none⟩ = false) :
    Calls Tryz.prog 35 #[.pointer (some ⟨b, 0, none⟩)] w fun e w' => e = .returned (.tuple #[]) ∧ w' = w.setCell ⟨b, 0, none⟩ (.pointer (some ⟨b, 0, none⟩)) := by
  have t1 : Tryz.prog.underlying 60 = some (.pointer 63) := by kernel_rfl
  have t2 : Tryz.prog.underlying 100 = some .unsafePointer := by kernel_rfl
  obtain ⟨j, hj, hjs⟩ : ∃ j, Tryz.prog.info? 63 = some j ∧ j.size = 2 := Option.map_eq_some_iff.1 (by kernel_rfl : (Tryz.prog.info? 63).map (·.size) = some 2)
  go_enter Tryz.func35, Tryz.ntmps35
  go_wp2
  rw [Lib.run_to_unsafe w ⟨b, 0, none⟩ t1 t2 hj (by rw [hjs]; decide) hsh hn]
  simp only [Result.andThen]
  rw [Oper.upon_value]
  go_wp2
  rw [run_callFunc_extern Tryz.func50 (by kernel_rfl) (by kernel_rfl) (by kernel_rfl) (e := Extern.AbiNoEscape.same) (by kernel_rfl)]
  rw [Lib.run_noEscape]
  simp only [Result.andThen]
  rw [Oper.upon_value]
  go_wp2
  rw [Lib.run_from_unsafe w ⟨b, 0, none⟩ t2 t1 hj hsh lies]
  simp only [Result.andThen]
  rw [Oper.upon_value]
  go_wp2
  go_end0
  exact ⟨rfl, rfl⟩
theorem bldStringN {T : Nat} (b g cap : Nat) (cb : Array Value) (l : List UInt8) (cs : Array Value) (w : World) (hb : w.heap[b]? = some (.cells cb T (0, 0))) (hb1 : cb[1]? = some (.slice (some ⟨g, 0, none⟩) l.length cap)) (h0 : l ≠ [])
    (hg : w.heap[g]? = some (.cells cs 5 (0, 0))) (hcs : l.length ≤ cs.size) (hcap : l.length ≤ cap) (hcm : cap ≤ maxLen) (hc : ∀ (j : Nat) (x : UInt8), l[j]? = some x → cs[j]? = some (.int .u8 x.toNat)) :
    Calls Tryz.prog 23 #[.pointer (some ⟨b, 0, none⟩)] w fun e w' => e = .returned (.string ⟨l.toArray⟩) ∧ w' = w.drew.freeze ⟨g, 0, none⟩ l.length := by
  have hl0 : l.length ≠ 0 := by simpa using h0
  have c1 : w.drew.cell? ⟨b, 1, none⟩ = some (.slice (some ⟨g, 0, none⟩) l.length cap) := by
    have : w.drew.heap[b]? = some (.cells cb T (0, 0)) := hb
    rw [Lib.cell_of_heap this]; exact hb1
  have tp : Tryz.prog.underlying 88 = some (.pointer 5) := by kernel_rfl
  have tc : Tryz.prog.cellsOf 5 = 1 := by kernel_rfl
  have hSD : (Builtin.unsafeSliceData_ #[61] 88 #[.slice (some ⟨g, 0, none⟩) l.length cap]).run Tryz.prog w.drew = .ok (.pointer (some ⟨g, 0, none⟩)) w.drew :=
    Lib.run_unsafeSliceData_row _ _ _ _ _ _ (by omega)
  have hg' : w.drew.heap[g]? = some (.cells cs 5 (0, 0)) := hg
  have hUS : (Builtin.unsafeString_ #[88, 3] 9 #[.pointer (some ⟨g, 0, none⟩), .int .i64 l.length]).run Tryz.prog w.drew = .ok (.string ⟨l.toArray⟩) (w.drew.freeze ⟨g, 0, none⟩ l.length) := by
    refine Lib.run_unsafeString_row w.drew 88 3 9 5 tp tc g cs.size (by simp [World.shape?, hg']) l h0 hcs (by unfold maxLen at hcm; omega) ?_
    intro j x hx
    have e : (⟨g, 0, none⟩ : Addr).add j = ⟨g, j, none⟩ := by simp [Addr.add]; omega
    rw [e, Lib.cell_of_heap hg']
    exact hc j x hx
  have u1 := run_underlying (P := Tryz.prog) (t := 60) (d := .pointer 63) (by kernel_rfl)
  have mixed := hm
  go_enter Tryz.func23, Tryz.ntmps23
  go_wp2
  go_region_o
  all_goals (go_wp2; go_ret; exact ⟨rfl, rfl⟩)
theorem ccFreshN {T : Nat} (x : List D) (hT : BldN T (x.length + 1)) (fr : List Ob) : AC Tryz.prog 35 [.ref 0 0] (.var T (.v (.pointer none) :: x) :: fr) (fun o om' => o = .ret (.tup []) ∧ om' = .var T (.ref 0 0 :: x) :: fr) := by
  refine ⟨rfl, fun E vs hR hA => ?_⟩
  obtain ⟨y, rfl, hy⟩ := one_arg hA
  obtain ⟨b, cs, rfl, hg, hbk, hcs, hc⟩ := ref_block hR (k := 0) rfl hy
  obtain ⟨y0, e0, _, r0⟩ := hc 0 _ rfl
  rw [r0.v_inv] at e0
  have hs := setCell_ok hR (k := 0) (p := 0) (o := .var T (.v (.pointer none) :: x)) (o' := .var T (.ref 0 0 :: x)) rfl rfl hg (by simp [obSet]) (by rfl) hy
  refine (bldFreshN hT (by omega) b E.w (by rw [Lib.cell_of_heap hbk]; exact e0) (by simp [World.shape?, hbk]; simpa using hcs) (Lib.frozen_of_heap hbk 0)).mono ?_
  rintro e w' ⟨rfl, rfl⟩
  exact ⟨_, _, _, ⟨rfl, rfl⟩, rfl, hs.2.2.1, hs.2.2.2.1, .tup #[] rfl (fun j d hj => by simp at hj)⟩
theorem ccUsedN {T : Nat} (x : List D) (fr : List Ob) : AC Tryz.prog 35 [.ref 0 0] (.var T (.ref 0 0 :: x) :: fr) (fun o om' => o = .ret (.tup []) ∧ om' = .var T (.ref 0 0 :: x) :: fr) := by
  refine ⟨rfl, fun E vs hR hA => ?_⟩
  obtain ⟨y, rfl, hy⟩ := one_arg hA
  obtain ⟨b, cs, rfl, hg, hbk, hcs, hc⟩ := ref_block hR (k := 0) rfl hy
  obtain ⟨y0, e0, _, r0⟩ := hc 0 _ rfl
  obtain ⟨b', _, rfl, hg', _⟩ := ref_block hR (k := 0) rfl r0
  have : b' = b := by rw [hg] at hg'; injection hg' with h; exact h.symm
  subst this
  refine (bldUsed b' E.w (by rw [Lib.cell_of_heap hbk]; exact e0)).mono ?_
  rintro e w' ⟨rfl, rfl⟩
  exact ⟨E, _, _, ⟨rfl, rfl⟩, rfl, Ext.refl _ _, hR, .tup #[] rfl (fun j d hj => by simp at hj)⟩
/-- A builder (the first object, with more cells x) that holds l, and the objects behind it. -/
def bS (T : Nat) (x : List D) (l : List UInt8) (R om : List Ob) : Prop :=
  (l = [] ∧ om = .var T (.v (.pointer none) :: .v (.slice none 0 0) :: x) :: R) ∨ ∃ j, R[j]? = some (byOb l) ∧ om = .var T (.ref 0 0 :: .own (j + 1) :: x) :: R
/-- What it holds when something is written: the objects behind it stay, but for its row. -/
def bW (T : Nat) (x : List D) (d : D) (l : List UInt8) (R : List Ob) : Out → List Ob → Prop := fun o om' =>
  o = .ret d ∧ ∃ R1, R1.length = R.length ∧ (∀ (i : Nat) (v : Ob), R[i]? = some v → (∃ l, v = byOb l) ∨ R1[i]? = some v) ∧ om' = .var T (.ref 0 0 :: .own (R1.length + 1) :: x) :: (R1 ++ [byOb l])
theorem bW.bS {T : Nat} {x : List D} {d : D} {l : List UInt8} {R : List Ob} {o : Out} {om' : List Ob} (h : bW T x d l R o om') : o = .ret d ∧ ∃ R', bS T x l R' om' := by
  obtain ⟨rfl, R1, h1, h2, rfl⟩ := h
  exact ⟨rfl, R1 ++ [byOb l], .inr ⟨R1.length, by simp, rfl⟩⟩
theorem set_keep {R : List Ob} {j : Nat} {l : List UInt8} (h : R[j]? = some (byOb l)) : (R.set j .dead).length = R.length ∧ ∀ (i : Nat) (v : Ob), R[i]? = some v → (∃ l, v = byOb l) ∨ (R.set j .dead)[i]? = some v := by
  refine ⟨by simp, fun i v hv => ?_⟩
  by_cases e : i = j
  · subst e; rw [h] at hv; cases hv; exact .inl ⟨_, rfl⟩
  · exact .inr (by rw [List.getElem?_set_ne (fun h => e h.symm)]; exact hv)
set_option maxHeartbeats 1000000 in
theorem wrStrG {T : Nat} (x : List D) (hT' : BldN T (x.length + 2)) (l m : List UInt8) (R om : List Ob) (h : bS T x l R om) (hl : l.length ≤ 1000000000) (hml : m.length ≤ 1000000000) :
    AC Tryz.prog 20 [.ref 0 0, .s ⟨m.toArray⟩] om (bW T x (.tup [.i m.length, .v .nilIface]) (l ++ m) R) := by
  have hsz : (⟨m.toArray⟩ : ByteArray).size = m.length := ba_size m
  have hrw := strRows_of m
  generalize hs : (⟨m.toArray⟩ : ByteArray) = s at hsz hrw
  rcases h with ⟨rfl, rfl⟩ | ⟨j, hj, rfl⟩
  · refine AC.lbody hT hm Tryz.func20 f20_nm f20_lc f20_res f20_nt ?_
    simp only [go_sem, Int.reduceEq, Int.reduceLE, Int.reduceLT, Int.reduceToNat]
    refine ⟨_, ccFreshN _ hT' R, ?_⟩
    rintro _ _ ⟨rfl, rfl⟩
    simp only [go_sem, Int.reduceEq, Int.reduceLE, Int.reduceLT, Int.reduceToNat, hsz, hrw, show 1 < x.length + 1 + 1 by omega]
    refine ⟨by omega, ?_⟩
    refine finSelf ?_
    exact ⟨rfl, R, rfl, fun i v h => .inr h, rfl⟩
  · obtain ⟨k1, k2⟩ := set_keep hj
    refine AC.lbody hT hm Tryz.func20 f20_nm f20_lc f20_res f20_nt ?_
    simp only [go_sem, Int.reduceEq, Int.reduceLE, Int.reduceLT, Int.reduceToNat]
    refine ⟨_, ccUsedN _ R, ?_⟩
    rintro _ _ ⟨rfl, rfl⟩
    simp only [go_sem, Int.reduceEq, Int.reduceLE, Int.reduceLT, Int.reduceToNat, hj, hsz, hrw, show 1 < x.length + 1 + 1 by omega]
    refine ⟨by omega, ?_⟩
    refine finSelf ?_
    refine ⟨rfl, R.set j .dead, k1, k2, ?_⟩
    rw [k1]
    simp [byteRows]
theorem lenG {T : Nat} (x : List D) (l : List UInt8) (R om : List Ob) (h : bS T x l R om) : AC Tryz.prog 22 [.ref 0 0] om (retP (.i l.length) om) := by
  rcases h with ⟨rfl, rfl⟩ | ⟨j, hj, rfl⟩
  · refine AC.lbody hT hm Tryz.func22 f22_nm f22_lc f22_res f22_nt ?_
    simp only [go_sem, Int.reduceEq, Int.reduceLE, Int.reduceLT, Int.reduceToNat]
    exact finSelf ⟨rfl, rfl⟩
  · refine AC.lbody hT hm Tryz.func22 f22_nm f22_lc f22_res f22_nt ?_
    simp only [go_sem, Int.reduceEq, Int.reduceLE, Int.reduceLT, Int.reduceToNat, hj]
    exact finSelf ⟨rfl, rfl⟩
set_option maxHeartbeats 1000000 in
theorem strOfG {T : Nat} (x : List D) (l : List UInt8) (R om : List Ob) (h : bS T x l R om) (h0 : l ≠ []) : AC Tryz.prog 23 [.ref 0 0] om (fun o om' => o = .ret (.s ⟨l.toArray⟩)) := by
  rcases h with ⟨rfl, _⟩ | ⟨n, hj, rfl⟩
  · exact absurd rfl h0
  refine ⟨rfl, fun E vs hR hA => ?_⟩
  obtain ⟨y, rfl, hy⟩ := one_arg hA
  have hk1 : (Ob.var T (.ref 0 0 :: .own (n + 1) :: x) :: R)[n + 1]? = some (byOb l) := by simpa using hj
  obtain ⟨b, cs, rfl, hg, hbk, hcs, hc⟩ := ref_block hR (k := 0) (T := T) (c := .ref 0 0 :: .own (n + 1) :: x) rfl hy
  obtain ⟨y1, e1, _, r1⟩ := hc 1 _ rfl
  obtain ⟨_, hall, hh⟩ := hR.ob (n + 1) _ hk1
  rcases hh with ⟨_, hnil⟩ | ⟨g, cs2, cap, q1, q2, q3, q4, q5, q6, q7⟩
  · exact absurd (by simpa [byteRows] using hnil) h0
  have hlen : (byteRows l).length = l.length := byteRows_len l
  rw [hlen] at q1 q5
  have hy1 : y1 = .slice (some ⟨g, 0, none⟩) l.length cap := by
    cases r1 with
    | own hk => exact q1
  subst hy1
  refine (bldStringN b g cap cs l cs2 E.w hbk e1 h0 q2 (by omega) q5 q6 (fun j x hx => ?_)).mono ?_
  · have hf := byteRows_flat l
    obtain ⟨u, f1, _, f3⟩ := q7 j (.v (.int .u8 x.toNat)) (by rw [hf, List.getElem?_map, hx]; rfl)
    rw [f3.v_inv] at f1
    exact f1
  rintro e w' ⟨rfl, rfl⟩
  have hlt : g < E.w.heap.size := (Array.getElem?_eq_some_iff.1 q2).1
  have hl0 : l.length ≠ 0 := by simpa using h0
  have hw : E.w.freeze ⟨g, 0, none⟩ l.length = E.w.putObj g (.cells cs2 5 (0, l.length)) := by
    unfold World.freeze World.putObj
    rw [if_neg hl0]
    congr 1
    refine Array.ext_getElem? fun i => ?_
    rw [Array.getElem?_modify, Array.getElem?_setIfInBounds]
    by_cases hgi : g = i
    · subst hgi
      have q2' := (Array.getElem?_eq_some_iff.1 q2).2
      simp [hlt, q2']
    · simp [hgi]
  obtain ⟨hx, hR'⟩ := put_okG hR hk1 rfl (b := g) (by rw [q1]; rfl) (.cells cs2 5 (0, l.length)) .dead (fun _ => trivial)
  let E1 : Env := { E with w := { (E.w.putObj g (.cells cs2 5 (0, l.length))) with drawn := E.w.drawn + 1 } }
  have hx1 : Ext { E with w := E.w.putObj g (.cells cs2 5 (0, l.length)) } ((Ob.var T (.ref 0 0 :: .own (n + 1) :: x) :: R).set (n + 1) .dead) E1 ((Ob.var T (.ref 0 0 :: .own (n + 1) :: x) :: R).set (n + 1) .dead) :=
    ⟨Nat.le_refl _, fun _ _ => rfl, fun _ h => h, Nat.le_refl _, rfl, rfl, rfl, fun _ _ _ => rfl, fun b hl => .inl hl, fun b hA => .inl hA⟩
  have hR1 : Rel E1 ((Ob.var T (.ref 0 0 :: .own (n + 1) :: x) :: R).set (n + 1) .dead) := by
    refine ⟨hR'.len, fun k o hk => ?_, hR'.inj, hR'.old, hR'.one, fun g c h => (hR'.gt g c h).ext hR' hx1⟩
    exact ObR.keep hR' hx1 (by rw [← hR'.len]; exact (List.getElem?_eq_some_iff.1 hk).1) (hR'.ob k o hk) fun hl b hb => ⟨rfl, (hR'.live_lt ⟨k, o, hk, hl, hb⟩).2⟩
  refine ⟨E1, _, _, rfl, ?_, hx.trans hx1, hR1, .v _⟩
  show _ = E.w.drew.freeze ⟨g, 0, none⟩ l.length
  have : E.w.drew.freeze ⟨g, 0, none⟩ l.length = { (E.w.freeze ⟨g, 0, none⟩ l.length) with drawn := E.w.drawn + 1 } := by
    unfold World.freeze World.drew
    rw [if_neg hl0, if_neg hl0]
  rw [this, hw]
end Go.Proofs.YtdliolbjngcgcaaGreatDoor.W
set_option maxRecDepth 100000
/- May rules be; their text. -/
namespace Go.Proofs.YtdliolbjngcgcaaGreatDoor.W
open Go Go.Proofs Go.Proofs.YtdliolbjngcgcaaGreatDoor.AWP
attribute [local irreducible] xl hide aop aops aopQ qops guardP condP
/-- May one rule be behind others? -/
def okRl (seen : List Rl) (x : Rl) : Bool := !inB x.1 seen && (nameB x.1 && mayB x.2)
def mayGo : List Rl → List Rl → Bool
  | _, [] => true
  | seen, x :: l => okRl seen x && mayGo (seen ++ [x]) l
def mayRl (l : List Rl) : Bool := mayGo [] l && (decide (1 ≤ l.length) && (decide (l.length ≤ 100) && fewB l))
theorem take_get {α : Type} {l : List α} {i : Nat} {x : α} (h : l[i]? = some x) : l.take (i + 1) = l.take i ++ [x] := by
  rw [List.take_add_one, h]; rfl
theorem mayGo_at {l : List Rl} {i : Nat} {x : Rl} (h : l[i]? = some x) : mayGo (l.take i) (l.drop i) = (okRl (l.take i) x && mayGo (l.take (i + 1)) (l.drop (i + 1))) := by
  rw [drop_get h, take_get h]; rfl
set_option maxHeartbeats 4000000 in
theorem ruleMay (l : List Rl) (hl : l.length ≤ 1000) (hz : ∀ x ∈ l, x.1.size ≤ 1000000 ∧ x.2.sz ≤ 1048576) : AP Tryz.prog 19 [Rls l] (.b (mayRl l)) := by
  have hq : ∀ om (F : Nat → Bool) (ks : List (Option Nat)), Cv om F ks (Rls l) (Rls l) := fun om F ks => .same (Rls_bl l)
  have hF := few l hl fun x hx => (hz x hx).2
  unfold mayRl
  refine AC.lbody hT hm Tryz.func19 f19_nm f19_lc f19_res f19_nt ?_
  simp only [go_sem, Int.reduceEq, Int.reduceLE, Int.reduceLT, Int.reduceToNat, List.length_map]
  refine xl_loopM hT hm (fun i : Nat => ⟨f19_i9 (Rls l) (.own 0) (Rls l) (.i l.length) (.i i), [.mp (metL (l.take i))]⟩)
    (fun i => i ≤ l.length ∧ mayGo [] l = mayGo (l.take i) (l.drop i)) (fun i => l.length - i) 0 ⟨Nat.zero_le _, rfl⟩ ?_ ?_
  · exact Mv.of [some 0] rfl ⟨.mp rfl, trivial⟩ (by simp [f19_i9, hq])
  rintro i ⟨hi, hinv⟩
  simp only [go_sem, Int.reduceEq, Int.reduceLE, Int.reduceLT, Int.reduceToNat, List.length_map]
  by_cases h : i < l.length
  case neg =>
    have e : mayGo [] l = true := by rw [hinv, drop_end h]; rfl
    rw [e]
    by_cases h1 : (1 : Int) ≤ l.length
    case neg =>
      have d1 : decide (1 ≤ l.length) = false := decide_eq_false (by omega)
      rw [d1]
      simp only [go_sem, Int.reduceEq, Int.reduceLE, Int.reduceLT, Int.reduceToNat, h, h1, List.length_map]
      exact Fin.v rfl
    have d1 : decide (1 ≤ l.length) = true := decide_eq_true (by omega)
    rw [d1]
    by_cases h2 : (l.length : Int) ≤ 100
    case neg =>
      have d2 : decide (l.length ≤ 100) = false := decide_eq_false (by omega)
      rw [d2]
      simp only [go_sem, Int.reduceEq, Int.reduceLE, Int.reduceLT, Int.reduceToNat, h, h1, h2, List.length_map]
      exact Fin.v rfl
    have d2 : decide (l.length ≤ 100) = true := decide_eq_true (by omega)
    rw [d2]
    simp only [go_sem, Int.reduceEq, Int.reduceLE, Int.reduceLT, Int.reduceToNat, h, h1, h2, List.length_map]
    refine hF.pv ⟨hq _ _ _, trivial⟩ ?_
    simp only [go_sem, Int.reduceEq, Int.reduceLE, Int.reduceLT, Int.reduceToNat]
    cases fewB l <;> exact Fin.v rfl
  obtain ⟨x, hx⟩ := get_ex h
  have hg := rlR_get hx
  have hm := mayGo_at hx
  have hxz := hz x (List.mem_of_getElem? hx)
  have hM := met_find x.1 (l.take i)
  have hN := numNameS x.1 (by omega)
  have hY := may x.2 (by omega)
  have hlen := rlD_len x
  have hwi := wrap_succ i (by omega)
  unfold okRl at hm
  cases hin : inB x.1 (l.take i) with
  | true =>
    rw [hin, if_pos rfl] at hM
    rw [hin, Bool.not_true, Bool.false_and, Bool.false_and] at hm
    simp only [go_sem, Int.reduceEq, Int.reduceLE, Int.reduceLT, Int.reduceToNat, List.length_map, h, hg, rlD_0, hlen, rlD_take, rl_put, rlD_drop, hM, Option.getD_some, Option.isSome_some]
    refine Fin.v ?_
    rw [hinv, hm]; rfl
  | false =>
  rw [hin, if_neg (by simp)] at hM
  rw [hin, Bool.not_false, Bool.true_and] at hm
  simp only [go_sem, Int.reduceEq, Int.reduceLE, Int.reduceLT, Int.reduceToNat, List.length_map, h, hg, rlD_0, hlen, rlD_take, rl_put, rlD_drop, hM, Option.getD_none, Option.isSome_none]
  refine hN.pv ⟨.same (.sl (by simp)), trivial⟩ ?_
  cases hnb : nameB x.1 with
  | false =>
    rw [hnb, Bool.false_and, Bool.false_and] at hm
    simp only [go_sem, Int.reduceEq, Int.reduceLE, Int.reduceLT, Int.reduceToNat, Bool.not_false]
    refine Fin.v ?_
    rw [hinv, hm]; rfl
  | true =>
  rw [hnb, Bool.true_and] at hm
  simp only [go_sem, Int.reduceEq, Int.reduceLE, Int.reduceLT, Int.reduceToNat, Bool.not_true, rlD_drop]
  refine hY.pv ⟨.same (one_blR x.2), trivial⟩ ?_
  cases hmb : mayB x.2 with
  | false =>
    rw [hmb, Bool.false_and] at hm
    simp only [go_sem, Int.reduceEq, Int.reduceLE, Int.reduceLT, Int.reduceToNat, Bool.not_false]
    refine Fin.v ?_
    rw [hinv, hm]; rfl
  | true =>
  rw [hmb, Bool.true_and] at hm
  simp only [go_sem, Int.reduceEq, Int.reduceLE, Int.reduceLT, Int.reduceToNat, Bool.not_true, hM, rlD_0]
  refine ⟨i + 1, ⟨h, by rw [hinv, hm]⟩, by omega, ?_⟩
  rw [hwi, take_get hx, ← met_app]
  exact Mv.of [some 0] rfl ⟨.mp rfl, trivial⟩ (by simp [hq])
/-- A rule's line; rules' text. -/
def lnT (x : Rl) : List UInt8 := x.1.data.toList ++ 32 :: (x.2.txt ++ [10])
def prT : List Rl → List UInt8
  | [] => []
  | x :: l => lnT x ++ prT l
theorem prT_app : ∀ (a b : List Rl), prT (a ++ b) = prT a ++ prT b
  | [], b => rfl
  | x :: a, b => by rw [List.cons_append, prT, prT, prT_app a b, List.append_assoc]
theorem prT_at {l : List Rl} {i : Nat} {x : Rl} (h : l[i]? = some x) : prT (l.take (i + 1)) = prT (l.take i) ++ lnT x := by
  rw [take_get h, prT_app]; simp [prT]
theorem prT_len : ∀ (l : List Rl) (m : Nat), (∀ x ∈ l, (lnT x).length ≤ m) → (prT l).length ≤ l.length * m
  | [], m, _ => Nat.zero_le _
  | x :: l, m, h => by
    have h1 := h x (by simp)
    have h2 := prT_len l m fun y hy => h y (by simp [hy])
    rw [prT, List.length_append, List.length_cons, Nat.add_mul]
    omega
theorem mayGo_all : ∀ (s l : List Rl), mayGo s l = true → ∀ x ∈ l, nameB x.1 = true ∧ mayB x.2 = true
  | s, y :: l, h, x, hx => by
    rw [mayGo, Bool.and_eq_true] at h
    rcases List.mem_cons.1 hx with rfl | hx
    · have := h.1
      unfold okRl at this
      simp only [Bool.and_eq_true] at this
      exact this.2
    · exact mayGo_all _ l h.2 x hx
theorem mayRl_all {l : List Rl} (h : mayRl l = true) : (∀ x ∈ l, nameB x.1 = true ∧ mayB x.2 = true) ∧ 1 ≤ l.length ∧ l.length ≤ 100 ∧ fewB l = true := by
  unfold mayRl at h
  simp only [Bool.and_eq_true, decide_eq_true_eq] at h
  exact ⟨mayGo_all _ _ h.1, h.2.1, h.2.2.1, h.2.2.2⟩
theorem nameB_size {s : ByteArray} (h : nameB s = true) : 1 ≤ s.size ∧ s.size ≤ 30 := by
  unfold nameB at h
  simp only [Bool.and_eq_true, decide_eq_true_eq] at h
  exact h.2
theorem lnT_len {x : Rl} (hn : nameB x.1 = true) (hm : mayB x.2 = true) : (lnT x).length ≤ 1100000 := by
  have h1 := (nameB_size hn).2
  have h2 := mayZ hm
  have h3 := txt_le x.2 h2.1
  have h4 : x.1.data.toList.length = x.1.size := Array.length_toList
  unfold lnT
  simp only [List.length_append, List.length_cons, List.length_nil]
  omega
theorem lnT_ne (x : Rl) : lnT x ≠ [] := by unfold lnT; simp
theorem ln_eq (x : Rl) : x.1 ++ ⟨#[32]⟩ ++ ⟨x.2.txt.toArray⟩ ++ ⟨#[10]⟩ = (⟨(lnT x).toArray⟩ : ByteArray) := by
  refine ByteArray.ext ?_
  simp [ByteArray.data_append, lnT]
/-- Rules' text, or an error. -/
def prtR (l : List Rl) : List UInt8 × Int :=
  if mayRl l = false then ([], 1) else if 65536 < (prT l).length then ([], 3) else (prT l, 0)
abbrev prtD (x : List UInt8 × Int) : D := .tup [txD x.1, .i x.2]
set_option maxHeartbeats 4000000 in
theorem rulePrint (l : List Rl) (hl : l.length ≤ 1000) (hz : ∀ x ∈ l, x.1.size ≤ 1000000 ∧ x.2.sz ≤ 1048576 ∧ x.2.wd) : AP Tryz.prog 8 [Rls l] (prtD (prtR l)) := by
  have hq : ∀ om (F : Nat → Bool) (ks : List (Option Nat)), Cv om F ks (Rls l) (Rls l) := fun om F ks => .same (Rls_bl l)
  have hM := ruleMay l hl fun x hx => ⟨(hz x hx).1, (hz x hx).2.1⟩
  unfold prtR
  refine AC.lbody hT hm Tryz.func8 f8_nm f8_lc f8_res f8_nt ?_
  simp only [go_sem, Int.reduceEq, Int.reduceLE, Int.reduceLT, Int.reduceToNat]
  refine hM.pv ⟨hq _ _ _, trivial⟩ ?_
  cases hmay : mayRl l with
  | false =>
    rw [if_pos rfl]
    simp only [go_sem, Int.reduceEq, Int.reduceLE, Int.reduceLT, Int.reduceToNat, Bool.not_false]
    exact Fin.ret (.tupL (by simp))
  | true =>
  rw [if_neg (by simp)]
  obtain ⟨hA, hl1, hl2, _⟩ := mayRl_all hmay
  simp only [go_sem, Int.reduceEq, Int.reduceLE, Int.reduceLT, Int.reduceToNat, Bool.not_true, List.length_map]
  have hbd : ∀ i, (prT (l.take i)).length ≤ 110000000 := fun i => by
    have := prT_len (l.take i) 1100000 fun x hx => lnT_len (hA x (List.mem_of_mem_take hx)).1 (hA x (List.mem_of_mem_take hx)).2
    have h2 : (l.take i).length ≤ 100 := by rw [List.length_take]; omega
    have h3 : (l.take i).length * 1100000 ≤ 100 * 1100000 := Nat.mul_le_mul_right _ h2
    omega
  refine xl_loopM hT hm (fun i : Nat × List Ob × List Ob => ⟨f8_i9 (.ref 0 0) (Rls l) (.i l.length) (.i i.1), i.2.2⟩)
    (fun i => i.1 ≤ l.length ∧ bS 63 [] (prT (l.take i.1)) i.2.1 i.2.2) (fun i => l.length - i.1) (0, [], _) ⟨Nat.zero_le _, .inl ⟨rfl, rfl⟩⟩ (Mv.keep (by simp [f8_i9])) ?_
  rintro ⟨i, R, om⟩ ⟨hi, hB⟩
  simp only at hi hB
  simp only [go_sem, Int.reduceEq, Int.reduceLE, Int.reduceLT, Int.reduceToNat, List.length_map]
  by_cases h : i < l.length
  case neg =>
    have ht : l.take i = l := List.take_of_length_le (by omega)
    rw [ht] at hB
    simp only [go_sem, Int.reduceEq, Int.reduceLE, Int.reduceLT, Int.reduceToNat, h]
    refine ⟨_, lenG [] (prT l) R om hB, ?_⟩
    rintro _ _ ⟨rfl, rfl⟩
    by_cases hlen : 65536 < (prT l).length
    · rw [if_pos hlen]
      have hlen' : (65536 : Int) < ((prT l).length : Nat) := by omega
      simp only [go_sem, Int.reduceEq, Int.reduceLE, Int.reduceLT, Int.reduceToNat, hlen']
      exact Fin.ret (.tupL (by simp))
    · rw [if_neg hlen]
      have hlen' : ¬ (65536 : Int) < ((prT l).length : Nat) := by omega
      simp only [go_sem, Int.reduceEq, Int.reduceLE, Int.reduceLT, Int.reduceToNat, hlen']
      refine ⟨_, strOfG [] (prT l) R _ hB ?_, ?_⟩
      · obtain ⟨x, l', rfl⟩ : ∃ x l', l = x :: l' := by
          cases l with
          | nil => simp at hl1
          | cons x l' => exact ⟨x, l', rfl⟩
        rw [prT]
        exact fun h => lnT_ne x (List.append_eq_nil_iff.1 h).1
      rintro _ om' rfl
      simp only [go_sem, Int.reduceEq, Int.reduceLE, Int.reduceLT, Int.reduceToNat]
      exact Fin.ret (.tupL ⟨.v, .v, trivial⟩)
  obtain ⟨x, hx⟩ := get_ex h
  have hg := rlR_get hx
  have hAx := hA x (List.mem_of_getElem? hx)
  have hzx := hz x (List.mem_of_getElem? hx)
  have hS := showText x.2 hzx.2.1 hzx.2.2
  have hsT : shT x.2 = x.2.txt := by unfold shT; rw [hAx.2]; rfl
  rw [hsT] at hS
  have hlen := rlD_len x
  have hwi := wrap_succ i (by omega)
  have hlx := lnT_len hAx.1 hAx.2
  have hnz := nameB_size hAx.1
  have htz : x.2.txt.length ≤ 1100000 := by
    have h2 := mayZ hAx.2
    have h3 := txt_le x.2 h2.1
    omega
  have hs1 : x.1.size ≤ 9223372036854775806 := by omega
  have hs2 : x.1.size + 1 + x.2.txt.length ≤ 9223372036854775807 := by omega
  have hs3 : x.1.size + 1 + x.2.txt.length ≤ 9223372036854775806 := by omega
  have hbi := hbd i
  simp only [go_sem, Int.reduceEq, Int.reduceLE, Int.reduceLT, Int.reduceToNat, List.length_map, h, hg, hlen, rlD_take, get_con, set_con, rl_put, rlD_0, rlD_drop, hs1]
  refine hS.qv ⟨.same (Re.d_bl _), trivial⟩ ?_
  simp only [go_sem, Int.reduceEq, Int.reduceLE, Int.reduceLT, Int.reduceToNat, hs2, hs3, ln_eq]
  have hB' : bS 63 [] (prT (l.take i)) (R ++ [.var 56 (rlD x)]) (om ++ [.var 56 (rlD x)]) := by
    rcases hB with ⟨h1, rfl⟩ | ⟨j, h1, rfl⟩
    · exact .inl ⟨h1, rfl⟩
    · exact .inr ⟨j, by rw [List.getElem?_append_left (List.getElem?_eq_some_iff.1 h1).1]; exact h1, rfl⟩
  refine ⟨_, wrStrG [] bldN (prT (l.take i)) (lnT x) _ _ hB' (by omega) (by omega), ?_⟩
  intro o om' hw
  obtain ⟨rfl, R', hB2⟩ := hw.bS
  rw [← prT_at hx] at hB2
  simp only [go_sem, Int.reduceEq, Int.reduceLE, Int.reduceLT, Int.reduceToNat]
  refine ⟨(i + 1, R', om'), ⟨h, hB2⟩, by simp only; omega, ?_⟩
  dsimp only
  rw [hwi]
  exact Mv.keep (by simp)
end Go.Proofs.YtdliolbjngcgcaaGreatDoor.W
set_option maxRecDepth 100000
/- The document's example; names; how many rules at most. -/
namespace Go.Proofs.YtdliolbjngcgcaaGreatDoor.W
open Go Go.Proofs Go.Proofs.YtdliolbjngcgcaaGreatDoor.AWP
attribute [local irreducible] xl hide aop aops aopQ qops guardP condP
def s19 : ByteArray := ⟨#[105, 100, 32, 91, 97, 45, 122, 93, 91, 97, 45, 122, 93, 42, 10]⟩
def ruleQ (x : Rl) : Bool := decide (x.1.size ≤ 30) && (decide (x.2.sz ≤ 20) && wdQ x.2)
set_option maxHeartbeats 1000000 in
theorem awake19 : AP Tryz.prog 4 [] (.b true) := by
  have e1 : (readR s19).2 = (0, 0) := by decide +kernel
  have e2 : prtR (readR s19).1 = ([105, 100, 32, 91, 97, 45, 122, 93, 91, 97, 45, 122, 93, 42, 10], 0) := by decide +kernel
  have e3 : (readR s19).1.all ruleQ = true := by decide +kernel
  have e4 : (readR s19).1.length ≤ 1 := by decide +kernel
  have hR := ruleRead s19
  have hP := rulePrint (readR s19).1 (by omega) fun x hx => by
    have := List.all_eq_true.1 e3 x hx
    unfold ruleQ at this
    simp only [Bool.and_eq_true, decide_eq_true_eq] at this
    exact ⟨by omega, by omega, wdQ_ok _ this.2.2⟩
  rw [e2] at hP
  have hs : D.s ⟨#[105, 100, 32, 91, 97, 45, 122, 93, 91, 97, 45, 122, 93, 42, 10]⟩ = D.s s19 := rfl
  generalize readR s19 = p at *
  obtain ⟨l, a, b⟩ := p
  cases e1
  have c1 : (((0 : Nat) : Int) == 0) = true := rfl
  refine AC.lbody hT hm Tryz.func4 f4_nm f4_lc f4_res f4_nt ?_
  simp only [go_sem, Int.reduceEq, Int.reduceLE, Int.reduceLT, Int.reduceToNat]
  refine hR.pd ⟨.v, trivial⟩ (readD_bl _) ?_
  simp only [go_sem, Int.reduceEq, Int.reduceLE, Int.reduceLT, Int.reduceToNat]
  refine hP.pd ⟨.same (Rls_bl _), trivial⟩ (.tup (by simp)) ?_
  simp only [go_sem, Int.reduceEq, Int.reduceLE, Int.reduceLT, Int.reduceToNat, c1]
  exact Fin.v rfl
end Go.Proofs.YtdliolbjngcgcaaGreatDoor.W
set_option maxRecDepth 100000
/- Names, none of which is there twice: the document's words. -/
namespace Go.Proofs.YtdliolbjngcgcaaGreatDoor.W
open Go Go.Proofs Go.Proofs.YtdliolbjngcgcaaGreatDoor.AWP
attribute [local irreducible] xl hide aop aops aopQ qops guardP condP
theorem okB_zero (n : Nat) : okB 0 n = (decide (97 ≤ n) && decide (n ≤ 122)) := by simp [okB]
theorem nameL_succ : ∀ (l : List UInt8) (i j : Nat), 0 < i → 0 < j → nameL i l = nameL j l
  | [], _, _, _, _ => rfl
  | b :: l, i, j, hi, hj => by
    rw [nameL, nameL, nameL_succ l (i + 1) (j + 1) (by omega) (by omega)]
    have : okB i b.toNat = okB j b.toNat := by unfold okB; rw [decide_eq_true (show i ≠ 0 by omega), decide_eq_true (show j ≠ 0 by omega)]
    rw [this]
/-- A letter of a name, as the document has it. -/
def letB (n : Nat) : Bool := ((decide (97 ≤ n) && decide (n ≤ 122)) || (decide (48 ≤ n) && decide (n ≤ 57))) || decide (n = 95)
theorem okB_letB {i : Nat} (hi : 0 < i) (n : Nat) : okB i n = letB n := by
  unfold okB letB
  rw [decide_eq_true (show i ≠ 0 by omega), Bool.true_and, Bool.or_assoc, Bool.or_comm (decide (n = 95))]
theorem letB_first {n : Nat} (h : (decide (97 ≤ n) && decide (n ≤ 122)) = true) : letB n = true := by unfold letB; rw [h]; rfl
theorem rest_eq (s : ByteArray) {b : UInt8} (hb : s.data.toList[0]? = some b) (hf : (decide (97 ≤ b.toNat) && decide (b.toNat ≤ 122)) = true) : nameL 0 s.data.toList = nameL 1 s.data.toList := by
  generalize s.data.toList = l at hb
  cases l with
  | nil => simp at hb
  | cons c l =>
    simp at hb
    subst hb
    rw [nameL, nameL, okB_zero, hf, okB_letB (by omega), letB_first hf, nameL_succ l 1 2 (by omega) (by omega)]
theorem nm0_false (s : ByteArray) {b : UInt8} (hb : s.data.toList[0]? = some b) (hf : ¬ (97 ≤ b.toNat ∧ b.toNat ≤ 122)) : nameL 0 s.data.toList = false := by
  generalize s.data.toList = l at hb
  cases l with
  | nil => simp at hb
  | cons c l =>
    simp at hb
    subst hb
    have : (decide (97 ≤ c.toNat) && decide (c.toNat ≤ 122)) = false := by
      rw [Bool.eq_false_iff]; simp only [ne_eq, Bool.and_eq_true, decide_eq_true_eq]; exact hf
    rw [nameL, okB_zero, this]; rfl
theorem nm_drop (s : ByteArray) {i : Nat} {b : UInt8} (hb : s.data.toList[i]? = some b) : nameL 1 (s.data.toList.drop i) = (letB b.toNat && nameL 1 (s.data.toList.drop (i + 1))) := by
  rw [drop_get hb, nameL, okB_letB (by omega), nameL_succ _ 2 1 (by omega) (by omega)]
set_option maxHeartbeats 4000000 in
theorem rName (s : ByteArray) : AP Tryz.prog 14 [.s s] (.b (nameB s)) := by
  refine AC.lbody hT hm Tryz.func14 f14_nm f14_lc f14_res f14_nt ?_
  simp only [go_sem, Int.reduceEq, Int.reduceLE, Int.reduceLT, Int.reduceToNat]
  unfold nameB
  by_cases h1 : (s.size : Int) < 1
  · simp only [go_sem, Int.reduceEq, Int.reduceLE, Int.reduceLT, Int.reduceToNat, h1]
    exact Fin.v (by rw [decide_eq_false (show ¬ 1 ≤ s.size by omega)]; simp)
  by_cases h2 : (30 : Int) < s.size
  · simp only [go_sem, Int.reduceEq, Int.reduceLE, Int.reduceLT, Int.reduceToNat, h1, h2]
    exact Fin.v (by rw [decide_eq_false (show ¬ s.size ≤ 30 by omega)]; simp)
  have hz : 0 < s.size := by omega
  obtain ⟨b, hb⟩ := get_lt hz
  have hb' : s.data.toList[0]? = some b := by rw [Array.getElem?_toList]; exact hb
  rw [decide_eq_true (show 1 ≤ s.size by omega), decide_eq_true (show s.size ≤ 30 by omega), Bool.and_true]
  by_cases h3 : (b.toNat : Int) < 97
  · simp only [go_sem, Int.reduceEq, Int.reduceLE, Int.reduceLT, Int.reduceToNat, h1, h2, hb, h3]
    exact Fin.v (by rw [nm0_false s hb' (by omega)]; rfl)
  by_cases h4 : (122 : Int) < b.toNat
  · simp only [go_sem, Int.reduceEq, Int.reduceLE, Int.reduceLT, Int.reduceToNat, h1, h2, hb, h3, h4]
    exact Fin.v (by rw [nm0_false s hb' (by omega)]; rfl)
  rw [rest_eq s hb' (by simp only [Bool.and_eq_true, decide_eq_true_eq]; omega), Bool.and_true]
  simp only [go_sem, Int.reduceEq, Int.reduceLE, Int.reduceLT, Int.reduceToNat, h1, h2, hb, h3, h4]
  refine xl_loopM hT hm (fun i : Nat => ⟨f14_i9 (.s s) (.i i), []⟩)
    (fun i => i ≤ s.size ∧ nameL 1 s.data.toList = nameL 1 (s.data.toList.drop i)) (fun i => s.size - i) 0 ⟨Nat.zero_le _, rfl⟩ (Mv.none (by simp [f14_i9])) ?_
  rintro i ⟨hi, hn⟩
  simp only [go_sem, Int.reduceEq, Int.reduceLE, Int.reduceLT, Int.reduceToNat]
  by_cases h : i < s.size
  case neg =>
    simp only [go_sem, Int.reduceEq, Int.reduceLE, Int.reduceLT, Int.reduceToNat, h]
    exact Fin.v (by rw [hn, List.drop_of_length_le (by rw [Array.length_toList]; exact Nat.le_of_not_lt h)]; rfl)
  obtain ⟨c, hc⟩ := get_lt h
  have hst := nm_drop s (i := i) (b := c) (by rw [Array.getElem?_toList]; exact hc)
  have hwi := wrap_succ i (by omega)
  have go : letB c.toNat = true → ∃ i', (i' ≤ s.size ∧ nameL 1 s.data.toList = nameL 1 (s.data.toList.drop i')) ∧ s.size - i' < s.size - i ∧ i' = i + 1 := fun hl => ⟨i + 1, ⟨h, by rw [hn, hst, hl]; rfl⟩, by omega, rfl⟩
  by_cases k1 : (97 : Int) ≤ c.toNat
  · by_cases k2 : (c.toNat : Int) ≤ 122
    · obtain ⟨i', q1, q2, rfl⟩ := go (letB_first (by simp only [Bool.and_eq_true, decide_eq_true_eq]; omega))
      simp only [go_sem, Int.reduceEq, Int.reduceLE, Int.reduceLT, Int.reduceToNat, h, hc, k1, k2, hwi]
      exact ⟨i + 1, q1, q2, Mv.none (by simp)⟩
    · have k3 : (48 : Int) ≤ c.toNat := by omega
      have k4 : ¬ (c.toNat : Int) ≤ 57 := by omega
      have k5 : ((c.toNat : Int) == 95) = false := by rw [beq_eq_false_iff_ne]; omega
      have hl : letB c.toNat = false := by
        unfold letB
        rw [decide_eq_false (show ¬ c.toNat ≤ 122 by omega), decide_eq_false (show ¬ c.toNat ≤ 57 by omega), decide_eq_false (show ¬ c.toNat = 95 by omega)]; simp
      simp only [go_sem, Int.reduceEq, Int.reduceLE, Int.reduceLT, Int.reduceToNat, h, hc, k1, k2, k3, k4, k5]
      exact Fin.v (by rw [hn, hst, hl]; rfl)
  · by_cases k3 : (48 : Int) ≤ c.toNat
    · by_cases k4 : (c.toNat : Int) ≤ 57
      · obtain ⟨i', q1, q2, rfl⟩ := go (by unfold letB; rw [decide_eq_true (show 48 ≤ c.toNat by omega), decide_eq_true (show c.toNat ≤ 57 by omega)]; simp)
        simp only [go_sem, Int.reduceEq, Int.reduceLE, Int.reduceLT, Int.reduceToNat, h, hc, k1, k3, k4, hwi]
        exact ⟨i + 1, q1, q2, Mv.none (by simp)⟩
      · by_cases k5 : c.toNat = 95
        · obtain ⟨i', q1, q2, rfl⟩ := go (by unfold letB; rw [decide_eq_true k5]; simp)
          have k5' : ((c.toNat : Int) == 95) = true := by rw [beq_iff_eq]; omega
          simp only [go_sem, Int.reduceEq, Int.reduceLE, Int.reduceLT, Int.reduceToNat, h, hc, k1, k3, k4, k5', hwi]
          exact ⟨i + 1, q1, q2, Mv.none (by simp)⟩
        · have k5' : ((c.toNat : Int) == 95) = false := by rw [beq_eq_false_iff_ne]; omega
          have hl : letB c.toNat = false := by
            unfold letB
            rw [decide_eq_false (show ¬ 97 ≤ c.toNat by omega), decide_eq_false (show ¬ c.toNat ≤ 57 by omega), decide_eq_false k5]; simp
          simp only [go_sem, Int.reduceEq, Int.reduceLE, Int.reduceLT, Int.reduceToNat, h, hc, k1, k3, k4, k5']
          exact Fin.v (by rw [hn, hst, hl]; rfl)
    · have k5' : ((c.toNat : Int) == 95) = false := by rw [beq_eq_false_iff_ne]; omega
      have hl : letB c.toNat = false := by
        unfold letB
        rw [decide_eq_false (show ¬ 97 ≤ c.toNat by omega), decide_eq_false (show ¬ 48 ≤ c.toNat by omega), decide_eq_false (show ¬ c.toNat = 95 by omega)]; simp
      simp only [go_sem, Int.reduceEq, Int.reduceLE, Int.reduceLT, Int.reduceToNat, h, hc, k1, k3, k5']
      exact Fin.v (by rw [hn, hst, hl]; rfl)
end Go.Proofs.YtdliolbjngcgcaaGreatDoor.W
set_option maxRecDepth 100000
/- The document's reader of rules. -/
namespace Go.Proofs.YtdliolbjngcgcaaGreatDoor.W
open Go Go.Proofs Go.Proofs.YtdliolbjngcgcaaGreatDoor.AWP
attribute [local irreducible] xl hide aop aops aopQ qops guardP condP
theorem seg_list (s : ByteArray) (a b : Nat) : (s.extract a b).data.toList = (s.data.toList.drop a).take (b - a) := by
  rw [ByteArray.data_extract, Array.toList_extract, List.extract_eq_take_drop]
/-- The place of a byte, from one place on, before another one; that one. -/
theorem rFind19 (s : ByteArray) (c : UInt8) (p q : Nat) (hs : s.size ≤ 70000) (hpq : p ≤ q) (hq : q ≤ s.size) : AP Tryz.prog 13 [.s s, .y c, .i p, .i q] (.i (p + ixN c (s.extract p q).data.toList : Nat)) := by
  rw [seg_list]
  refine AC.lbody hT hm Tryz.func13 f13_nm f13_lc f13_res f13_nt ?_
  simp only [go_sem, Int.reduceEq, Int.reduceLE, Int.reduceLT, Int.reduceToNat]
  refine xl_loopM hT hm (fun i : Nat => ⟨f13_i6 (.s s) (.y c) (.i q) (.i i), []⟩)
    (fun i => p ≤ i ∧ i ≤ q ∧ i + ixN c ((s.data.toList.drop i).take (q - i)) = p + ixN c ((s.data.toList.drop p).take (q - p))) (fun i => q - i) p ⟨Nat.le_refl _, hpq, rfl⟩ (Mv.none (by simp [f13_i6])) ?_
  rintro i ⟨hpi, hiq, hi⟩
  simp only [go_sem, Int.reduceEq, Int.reduceLE, Int.reduceLT, Int.reduceToNat]
  by_cases h : i < q
  case neg =>
    have e : i = q := by omega
    subst e
    simp only [go_sem, Int.reduceEq, Int.reduceLE, Int.reduceLT, Int.reduceToNat, h]
    rw [Nat.sub_self, List.take_zero] at hi
    rw [← hi]
    exact Fin.v rfl
  obtain ⟨b, hb⟩ := get_lt (s := s) (show i < s.size by omega)
  have hqi : q - i = (q - (i + 1)) + 1 := by omega
  rw [drop_get (x := b) (by rw [Array.getElem?_toList]; exact hb), hqi, List.take_succ_cons, ixN] at hi
  have hw := wrap_succ i (by omega)
  by_cases hbc : b = c
  · subst hbc
    have e : (b.toNat : Int) = (b.toNat : Int) := rfl
    have hil : i < s.size := by omega
    rw [if_pos rfl] at hi
    simp only [go_sem, Int.reduceEq, Int.reduceLE, Int.reduceLT, Int.reduceToNat, h, hil, hb]
    rw [← hi]
    exact Fin.v rfl
  · have hne : ¬ (b.toNat : Int) = (c.toNat : Int) := fun hh => hbc (UInt8.toNat_inj.1 (by omega))
    have hil : i < s.size := by omega
    rw [if_neg hbc] at hi
    have e : ((b.toNat : Int) == (c.toNat : Int)) = false := beq_false hne
    simp only [go_sem, Int.reduceEq, Int.reduceLE, Int.reduceLT, Int.reduceToNat, h, hil, hb, e, hw]
    exact ⟨i + 1, ⟨by omega, by omega, by omega⟩, by omega, Mv.none (by simp [f13_i6])⟩
theorem rMet (l : List Rl) (n : ByteArray) (hl : l.length ≤ 1000) : AP Tryz.prog 15 [Rls l, .s n] (.b (inB n l)) := by
  have hq : ∀ om (F : Nat → Bool) (ks : List (Option Nat)), Cv om F ks (Rls l) (Rls l) := fun om F ks => .same (Rls_bl l)
  refine AC.lbody hT hm Tryz.func15 f15_nm f15_lc f15_res f15_nt ?_
  simp only [go_sem, Int.reduceEq, Int.reduceLE, Int.reduceLT, Int.reduceToNat, List.length_map]
  refine xl_loopM hT hm (fun i : Nat => ⟨f15_i7 (Rls l) (.s n) (.i l.length) (.i i), []⟩)
    (fun i => i ≤ l.length ∧ inB n l = inB n (l.drop i)) (fun i => l.length - i) 0 ⟨Nat.zero_le _, rfl⟩ (Mv.none (by simp [f15_i7, hq])) ?_
  rintro i ⟨hi, hin⟩
  simp only [go_sem, Int.reduceEq, Int.reduceLE, Int.reduceLT, Int.reduceToNat, List.length_map]
  by_cases h : i < l.length
  case neg =>
    simp only [go_sem, Int.reduceEq, Int.reduceLE, Int.reduceLT, Int.reduceToNat, h]
    rw [hin, drop_end h]
    exact Fin.v rfl
  obtain ⟨x, hx⟩ := get_ex h
  have hg := rlR_get hx
  have hwi := wrap_succ i (by omega)
  have hlen := rlD_len x
  rw [drop_get hx] at hin
  unfold inB at hin ⊢
  rw [List.any_cons] at hin
  by_cases hc : n = x.1
  · subst hc
    have e : (x.1.data.toList == x.1.data.toList) = true := by simp
    rw [decide_eq_true rfl, Bool.true_or] at hin
    simp only [go_sem, Int.reduceEq, Int.reduceLE, Int.reduceLT, Int.reduceToNat, List.length_map, h, hg, rlD_0, hlen, e]
    exact Fin.v (by rw [hin])
  · have e : (x.1.data.toList == n.data.toList) = false := by
      rw [beq_eq_false_iff_ne]
      exact fun hh => hc (ByteArray.ext (Array.toList_inj.1 hh).symm)
    rw [decide_eq_false hc, Bool.false_or] at hin
    simp only [go_sem, Int.reduceEq, Int.reduceLE, Int.reduceLT, Int.reduceToNat, List.length_map, h, hg, rlD_0, hlen, e, hwi]
    exact ⟨i + 1, ⟨h, hin⟩, by omega, Mv.none (by simp [f15_i7, hq])⟩
theorem rNodes19 (l : List Rl) (hl : l.length ≤ 1000) (hz : ∀ x ∈ l, x.2.sz ≤ 1048576) : AP Tryz.prog 17 [Rls l] (.i ((l.length : Int) - 1 + rlSz l)) := by
  have hq : ∀ om (F : Nat → Bool) (ks : List (Option Nat)), Cv om F ks (Rls l) (Rls l) := fun om F ks => .same (Rls_bl l)
  have hw0 : IntKind.i64.wrap ((l.length : Int) - 1) = (l.length : Int) - 1 := wrap_int _ (by omega) (by omega)
  refine AC.lbody hT hm Tryz.func17 f17_nm f17_lc f17_res f17_nt ?_
  simp only [go_sem, Int.reduceEq, Int.reduceLE, Int.reduceLT, Int.reduceToNat, List.length_map, hw0]
  refine xl_loopM hT hm (fun i : Nat => ⟨f17_i7 (Rls l) (.i ((l.length : Int) - 1 + rlSz (l.take i))) (.i l.length) (.i i), []⟩)
    (fun i => i ≤ l.length) (fun i => l.length - i) 0 (Nat.zero_le _) (Mv.none (by simp [f17_i7, hq, rlSz])) ?_
  intro i hi
  simp only [go_sem, Int.reduceEq, Int.reduceLE, Int.reduceLT, Int.reduceToNat, List.length_map]
  by_cases h : i < l.length
  case neg =>
    have ht : l.take i = l := List.take_of_length_le (by omega)
    simp only [go_sem, Int.reduceEq, Int.reduceLE, Int.reduceLT, Int.reduceToNat, h]
    rw [ht]
    exact Fin.v rfl
  obtain ⟨x, hx⟩ := get_ex h
  have hg := rlR_get hx
  have hwi := wrap_succ i (by omega)
  have hlen := rlD_len x
  have hxz := hz x (List.mem_of_getElem? hx)
  have hA := rAllN x.2 (by omega)
  have ht := rlSz_take hx
  have hle := rlSz_le (l.take (i + 1)) 1048576 fun y hy => hz y (List.mem_of_mem_take hy)
  have hl2 : (l.take (i + 1)).length ≤ 1000 := by rw [List.length_take]; omega
  have h3 : (l.take (i + 1)).length * 1048576 ≤ 1000 * 1048576 := Nat.mul_le_mul_right _ hl2
  have hpl : x.2.pre.length = x.2.sz := Re.pre_len x.2
  simp only [go_sem, Int.reduceEq, Int.reduceLE, Int.reduceLT, Int.reduceToNat, List.length_map, h, hg, rlD_0, hlen, rlD_drop]
  refine hA.pd ⟨.same (Re.d_bl _), trivial⟩ (.sl (Re.cs_bl _)) ?_
  have hw : IntKind.i64.wrap ((l.length : Int) - 1 + ((rlSz (l.take i) : Nat) : Int) + ((x.2.pre.length : Nat) : Int)) = (l.length : Int) - 1 + ((rlSz (l.take (i + 1)) : Nat) : Int) := by
    rw [wrap_int _ (by omega) (by omega)]; omega
  simp only [go_sem, Int.reduceEq, Int.reduceLE, Int.reduceLT, Int.reduceToNat, List.length_map, hw, hwi]
  exact ⟨i + 1, h, by omega, Mv.none (by simp [f17_i7, hq])⟩
theorem sames_self : ∀ (l : List Re), (∀ x ∈ l, x.same x = true) → Re.sames l l = true
  | [], _ => by rw [Re.sames]
  | x :: l, h => by rw [Re.sames, h x (by simp), sames_self l fun y hy => h y (by simp [hy])]; rfl
theorem same_self (r : Re) : r.same r = true := by
  refine Re.ind (p := fun r => r.same r = true) ?_ r
  intro k a b c d ks ih
  rw [Re.same, sames_self ks ih]
  simp
theorem rSame19 (l : List Rl) (hl : l.length ≤ 1000) : AP Tryz.prog 7 [Rls l, Rls l] (.b true) := by
  have hq : ∀ om (F : Nat → Bool) (ks : List (Option Nat)), Cv om F ks (Rls l) (Rls l) := fun om F ks => .same (Rls_bl l)
  have c0 : ((l.length : Int) != (l.length : Int)) = false := by simp
  refine AC.lbody hT hm Tryz.func7 f7_nm f7_lc f7_res f7_nt ?_
  simp only [go_sem, Int.reduceEq, Int.reduceLE, Int.reduceLT, Int.reduceToNat, List.length_map, c0]
  refine xl_loopM hT hm (fun i : Nat => ⟨f7_i9 (Rls l) (Rls l) (.i l.length) (.i i), []⟩)
    (fun i => i ≤ l.length) (fun i => l.length - i) 0 (Nat.zero_le _) (Mv.none (by simp [f7_i9, hq])) ?_
  intro i hi
  simp only [go_sem, Int.reduceEq, Int.reduceLE, Int.reduceLT, Int.reduceToNat, List.length_map]
  by_cases h : i < l.length
  case neg =>
    simp only [go_sem, Int.reduceEq, Int.reduceLE, Int.reduceLT, Int.reduceToNat, h]
    exact Fin.v rfl
  obtain ⟨x, hx⟩ := get_ex h
  have hg := rlR_get hx
  have hwi := wrap_succ i (by omega)
  have hlen := rlD_len x
  have hS := same x.2 x.2
  have e : x.2.same x.2 = true := same_self x.2
  rw [e] at hS
  have c1 : (x.1.data.toList != x.1.data.toList) = false := by simp
  simp only [go_sem, Int.reduceEq, Int.reduceLE, Int.reduceLT, Int.reduceToNat, List.length_map, h, hg, rlD_0, hlen, rlD_drop, c1]
  refine hS.pv ⟨.same (Re.d_bl _), .same (Re.d_bl _), trivial⟩ ?_
  simp only [go_sem, Int.reduceEq, Int.reduceLE, Int.reduceLT, Int.reduceToNat, Bool.not_true, hwi]
  exact ⟨i + 1, h, by omega, Mv.none (by simp [f7_i9, hq])⟩
end Go.Proofs.YtdliolbjngcgcaaGreatDoor.W
set_option maxRecDepth 100000
/- The document's reader of rules: it reads as the program's one. -/
namespace Go.Proofs.YtdliolbjngcgcaaGreatDoor.W
open Go Go.Proofs Go.Proofs.YtdliolbjngcgcaaGreatDoor.AWP
theorem ext_ext0 (s : ByteArray) (a k : Nat) : (s.extract a s.size).extract 0 k = s.extract a (min (a + k) s.size) := by
  apply ByteArray.ext
  simp only [ByteArray.data_extract]
  rw [Array.extract_extract]
  congr 1 <;> omega
theorem ext_rest (s : ByteArray) (a k : Nat) : (s.extract a s.size).extract k (s.extract a s.size).size = s.extract (a + k) s.size := by
  apply ByteArray.ext
  simp only [ByteArray.data_extract, ByteArray.size_extract]
  rw [Array.extract_extract]
  congr 1 <;> omega
theorem rest_list (s : ByteArray) (a : Nat) : (s.extract a s.size).data.toList = s.data.toList.drop a := Go.Lib.extract_to_end s a
theorem csuf_none {r : ByteArray} (h : ¬ ixN 10 r.data.toList < r.size) : (csuf 10 r).2 = false := by
  have hle := ixN_le 10 r.data.toList
  have hsz : r.data.toList.length = r.size := Array.length_toList
  have hall := ixN_none (c := 10) (l := r.data.toList) (by omega)
  unfold csuf
  rw [if_neg]
  unfold sufB
  rw [Bool.and_eq_true]
  rintro ⟨h1, h2⟩
  rw [beq_iff_eq] at h2
  refine hall 10 ?_ rfl
  have h3 : (10 : UInt8) ∈ (r.extract (r.size - 1) r.size).data.toList := by rw [h2]; simp
  rw [rest_list] at h3
  exact List.mem_of_mem_drop h3
theorem ext_one {s : ByteArray} {p : Nat} {b : UInt8} (h : s.data[p]? = some b) : (s.extract p (p + 1)).data.toList = [b] := by
  have h1 : At s p [b] := ⟨h, trivial⟩
  have := At_extract h1
  rw [List.length_singleton] at this
  rw [this]
theorem csuf_line {r : ByteArray} {k : Nat} (hk : ixN 10 r.data.toList = k) (h : k < r.size) : csuf 10 (r.extract 0 (k + 1)) = (r.extract 0 k, true) := by
  have hg := ixN_get (c := 10) (l := r.data.toList) (by rw [hk]; simpa using h)
  rw [hk] at hg
  have hsz : (r.extract 0 (k + 1)).size = k + 1 := by rw [ByteArray.size_extract]; omega
  unfold csuf
  rw [if_pos]
  · rw [hsz]
    congr 1
    apply ByteArray.ext
    simp only [ByteArray.data_extract]
    rw [Array.extract_extract]
    congr 1 <;> omega
  · unfold sufB
    rw [hsz, Bool.and_eq_true]
    refine ⟨by simp, ?_⟩
    rw [beq_iff_eq, show k + 1 - 1 = k by omega]
    have e : (r.extract 0 (k + 1)).extract k (k + 1) = r.extract k (k + 1) := by
      apply ByteArray.ext
      simp only [ByteArray.data_extract]
      rw [Array.extract_extract]
      congr 1 <;> omega
    rw [e]
    exact ext_one (by rw [← Array.getElem?_toList]; exact hg)
/-- One line, as the document goes. -/
theorem line_at19 (tot : Nat) (s : ByteArray) (a : Nat) (ha : a < s.size) (l : List Rl) (k : Nat) (hk : ixN 10 (s.extract a s.size).data.toList = k) :
    (¬ a + k < s.size → rStep tot l a (lineOf (s.extract a s.size)).1 = .inl (tot, 2)) ∧
    (a + k < s.size → lineOf (s.extract a s.size) = ((s.extract a s.size).extract 0 (k + 1), s.extract (a + (k + 1)) s.size) ∧ (csuf 10 ((s.extract a s.size).extract 0 (k + 1))) = (s.extract a (a + k), true) ∧ ((s.extract a s.size).extract 0 (k + 1)).size = k + 1) := by
  have hsz : (s.extract a s.size).size = s.size - a := by rw [ByteArray.size_extract]; omega
  constructor
  · intro h
    have e : lineOf (s.extract a s.size) = (s.extract a s.size, ⟨#[]⟩) := by unfold lineOf; rw [if_neg (by rw [hk, hsz]; omega)]
    rw [e]
    unfold rStep
    have := csuf_none (r := s.extract a s.size) (by rw [hk, hsz]; omega)
    dsimp only
    rw [this]
    rfl
  · intro h
    have e : lineOf (s.extract a s.size) = ((s.extract a s.size).extract 0 (k + 1), s.extract (a + (k + 1)) s.size) := by
      unfold lineOf
      rw [if_pos (by rw [hk, hsz]; omega), hk, ext_rest]
    refine ⟨e, ?_, by rw [ByteArray.size_extract, hsz]; omega⟩
    rw [csuf_line hk (by rw [hsz]; omega)]
    rw [ext_ext0, show min (a + k) s.size = a + k by omega]
/-- A line cut in two at its first blank. -/
theorem cut_seg (s : ByteArray) (a q : Nat) (hq : q ≤ s.size) (haq : a ≤ q) (b : Nat) (hb : ixN 32 (s.extract a q).data.toList = b) :
    (¬ a + b < q → (cutS 32 (s.extract a q)).2.2 = false) ∧ (a + b < q → cutS 32 (s.extract a q) = (s.extract a (a + b), s.extract (a + b + 1) q, true)) := by
  have hsz : (s.extract a q).size = q - a := by rw [ByteArray.size_extract]; omega
  constructor
  · intro h
    unfold cutS
    rw [if_neg (by rw [hb, hsz]; omega)]
  · intro h
    unfold cutS
    rw [if_pos (by rw [hb, hsz]; omega), hb, hsz]
    congr 1
    · apply ByteArray.ext
      simp only [ByteArray.data_extract]
      rw [Array.extract_extract]
      congr 1 <;> omega
    · congr 1
      apply ByteArray.ext
      simp only [ByteArray.data_extract]
      rw [Array.extract_extract]
      congr 1 <;> omega
/-- A line without its end is read. -/
def lnB (l : List Rl) (a k : Nat) (q : Nat × Nat × Option Rl) : (Nat × Nat) ⊕ (List Rl × Nat) :=
  if q.2.1 ≠ 0 then .inl (a + q.1, q.2.1)
  else match q.2.2 with
    | some x => .inr (l ++ [x], a + (k + 1))
    | none => .inl (0, 0)
theorem rGo_line {tot : Nat} {s : ByteArray} {a k n : Nat} {l : List Rl} (ha : a < s.size) (hk : ixN 10 (s.extract a s.size).data.toList = k) (h : a + k < s.size) :
    rGo tot (n + 1) (s.extract a s.size) l a = match lnB l a k (lineR l (s.extract a (a + k))) with
      | .inl q => .inl q
      | .inr (l', a') => rGo tot n (s.extract (a + (k + 1)) s.size) l' a' := by
  obtain ⟨b1, b2, b3⟩ := (line_at19 tot s a ha l k hk).2 h
  have hsz : (s.extract a s.size).size = s.size - a := by rw [ByteArray.size_extract]; omega
  rw [rGo, if_neg (by omega), b1]
  have e : rStep tot l a ((s.extract a s.size).extract 0 (k + 1)) = lnB l a k (lineR l (s.extract a (a + k))) := by
    unfold rStep
    rw [b2, b3]
    rfl
  dsimp only
  rw [e] <;> cases lnB l a k (lineR l (s.extract a (a + k))) <;> rfl
theorem lineR_max {l : List Rl} (h : 100 ≤ l.length) (s : ByteArray) : lineR l s = (0, 4, none) := by unfold lineR; rw [if_pos h]
theorem lineR_no {l : List Rl} (h : ¬ 100 ≤ l.length) {s : ByteArray} (hc : (cutS 32 s).2.2 = false) : lineR l s = (0, 2, none) := by
  unfold lineR; rw [if_neg h, hc]; rfl
theorem lineR_of {l : List Rl} (h : ¬ 100 ≤ l.length) {s nm rest : ByteArray} (hc : cutS 32 s = (nm, rest, true)) :
    lineR l s = if (!nameB nm || inB nm l) = true then (0, 2, none) else if (pRead rest).2.2 = 2 then (nm.size + 1 + (pRead rest).2.1, 2, none) else (0, (pRead rest).2.2, some (nm, (pRead rest).1)) := by
  unfold lineR; rw [if_neg h, hc]; rfl
attribute [local irreducible] xl hide aop aops aopQ qops guardP condP
set_option maxHeartbeats 16000000 in
theorem rRead19 (s : ByteArray) : AP Tryz.prog 6 [.s s] (readD (readR s)) := by
  unfold readR
  refine AC.lbody hT hm Tryz.func6 f6_nm f6_lc f6_res f6_nt ?_
  simp only [go_sem, Int.reduceEq, Int.reduceLE, Int.reduceLT, Int.reduceToNat]
  by_cases h0 : 65536 < s.size
  · have h0' : (65536 : Int) < s.size := by omega
    rw [if_pos h0]
    simp only [go_sem, Int.reduceEq, Int.reduceLE, Int.reduceLT, Int.reduceToNat, h0']
    exact Fin.ret (.tupL ⟨.frzS rfl rfl (rlR_bl []), .v, .v, trivial⟩)
  have h0' : ¬ (65536 : Int) < s.size := by omega
  rw [if_neg h0]
  simp only [go_sem, Int.reduceEq, Int.reduceLE, Int.reduceLT, Int.reduceToNat, h0']
  refine xl_loopM hT hm (fun i : List Rl × Nat => ⟨f6_i22 (.s s) (.sl 7 []) (.own 0) (.i i.2), [rlOb i.1]⟩)
    (fun i => (i.1.length ≤ 100 ∧ ∀ x ∈ i.1, mayB x.2 = true) ∧ i.2 ≤ s.size ∧ ∃ n, (s.extract i.2 s.size).size ≤ n ∧ rGo s.size s.size s [] 0 = rGo s.size n (s.extract i.2 s.size) i.1 i.2) (fun i => s.size - i.2) ([], 0) ⟨⟨by simp, by simp⟩, Nat.zero_le _, s.size, by rw [ByteArray.size_extract]; omega, by rw [show s.extract 0 s.size = s from by apply ByteArray.ext; simp [ByteArray.data_extract]]⟩ ?_ ?_
  · exact Mv.of [some 1] rfl ⟨.slcS rfl (rlR_bl []), trivial⟩ (by simp only [f6_i22, CvL]; simp; exact .frzS rfl rfl (rlR_bl []))
  rintro ⟨l, a⟩ ⟨⟨hl, hmy⟩, ha, n, hn, hgo⟩
  dsimp only at hl hmy ha hn hgo
  simp only [go_sem, Int.reduceEq, Int.reduceLE, Int.reduceLT, Int.reduceToNat, List.length_map]
  by_cases h : a < s.size
  case neg =>
    have hend : rGo s.size s.size s [] 0 = .inr (l, a) := by
      rw [hgo]
      cases n with
      | zero => rfl
      | succ n => rw [rGo, if_pos (by rw [ByteArray.size_extract]; omega)]
    rw [hend, show readQ (.inr (l, a)) = if l = [] then ([], 0, 2) else if fewB l = false then ([], 0, 4) else (l, 0, 0) from rfl]
    have hF := rNodes19 l (by omega) fun x hx => by have := (mayZ (hmy x hx)).2; omega
    by_cases hl0 : l = []
    · subst hl0
      have z : (((0 : Nat) : Int) == 0) = true := rfl
      rw [if_pos rfl]
      simp only [go_sem, Int.reduceEq, Int.reduceLE, Int.reduceLT, Int.reduceToNat, h, List.length_map, List.length_nil, z]
      exact Fin.ret (.tupL ⟨.same (Rls_bl []), .v, .v, trivial⟩)
    have z : (((l.length : Nat) : Int) == 0) = false := by
      rw [beq_eq_false_iff_ne]
      have := List.length_pos_iff.2 hl0
      omega
    rw [if_neg hl0]
    simp only [go_sem, Int.reduceEq, Int.reduceLE, Int.reduceLT, Int.reduceToNat, h, List.length_map, z]
    refine hF.pv ⟨.frzS rfl rfl (rlR_bl l), trivial⟩ ?_
    have hfe : fewB l = decide ((l.length : Int) - 1 + rlSz l ≤ 2000) := rfl
    by_cases hz : (l.length : Int) - 1 + rlSz l ≤ 2000
    · have hz' : ¬ (2000 : Int) < (l.length : Int) - 1 + rlSz l := by omega
      rw [hfe, decide_eq_true hz, if_neg (by simp)]
      simp only [go_sem, Int.reduceEq, Int.reduceLE, Int.reduceLT, Int.reduceToNat, hz']
      exact Fin.ret (.tupL ⟨.frzS rfl rfl (rlR_bl l), .v, .v, trivial⟩)
    · have hz' : (2000 : Int) < (l.length : Int) - 1 + rlSz l := by omega
      rw [hfe, decide_eq_false hz, if_pos rfl]
      simp only [go_sem, Int.reduceEq, Int.reduceLE, Int.reduceLT, Int.reduceToNat, hz']
      exact Fin.ret (.tupL ⟨.same (Rls_bl []), .v, .v, trivial⟩)
  have hsz : (s.extract a s.size).size = s.size - a := by rw [ByteArray.size_extract]; omega
  have hF1 := rFind19 s 10 a s.size (by omega) ha (Nat.le_refl _)
  have hkl := ixN_le 10 (s.extract a s.size).data.toList
  rw [show (s.extract a s.size).data.toList.length = s.size - a from by rw [← hsz]; exact Array.length_toList] at hkl
  obtain ⟨k, hk⟩ : ∃ k, ixN 10 (s.extract a s.size).data.toList = k := ⟨_, rfl⟩
  obtain ⟨hA, hB⟩ := line_at19 s.size s a h l k hk
  rw [hk] at hF1 hkl
  obtain ⟨n', rfl⟩ : ∃ n', n = n' + 1 := ⟨n - 1, by omega⟩
  simp only [go_sem, Int.reduceEq, Int.reduceLE, Int.reduceLT, Int.reduceToNat, h]
  refine hF1.pv ⟨.v, .v, .v, .v, trivial⟩ ?_
  by_cases hto : a + k < s.size
  case neg =>
    have e : a + k = s.size := by omega
    have c0 : (((s.size : Nat) : Int) == ((s.size : Nat) : Int)) = true := by simp
    rw [rGo, if_neg (by omega), hA hto] at hgo
    dsimp only at hgo
    rw [hgo, e]
    simp only [go_sem, Int.reduceEq, Int.reduceLE, Int.reduceLT, Int.reduceToNat, c0]
    exact Fin.ret (.tupL ⟨.same (Rls_bl []), .v, .v, trivial⟩)
  have c0 : (((a + k : Nat) : Int) == ((s.size : Nat) : Int)) = false := by rw [beq_eq_false_iff_ne]; omega
  rw [rGo_line h hk hto] at hgo
  simp only [go_sem, Int.reduceEq, Int.reduceLE, Int.reduceLT, Int.reduceToNat, c0, List.length_map]
  by_cases h100 : l.length = 100
  · have c1 : (((l.length : Nat) : Int) == 100) = true := by rw [h100]; rfl
    rw [lineR_max (by omega)] at hgo
    have hgo' : rGo s.size s.size s [] 0 = .inl (a, 4) := hgo
    rw [hgo']
    simp only [go_sem, Int.reduceEq, Int.reduceLE, Int.reduceLT, Int.reduceToNat, c1]
    exact Fin.ret (.tupL ⟨.same (Rls_bl []), .v, .v, trivial⟩)
  have c1 : (((l.length : Nat) : Int) == 100) = false := by rw [beq_eq_false_iff_ne]; omega
  have hF2 := rFind19 s 32 a (a + k) (by omega) (by omega) (by omega)
  have hsz2 : (s.extract a (a + k)).size = k := by rw [ByteArray.size_extract]; omega
  have hbl := ixN_le 32 (s.extract a (a + k)).data.toList
  have hll : (s.extract a (a + k)).data.toList.length = k := Eq.trans (Array.length_toList ..) hsz2
  rw [hll] at hbl
  obtain ⟨b, hb⟩ : ∃ b, ixN 32 (s.extract a (a + k)).data.toList = b := ⟨_, rfl⟩
  obtain ⟨d1, d2⟩ := cut_seg s a (a + k) (by omega) (by omega) b hb
  rw [hb] at hF2 hbl
  simp only [go_sem, Int.reduceEq, Int.reduceLE, Int.reduceLT, Int.reduceToNat, c1]
  refine hF2.pv ⟨.v, .v, .v, .v, trivial⟩ ?_
  by_cases hbk : a + b < a + k
  case neg =>
    have e : b = k := by omega
    subst e
    have c2 : (((a + b : Nat) : Int) == ((a + b : Nat) : Int)) = true := by simp
    rw [lineR_no (by omega) (d1 hbk)] at hgo
    have hgo' : rGo s.size s.size s [] 0 = .inl (a, 2) := hgo
    rw [hgo']
    simp only [go_sem, Int.reduceEq, Int.reduceLE, Int.reduceLT, Int.reduceToNat, c2]
    exact Fin.ret (.tupL ⟨.same (Rls_bl []), .v, .v, trivial⟩)
  have c2 : (((a + b : Nat) : Int) == ((a + k : Nat) : Int)) = false := by rw [beq_eq_false_iff_ne]; omega
  rw [lineR_of (by omega) (d2 hbk)] at hgo
  have hN := rName (s.extract a (a + b))
  have hM := rMet l (s.extract a (a + b)) (by omega)
  have hnz : (s.extract a (a + b)).size = b := by rw [ByteArray.size_extract]; omega
  generalize hnm : s.extract a (a + b) = nm at *
  have p1 : a ≤ a + b := by omega
  have p2 : a + b ≤ s.size := by omega
  simp only [go_sem, Int.reduceEq, Int.reduceLE, Int.reduceLT, Int.reduceToNat, c2, p1, p2, hnm]
  refine hN.pv ⟨.v, trivial⟩ ?_
  cases hnb : nameB nm with
  | false =>
    rw [hnb, if_pos (show (!false || inB nm l) = true from rfl)] at hgo
    have hgo' : rGo s.size s.size s [] 0 = .inl (a, 2) := hgo
    rw [hgo']
    simp only [go_sem, Int.reduceEq, Int.reduceLE, Int.reduceLT, Int.reduceToNat, Bool.not_false]
    exact Fin.ret (.tupL ⟨.same (Rls_bl []), .v, .v, trivial⟩)
  | true =>
  rw [hnb] at hgo
  simp only [go_sem, Int.reduceEq, Int.reduceLE, Int.reduceLT, Int.reduceToNat, Bool.not_true, p1, p2, hnm]
  refine hM.pv ⟨.frzS rfl rfl (rlR_bl l), .v, trivial⟩ ?_
  cases hin : inB nm l with
  | true =>
    rw [hin, if_pos (show (!true || true) = true from rfl)] at hgo
    have hgo' : rGo s.size s.size s [] 0 = .inl (a, 2) := hgo
    rw [hgo']
    simp only [go_sem, Int.reduceEq, Int.reduceLE, Int.reduceLT, Int.reduceToNat]
    exact Fin.ret (.tupL ⟨.same (Rls_bl []), .v, .v, trivial⟩)
  | false =>
  rw [hin, if_neg (show ¬ (!true || false) = true by simp)] at hgo
  have hRd := rRead (s.extract (a + b + 1) (a + k))
  have hat := pRead_at (s.extract (a + b + 1) (a + k))
  have hrz : (s.extract (a + b + 1) (a + k)).size ≤ s.size := by rw [ByteArray.size_extract]; omega
  have hok : (pRead (s.extract (a + b + 1) (a + k))).2.2 = 0 → mayB (pRead (s.extract (a + b + 1) (a + k))).1 = true := fun h => (pRead_ok h).2.1
  have w1 : IntKind.i64.wrap (((a + b : Nat) : Int) + 1) = ((a + b + 1 : Nat) : Int) := wrap_succ _ (by omega)
  have w2 : IntKind.i64.wrap (((a + k : Nat) : Int) + 1) = ((a + k + 1 : Nat) : Int) := wrap_succ _ (by omega)
  have q1 : a + b + 1 ≤ a + k := by omega
  have q2 : a + k ≤ s.size := by omega
  simp only [go_sem, Int.reduceEq, Int.reduceLE, Int.reduceLT, Int.reduceToNat, w1, q1, q2]
  refine hRd.pd ⟨.v, trivial⟩ (wdD_bl _) ?_
  generalize pRead (s.extract (a + b + 1) (a + k)) = p at *
  obtain ⟨y, pl, e⟩ := p
  dsimp only at hgo hat hok
  by_cases he2 : e = 2
  · subst he2
    have c3 : (((2 : Nat) : Int) == 2) = true := rfl
    have w3 : IntKind.i64.wrap (((a + b + 1 : Nat) : Int) + (pl : Int)) = ((a + (b + 1 + pl) : Nat) : Int) := by rw [wrap_int _ (by omega) (by omega)]; omega
    rw [if_pos rfl, hnz] at hgo
    have hgo' : rGo s.size s.size s [] 0 = .inl (a + (b + 1 + pl), 2) := hgo
    rw [hgo']
    simp only [go_sem, Int.reduceEq, Int.reduceLE, Int.reduceLT, Int.reduceToNat, c3, w1, w3]
    exact Fin.ret (.tupL ⟨.same (Rls_bl []), .v, .v, trivial⟩)
  have c3 : (((e : Nat) : Int) == 2) = false := by rw [beq_eq_false_iff_ne]; omega
  rw [if_neg he2] at hgo
  by_cases he0 : e = 0
  case neg =>
    have c4 : (((e : Nat) : Int) != 0) = true := by simp; omega
    have hgo' : rGo s.size s.size s [] 0 = .inl (a, e) := by
      rw [hgo]
      unfold lnB
      rw [if_pos he0]
      rfl
    rw [hgo']
    simp only [go_sem, Int.reduceEq, Int.reduceLE, Int.reduceLT, Int.reduceToNat, c3, c4]
    exact Fin.ret (.tupL ⟨.same (Rls_bl []), .v, .v, trivial⟩)
  subst he0
  have c4 : (((0 : Nat) : Int) != 0) = false := rfl
  have hgo' : rGo s.size s.size s [] 0 = rGo s.size n' (s.extract (a + (k + 1)) s.size) (l ++ [(nm, y)]) (a + (k + 1)) := hgo
  simp only [go_sem, Int.reduceEq, Int.reduceLE, Int.reduceLT, Int.reduceToNat, c3, c4, p1, p2, hnm, w2, List.length_map]
  refine ⟨by omega, (l ++ [(nm, y)], a + k + 1), ⟨⟨by simp; omega, fun x hx => ?_⟩, by dsimp only; omega, n', ?_, hgo'⟩, by dsimp only; omega, ?_⟩
  · rcases List.mem_append.1 hx with hx | hx
    · exact hmy x hx
    · rw [List.mem_singleton.1 hx]; exact hok rfl
  · rw [ByteArray.size_extract]; omega
  · have er : rlR (l ++ [(nm, y)]) = rlR l ++ [.v (.string nm) :: y.c] := by simp [rlD]
    have hqe : ∀ om (F : Nat → Bool) (kk : List (Option Nat)), Cv om F kk (.sl 7 []) (.sl 7 []) := fun om F kk => .same (Rls_bl [])
    dsimp only
    rw [show rlOb (l ++ [(nm, y)]) = .slc 56 7 (rlR l ++ [.v (.string nm) :: y.c]) from by rw [← er]]
    rw [← er]
    exact Mv.of [some 2] rfl ⟨.slcS rfl (rlR_bl _), trivial⟩ (by simp only [f6_i22, CvL]; simp [hqe])
end Go.Proofs.YtdliolbjngcgcaaGreatDoor.W
set_option maxRecDepth 100000
/- There and back: rules' text is read as it was. -/
namespace Go.Proofs.YtdliolbjngcgcaaGreatDoor.W
open Go Go.Proofs Go.Proofs.YtdliolbjngcgcaaGreatDoor.AWP
theorem ba_backR (s : ByteArray) : (⟨s.data.toList.toArray⟩ : ByteArray) = s := by cases s; simp
theorem sign_no10 (b : UInt8) : ∀ c ∈ signB b, c ≠ 10 := by
  have : ∀ b : UInt8, (signB b).all (fun c => decide (c ≠ 10)) = true := all_ofNat (p := fun b => (signB b).all (fun c => decide (c ≠ 10)) = true) (by decide +kernel)
  intro c hc
  have h := List.all_eq_true.1 (this b) c hc
  simpa using h
theorem rng_no10 (b n : Nat) : ∀ c ∈ rng b n, c ≠ 10 := by
  intro c hc
  unfold rng at hc
  rcases List.mem_append.1 hc with hc | hc
  · exact sign_no10 _ c hc
  rcases List.mem_append.1 hc with hc | hc
  · split at hc
    · rw [List.mem_singleton.1 hc]; decide
    · cases hc
  · split at hc
    · exact sign_no10 _ c hc
    · cases hc
theorem runs_no10 : ∀ (k : Nat) (l : List Nat), l.length ≤ k → ∀ c ∈ runsL l, c ≠ 10 := by
  intro k
  induction k with
  | zero =>
    intro l hl c hc
    have : l = [] := List.eq_nil_of_length_eq_zero (by omega)
    subst this
    rw [runsL] at hc; cases hc
  | succ k ih =>
    intro l hl c hc
    cases l with
    | nil => rw [runsL] at hc; cases hc
    | cons b t =>
      rw [runsL] at hc
      rcases List.mem_append.1 hc with hc | hc
      · exact rng_no10 _ _ c hc
      · exact ih _ (by simp at hl ⊢; omega) c hc
theorem set_no10 (ws : List Int) : ∀ c ∈ setT ws, c ≠ 10 := by
  intro c hc
  unfold setT at hc
  split at hc
  · rw [List.mem_singleton.1 hc]; decide
  split at hc
  · exact sign_no10 _ c hc
  · rcases List.mem_cons.1 hc with rfl | hc
    · decide
    rcases List.mem_append.1 hc with hc | hc
    · exact runs_no10 _ _ (Nat.le_refl _) c hc
    · rw [List.mem_singleton.1 hc]; decide
theorem brk_no10 {b : Bool} {l : List UInt8} (h : ∀ c ∈ l, c ≠ 10) : ∀ c ∈ brk b l, c ≠ 10 := by
  intro c hc
  unfold brk at hc
  split at hc
  · rcases List.mem_cons.1 hc with rfl | hc
    · decide
    rcases List.mem_append.1 hc with hc | hc
    · exact h c hc
    · rw [List.mem_singleton.1 hc]; decide
  · exact h c hc
theorem txt_no10 (r : Re) : r.nodesOk = true → ∀ c ∈ r.txt, c ≠ 10 := by
  refine Re.indOk (p := fun r => ∀ c ∈ r.txt, c ≠ 10) ?_ ?_ ?_ ?_ r
  · intro k hk
    rcases hk with rfl | rfl
    · rw [txt_1]; decide
    · rw [txt_2]; decide
  · intro a b c d _
    rw [txt_3]; exact set_no10 _
  · intro k x y hk _ _ hx hy c hc
    rcases hk with rfl | rfl
    · rw [txt_4] at hc
      rcases List.mem_append.1 hc with hc | hc
      · exact brk_no10 hx c hc
      · exact brk_no10 hy c hc
    · rw [txt_5] at hc
      rcases List.mem_append.1 hc with hc | hc
      · exact brk_no10 hx c hc
      rcases List.mem_cons.1 hc with rfl | hc
      · decide
      · exact hy c hc
  · intro x _ hx c hc
    rw [txt_6] at hc
    rcases List.mem_append.1 hc with hc | hc
    · exact brk_no10 hx c hc
    · rw [List.mem_singleton.1 hc]; decide
theorem ixN_app {c : UInt8} : ∀ (l m : List UInt8), (∀ b ∈ l, b ≠ c) → ixN c (l ++ c :: m) = l.length
  | [], m, _ => by rw [List.nil_append, ixN, if_pos rfl]; rfl
  | b :: l, m, h => by
    rw [List.cons_append, ixN, if_neg (h b (by simp)), ixN_app l m fun x hx => h x (by simp [hx])]; rfl
theorem lineOf_S {S : ByteArray} {L m : List UInt8} (hS : S.data.toList = L ++ 10 :: m) (h : ∀ b ∈ L, b ≠ 10) (hz : S.size = L.length + 1 + m.length) (e1 : S.extract 0 (L.length + 1) = ⟨(L ++ [10]).toArray⟩) (e2 : S.extract (L.length + 1) (L.length + 1 + m.length) = ⟨m.toArray⟩) :
    lineOf S = (⟨(L ++ [10]).toArray⟩, ⟨m.toArray⟩) := by
  have hi := ixN_app (c := 10) L m h
  unfold lineOf
  rw [hS, hi, if_pos (by omega), e1, hz, e2]
theorem lineOf_app {L m : List UInt8} (h : ∀ b ∈ L, b ≠ 10) : lineOf ⟨(L ++ 10 :: m).toArray⟩ = (⟨(L ++ [10]).toArray⟩, ⟨m.toArray⟩) := by
  have e : L ++ 10 :: m = (L ++ [10]) ++ m := by simp
  have h1 : At ⟨((L ++ [10]) ++ m).toArray⟩ 0 (L ++ [10]) := At_of m (L ++ [10]) []
  have h2 : At ⟨((L ++ [10]) ++ (m ++ [])).toArray⟩ (L ++ [10]).length m := At_of [] m (L ++ [10])
  rw [List.append_nil] at h2
  rw [← e] at h1 h2
  have hz : (⟨(L ++ 10 :: m).toArray⟩ : ByteArray).size = L.length + 1 + m.length := by rw [ba_size, List.length_append, List.length_cons]; omega
  have e1 := At_extract h1
  have e2 := At_extract h2
  have hS : (⟨(L ++ 10 :: m).toArray⟩ : ByteArray).data.toList = L ++ 10 :: m := List.toList_toArray ..
  generalize (⟨(L ++ 10 :: m).toArray⟩ : ByteArray) = S at *
  rw [Nat.zero_add, List.length_append, List.length_singleton] at e1
  rw [List.length_append, List.length_singleton] at e2
  exact lineOf_S hS h hz e1 e2
theorem csuf_S {S : ByteArray} {L : List UInt8} (hz : S.size = L.length + 1) (e1 : S.extract 0 L.length = ⟨L.toArray⟩) (e2 : S.extract L.length (L.length + 1) = ⟨[10].toArray⟩) : csuf 10 S = (⟨L.toArray⟩, true) := by
  have hs : sufB 10 S = true := by
    unfold sufB
    rw [hz, Nat.add_sub_cancel, e2]
    simp
  unfold csuf
  rw [if_pos hs, hz, Nat.add_sub_cancel, e1]
theorem csuf_app (L : List UInt8) : csuf 10 ⟨(L ++ [10]).toArray⟩ = (⟨L.toArray⟩, true) := by
  have h1 : At ⟨(L ++ [10]).toArray⟩ 0 L := At_of [10] L []
  have h2 : At ⟨(L ++ ([10] ++ [])).toArray⟩ L.length [10] := At_of [] [10] L
  rw [List.append_nil] at h2
  have hz : (⟨(L ++ [10]).toArray⟩ : ByteArray).size = L.length + 1 := by rw [ba_size, List.length_append]; rfl
  have e1 := At_extract h1
  have e2 := At_extract h2
  generalize (⟨(L ++ [10]).toArray⟩ : ByteArray) = S at *
  rw [Nat.zero_add] at e1
  rw [List.length_singleton] at e2
  exact csuf_S hz e1 e2
theorem cut_S {S : ByteArray} {A B : List UInt8} (hS : S.data.toList = A ++ 32 :: B) (h : ∀ b ∈ A, b ≠ 32) (hz : S.size = A.length + 1 + B.length) (e1 : S.extract 0 A.length = ⟨A.toArray⟩) (e2 : S.extract (A.length + 1) (A.length + 1 + B.length) = ⟨B.toArray⟩) :
    cutS 32 S = (⟨A.toArray⟩, ⟨B.toArray⟩, true) := by
  have hi := ixN_app (c := 32) A B h
  unfold cutS
  rw [hS, hi, if_pos (by omega), e1, hz, e2]
theorem cut_app {A B : List UInt8} (h : ∀ b ∈ A, b ≠ 32) : cutS 32 ⟨(A ++ 32 :: B).toArray⟩ = (⟨A.toArray⟩, ⟨B.toArray⟩, true) := by
  have e : A ++ 32 :: B = (A ++ [32]) ++ B := by simp
  have h1 : At ⟨(A ++ 32 :: B).toArray⟩ 0 A := At_of (32 :: B) A []
  have h2 : At ⟨((A ++ [32]) ++ (B ++ [])).toArray⟩ (A ++ [32]).length B := At_of [] B (A ++ [32])
  rw [List.append_nil, ← e] at h2
  have hz : (⟨(A ++ 32 :: B).toArray⟩ : ByteArray).size = A.length + 1 + B.length := by rw [ba_size, List.length_append, List.length_cons]; omega
  have e1 := At_extract h1
  have e2 := At_extract h2
  have hS : (⟨(A ++ 32 :: B).toArray⟩ : ByteArray).data.toList = A ++ 32 :: B := List.toList_toArray ..
  generalize (⟨(A ++ 32 :: B).toArray⟩ : ByteArray) = S at *
  rw [Nat.zero_add] at e1
  rw [List.length_append, List.length_singleton] at e2
  exact cut_S hS h hz e1 e2
/-! ### What is known of rules that are read -/
theorem ltr_noR {b : UInt8} (h : ltrB b.toNat = true) : b ≠ 10 ∧ b ≠ 32 := by
  constructor
  · rintro rfl; revert h; decide
  · rintro rfl; revert h; decide
theorem mayGo_snoc : ∀ (s l : List Rl) (x : Rl), mayGo s (l ++ [x]) = (mayGo s l && okRl (s ++ l) x)
  | s, [], x => by rw [List.nil_append, mayGo, mayGo, mayGo, List.append_nil, Bool.and_true, Bool.true_and]
  | s, y :: l, x => by
    rw [List.cons_append, mayGo, mayGo, mayGo_snoc (s ++ [y]) l x, Bool.and_assoc, List.append_assoc]; rfl
structure RJ (a : Nat) (l : List Rl) : Prop where
  len : l.length ≤ 100
  may : mayGo [] l = true
  wd : ∀ x ∈ l, x.2.wd
  tx : (prT l).length ≤ 20 * a
theorem cutS_size {s : ByteArray} (h : (cutS 32 s).2.2 = true) : (cutS 32 s).1.size + 1 + (cutS 32 s).2.1.size = s.size := by
  unfold cutS at h ⊢
  split at h
  · rename_i hi
    rw [if_pos hi]
    simp only [ByteArray.size_extract]
    omega
  · cases h
theorem csuf_true {s : ByteArray} (h : (csuf 10 s).2 = true) : (csuf 10 s).1.size + 1 = s.size := by
  unfold csuf at h ⊢
  split at h
  · rename_i hi
    rw [if_pos hi]
    unfold sufB at hi
    rw [Bool.and_eq_true, decide_eq_true_eq] at hi
    simp only [ByteArray.size_extract]
    omega
  · cases h
theorem rJ_step {tot : Nat} {l : List Rl} {a : Nat} {ln : ByteArray} {l' : List Rl} {a' : Nat} (hJ : RJ a l) (h : rStep tot l a ln = .inr (l', a')) : RJ a' l' := by
  obtain ⟨j1, j2, j3, j4⟩ := hJ
  unfold rStep at h
  split at h
  · cases h
  rename_i hc
  split at h
  · cases h
  rename_i h0
  have hcs := csuf_true (by simpa using hc)
  generalize (csuf 10 ln).1 = body at h h0 hcs
  split at h
  case h_2 => cases h
  rename_i x hx
  cases h
  have h0' : (lineR l body).2.1 = 0 := by simpa using h0
  revert hx h0'
  unfold lineR
  split
  · intro hx; cases hx
  rename_i hl
  split
  · intro hx; cases hx
  rename_i hnm
  split
  · intro hx; cases hx
  intro hx h0'
  cases hx
  dsimp only at h0'
  simp only [Bool.or_eq_true, Bool.not_eq_true', not_or, Bool.not_eq_false, Bool.not_eq_true] at hnm
  obtain ⟨⟨n1, n2⟩, n3⟩ := hnm
  have hcz := cutS_size n1
  obtain ⟨p1, p2, p3⟩ := pRead_ok h0'
  have p4 := altF_tl _ _ (Nat.le_refl _) p1
  have hok : okRl l ((cutS 32 body).1, (pRead (cutS 32 body).2.1).1) = true := by
    unfold okRl
    rw [n3, n2, p2]; rfl
  have p5 := p4.1
  have hln : (lnT ((cutS 32 body).1, (pRead (cutS 32 body).2.1).1)).length ≤ 20 * ln.size := by
    unfold lnT
    have h4 : (cutS 32 body).1.data.toList.length = (cutS 32 body).1.size := Array.length_toList
    simp only [List.length_append, List.length_cons, List.length_nil, h4]
    omega
  refine ⟨by simp; omega, ?_, fun x hx => ?_, ?_⟩
  · rw [mayGo_snoc, j2, List.nil_append, hok]; rfl
  · rcases List.mem_append.1 hx with hx | hx
    · exact j3 x hx
    · rw [List.mem_singleton.1 hx]; exact p4.2
  · rw [prT_app, List.length_append, prT, prT, List.append_nil]
    omega
theorem rGo_J {tot : Nat} : ∀ (n : Nat) (r : ByteArray) (l : List Rl) (a : Nat) {l' : List Rl} {a' : Nat}, RJ a l → rGo tot n r l a = .inr (l', a') → RJ a' l' ∧ a' ≤ a + r.size := by
  intro n
  induction n with
  | zero =>
    intro r l a l' a' hJ h
    rw [rGo] at h; cases h; exact ⟨hJ, by omega⟩
  | succ n ih =>
    intro r l a l' a' hJ h
    rw [rGo] at h
    split at h
    · cases h; exact ⟨hJ, by omega⟩
    · rename_i h0
      have hl := lineOf_size r (by omega)
      split at h
      · cases h
      · rename_i l1 a1 hst
        have hr := rStep_inr hst
        have := ih _ _ _ (rJ_step hJ hst) h
        exact ⟨this.1, by omega⟩
theorem rGo_ne {tot : Nat} : ∀ (n : Nat) (r : ByteArray) (l : List Rl) (a : Nat) {p : Nat}, rGo tot n r l a ≠ .inl (p, 0) := by
  intro n
  induction n with
  | zero => intro r l a p h; rw [rGo] at h; cases h
  | succ n ih =>
    intro r l a p h
    rw [rGo] at h
    split at h
    · cases h
    · split at h
      · rename_i q hst
        cases h
        unfold rStep at hst
        split at hst
        · cases hst
        split at hst
        · rename_i h0; simp only [Sum.inl.injEq, Prod.mk.injEq] at hst; exact h0 hst.2
        rename_i h0
        split at hst
        · cases hst
        · rename_i hn
          obtain ⟨x, hx⟩ := lineR_some (by simpa using h0)
          rw [hx] at hn; cases hn
      · exact ih _ _ _ h
theorem readR_ok {s : ByteArray} (h : (readR s).2.2 = 0) : RJ s.size (readR s).1 ∧ (readR s).1 ≠ [] ∧ fewB (readR s).1 = true := by
  unfold readR at h ⊢
  split at h
  · cases h
  rename_i hs
  rw [if_neg hs]
  have hJ := @rGo_J s.size s.size s [] 0
  have hne := @rGo_ne s.size s.size s [] 0
  generalize rGo s.size s.size s [] 0 = q at h hJ hne ⊢
  cases q with
  | inl q =>
    obtain ⟨p, e⟩ := q
    have he : e = 0 := h
    subst he
    exact absurd rfl hne
  | inr q =>
    obtain ⟨l, a⟩ := q
    have h00 : RJ 0 [] := ⟨by simp, rfl, by simp, by simp [prT]⟩
    obtain ⟨g1, g2⟩ := hJ h00 rfl
    rw [show readQ (.inr (l, a)) = if l = [] then ([], 0, 2) else if fewB l = false then ([], 0, 4) else (l, 0, 0) from rfl] at h ⊢
    split at h
    · cases h
    rename_i hl
    rw [if_neg hl]
    split at h
    · cases h
    rename_i hf
    rw [if_neg hf]
    refine ⟨⟨g1.len, g1.may, g1.wd, ?_⟩, hl, by simpa using hf⟩
    have := g1.tx
    show (prT l).length ≤ _
    omega
theorem rStep_of (tot : Nat) (l : List Rl) (x : Rl) (a : Nat) (hl : l.length < 100) (hok : okRl l x = true) (hw : x.2.wd) (ht : x.2.txt.length ≤ 65536) : rStep tot l a ⟨(lnT x).toArray⟩ = .inr (l ++ [x], a + (lnT x).length) := by
  unfold okRl at hok
  simp only [Bool.and_eq_true, Bool.not_eq_true'] at hok
  obtain ⟨h1, h2, h3⟩ := hok
  have hlt := (name_ltr h2).1
  have e : lnT x = (x.1.data.toList ++ 32 :: x.2.txt) ++ [10] := by unfold lnT; simp
  have hR := read_text h3 hw ht
  have hcut := cut_app (B := x.2.txt) fun b hb => (ltr_noR (hlt b hb)).2
  rw [ba_backR] at hcut
  have hLR : lineR l ⟨(x.1.data.toList ++ 32 :: x.2.txt).toArray⟩ = (0, 0, some x) := by
    rw [lineR_of (by omega) hcut, h2, h1, if_neg (by simp)]
    rw [show (⟨x.2.txt.toArray⟩ : ByteArray) = x.2.text from rfl, hR, if_neg (by simp)]
  unfold rStep
  rw [show csuf 10 ⟨(lnT x).toArray⟩ = (⟨(x.1.data.toList ++ 32 :: x.2.txt).toArray⟩, true) from by rw [e]; exact csuf_app _]
  dsimp only
  rw [if_neg (by simp), hLR, if_neg (by simp), ba_size]
theorem lnT_no10 {x : Rl} (h2 : nameB x.1 = true) (h3 : mayB x.2 = true) : ∀ b ∈ x.1.data.toList ++ 32 :: x.2.txt, b ≠ 10 := by
  have hnok : x.2.nodesOk = true := (mayZ h3).1
  intro b hb
  rcases List.mem_append.1 hb with hb | hb
  · exact (ltr_noR ((name_ltr h2).1 b hb)).1
  rcases List.mem_cons.1 hb with rfl | hb
  · decide
  · exact txt_no10 x.2 hnok b hb
theorem rGo_of (tot : Nat) (l : List Rl) (hl : l.length ≤ 100) (hm : mayGo [] l = true) (hw : ∀ x ∈ l, x.2.wd ∧ x.2.txt.length ≤ 65536) :
    ∀ (rest done : List Rl) (n : Nat), l = done ++ rest → (prT rest).length ≤ n → rGo tot n ⟨(prT rest).toArray⟩ done (prT done).length = .inr (l, (prT l).length)
  | [], done, n, hd, hn => by
    rw [List.append_nil] at hd
    rw [hd]
    cases n with
    | zero => rw [rGo]
    | succ n => rw [rGo, if_pos (by rw [ba_size]; rfl)]
  | x :: rest, done, n, hd, hn => by
    have hx := hw x (by rw [hd]; simp)
    have hlen : done.length < 100 := by rw [hd, List.length_append, List.length_cons] at hl; omega
    have hall := mayGo_all _ _ hm x (by rw [hd]; simp)
    have hok : okRl done x = true := by
      have : ∀ (s a b : List Rl) (y : Rl), mayGo s (a ++ y :: b) = true → okRl (s ++ a) y = true := by
        intro s a
        induction a generalizing s with
        | nil => intro b y h; rw [List.nil_append, mayGo, Bool.and_eq_true] at h; rw [List.append_nil]; exact h.1
        | cons z a ih =>
          intro b y h
          rw [List.cons_append, mayGo, Bool.and_eq_true] at h
          have := ih _ b y h.2
          rwa [List.append_assoc] at this
      have h := this [] done rest x (by rw [← hd]; exact hm)
      rwa [List.nil_append] at h
    have hno := lnT_no10 hall.1 hall.2
    have e : lnT x = (x.1.data.toList ++ 32 :: x.2.txt) ++ [10] := by unfold lnT; simp
    have e2 : prT (x :: rest) = (x.1.data.toList ++ 32 :: x.2.txt) ++ 10 :: prT rest := by rw [prT, e]; simp
    have hlen2 : (prT (x :: rest)).length = (lnT x).length + (prT rest).length := by rw [prT, List.length_append]
    have hpos : 1 ≤ (lnT x).length := by rw [e, List.length_append]; simp
    cases n with
    | zero => omega
    | succ n =>
      have hline := lineOf_app (m := prT rest) hno
      have hst := rStep_of tot done x (prT done).length hlen hok hx.1 hx.2
      rw [rGo, if_neg (by rw [ba_size, hlen2]; omega), e2, hline]
      dsimp only
      rw [← e, hst]
      dsimp only
      have ih := rGo_of tot l hl hm hw rest (done ++ [x]) n (by rw [hd]; simp) (by omega)
      rw [prT_app, List.length_append, prT, prT, List.append_nil] at ih
      exact ih
/-- Rules' text is read as it was. -/
theorem read_prT {l : List Rl} {a : Nat} (hJ : RJ a l) (ha : a ≤ 2000) (hne : l ≠ []) (hf : fewB l = true) : prtR l = (prT l, 0) ∧ readR ⟨(prT l).toArray⟩ = (l, 0, 0) := by
  obtain ⟨j1, j2, j3, j4⟩ := hJ
  have hlp := List.length_pos_iff.2 hne
  have hmay : mayRl l = true := by
    unfold mayRl
    rw [j2, decide_eq_true (show 1 ≤ l.length by omega), decide_eq_true j1, hf]; rfl
  have htx : ∀ x ∈ l, x.2.wd ∧ x.2.txt.length ≤ 65536 := by
    intro x hx
    refine ⟨j3 x hx, ?_⟩
    obtain ⟨u, v, rfl⟩ := List.append_of_mem hx
    rw [prT_app, prT, List.length_append, List.length_append] at j4
    have : x.2.txt.length ≤ (lnT x).length := by unfold lnT; simp; omega
    omega
  constructor
  · unfold prtR
    rw [hmay, if_neg (by simp), if_neg (by omega)]
  · have hz : (⟨(prT l).toArray⟩ : ByteArray).size = (prT l).length := ba_size _
    have := rGo_of (prT l).length l j1 j2 htx l [] (prT l).length rfl (Nat.le_refl _)
    unfold readR
    rw [hz, if_neg (by omega)]
    rw [show (prT []).length = 0 from rfl] at this
    rw [this]
    show (if l = [] then _ else if fewB l = false then _ else _) = _
    rw [if_neg hne, if_neg (by rw [hf]; simp)]
attribute [local irreducible] xl hide aop aops aopQ qops guardP condP
set_option maxHeartbeats 4000000 in
theorem rulesReadsL (s : ByteArray) : AP Tryz.prog 3 [.s s] (.b true) := by
  refine AC.lbody hT hm Tryz.func3 f3_nm f3_lc f3_res f3_nt ?_
  simp only [go_sem, Int.reduceEq, Int.reduceLE, Int.reduceLT, Int.reduceToNat]
  by_cases hs : 2000 < s.size
  · have hs' : (2000 : Int) < s.size := by omega
    simp only [go_sem, Int.reduceEq, Int.reduceLE, Int.reduceLT, Int.reduceToNat, hs']
    refine awake19.pv trivial ?_
    simp only [go_sem, Int.reduceEq, Int.reduceLE, Int.reduceLT, Int.reduceToNat]
    exact Fin.v rfl
  have hs' : ¬ (2000 : Int) < s.size := by omega
  have hR := ruleRead s
  have hD := rRead19 s
  have hok := @readR_ok s
  have hl : (readR s).1.length ≤ 100 ∧ ∀ x ∈ (readR s).1, mayB x.2 = true := by
    unfold readR
    split
    · exact ⟨by simp, by simp⟩
    have hmay := @rGo_may s.size s.size s [] 0
    generalize rGo s.size s.size s [] 0 = q at hmay
    cases q with
    | inl q => exact ⟨by simp [readQ], by simp [readQ]⟩
    | inr q =>
      obtain ⟨l, a⟩ := q
      have h := hmay rfl (by simp) (by simp)
      rw [show readQ (.inr (l, a)) = if l = [] then ([], 0, 2) else if fewB l = false then ([], 0, 4) else (l, 0, 0) from rfl]
      split
      · exact ⟨by simp, by simp⟩
      split
      · exact ⟨by simp, by simp⟩
      · exact h
  generalize readR s = p at hR hD hok hl
  obtain ⟨l, pl, e⟩ := p
  dsimp only at hok hl
  have e1 : ((e : Int) != (e : Int)) = false := by simp
  have e2 : ((pl : Int) != (pl : Int)) = false := by simp
  have hS := rSame19 l (by omega)
  simp only [go_sem, Int.reduceEq, Int.reduceLE, Int.reduceLT, Int.reduceToNat, hs']
  refine hR.pd ⟨.v, trivial⟩ (readD_bl _) ?_
  simp only [go_sem, Int.reduceEq, Int.reduceLE, Int.reduceLT, Int.reduceToNat]
  refine hD.pd ⟨.v, trivial⟩ (readD_bl _) ?_
  simp only [go_sem, Int.reduceEq, Int.reduceLE, Int.reduceLT, Int.reduceToNat, e1, e2]
  refine hS.pv ⟨.same (Rls_bl _), .same (Rls_bl _), trivial⟩ ?_
  by_cases he : e = 0
  case neg =>
    have c0 : ((e : Int) != 0) = true := by simp; omega
    simp only [go_sem, Int.reduceEq, Int.reduceLE, Int.reduceLT, Int.reduceToNat, c0, Bool.not_true]
    refine awake19.pv trivial ?_
    simp only [go_sem, Int.reduceEq, Int.reduceLE, Int.reduceLT, Int.reduceToNat]
    exact Fin.v rfl
  subst he
  have c0 : (((0 : Nat) : Int) != 0) = false := rfl
  have c1 : (((0 : Nat) : Int) == 0) = true := rfl
  have c2 : ((0 : Int) == 0) = true := rfl
  obtain ⟨hJ, hne, hf⟩ := hok rfl
  obtain ⟨g1, g2⟩ := read_prT hJ (by omega) hne hf
  have hP := rulePrint l (by omega) fun x hx => by
    have h1 := mayZ (hl.2 x hx)
    have h2 := mayGo_all _ _ hJ.may x hx
    have h3 := (nameB_size h2.1).2
    exact ⟨by omega, by omega, hJ.wd x hx⟩
  have hB := ruleRead ⟨(prT l).toArray⟩
  rw [g1] at hP
  rw [g2] at hB
  simp only [go_sem, Int.reduceEq, Int.reduceLE, Int.reduceLT, Int.reduceToNat, c0, c1, c2, Bool.not_true]
  refine hP.pd ⟨.same (Rls_bl _), trivial⟩ (.tup (by simp)) ?_
  simp only [go_sem, Int.reduceEq, Int.reduceLE, Int.reduceLT, Int.reduceToNat, c0, c1, c2]
  refine hB.pd ⟨.v, trivial⟩ (readD_bl _) ?_
  simp only [go_sem, Int.reduceEq, Int.reduceLE, Int.reduceLT, Int.reduceToNat, c0, c1, c2]
  refine hS.pv ⟨.same (Rls_bl _), .same (Rls_bl _), trivial⟩ ?_
  simp only [go_sem, Int.reduceEq, Int.reduceLE, Int.reduceLT, Int.reduceToNat]
  refine awake19.pv trivial ?_
  simp only [go_sem, Int.reduceEq, Int.reduceLE, Int.reduceLT, Int.reduceToNat]
  exact Fin.v rfl
end Go.Proofs.YtdliolbjngcgcaaGreatDoor.W
