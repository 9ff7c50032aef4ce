/- Two behind one another fit just what can be cut in two that both fit; one as often as one likes what is none, or begins with a text of it. -/
import Derived.Test.YteifkcgokjmcjaaMatchN
import Derived.Test.YteifkcgokjmcjaaPartMath
set_option linter.unusedVariables false
set_option linter.unusedSimpArgs false
set_option linter.unusedSectionVars false
set_option maxRecDepth 100000
/- Two behind one another fit just what can be cut in two that both fit; one as often as one likes what is none, or begins with a text of it. -/
namespace Go.Proofs.Yteifkcgokjmcjaa.W
open Go Go.Proofs Go.Proofs.Yteifkcgokjmcjaa.AWP
attribute [local irreducible] xl hide aop aops aopQ qops guardP condP

theorem pre_size {s : ByteArray} {i : Nat} (h : i ≤ s.size) : (s.extract 0 i).size = i := by
  rw [ByteArray.size_extract]; omega
theorem pre_byte {s : ByteArray} {i j : Nat} (h : i ≤ s.size) (hj : j < (s.extract 0 i).size) : byteAt (s.extract 0 i) j = byteAt s j := by
  rw [pre_size h] at hj
  unfold byteAt
  rw [Array.getD_eq_getD_getElem?, Array.getD_eq_getD_getElem?, ByteArray.data_extract, Array.getElem?_extract]
  rw [if_pos (by have : s.data.size = s.size := rfl; omega), Nat.zero_add]
theorem fit_pre {r : Re} {s : ByteArray} {i : Nat} (h : i ≤ s.size) : fitB r (s.extract 0 i) = true ↔ mayB r = true ∧ r.mt s 0 i := by
  rw [fitB_iff, pre_size h]
  constructor
  · rintro ⟨h1, h2⟩
    exact ⟨h1, (mt_front (by rw [pre_size h]; exact h) (fun j hj => pre_byte h hj) r (mayB_ok h1) _ _ (by rw [pre_size h]; exact Nat.le_refl _)).1 h2⟩
  · rintro ⟨h1, h2⟩
    exact ⟨h1, (mt_front (by rw [pre_size h]; exact h) (fun j hj => pre_byte h hj) r (mayB_ok h1) _ _ (by rw [pre_size h]; exact Nat.le_refl _)).2 h2⟩
theorem fit_sub {r : Re} {s : ByteArray} {i : Nat} (h : i ≤ s.size) : fitB r (s.extract i s.size) = true ↔ mayB r = true ∧ r.mt s i s.size := by
  rw [fitB_iff, sub_size h]
  have key : ∀ h1 : mayB r = true, (r.mt (s.extract i s.size) 0 (s.size - i) ↔ r.mt s i s.size) := by
    intro h1
    have := mt_shift (s := s) (s' := s.extract i s.size) (k := i) (by rw [sub_size h]; omega) (fun j hj => sub_byte hj h) r (mayB_ok h1) 0 (s.size - i)
    rw [this, Nat.add_zero, show i + (s.size - i) = s.size from by omega]
  constructor
  · rintro ⟨h1, h2⟩; exact ⟨h1, (key h1).1 h2⟩
  · rintro ⟨h1, h2⟩; exact ⟨h1, (key h1).2 h2⟩
/-- What the law's loop comes to. -/
noncomputable def bothG (a b : Re) (s : ByteArray) (i : Nat) : Bool := (List.range i).any fun j => fitB a (s.extract 0 j) && fitB b (s.extract j s.size)
noncomputable def manyG (a c : Re) (s : ByteArray) (i : Nat) : Bool := decide (s.size = 0) || (List.range i).any fun j => fitB a (s.extract 0 j) && decide (0 < j) && fitB c (s.extract j s.size)
theorem bothG_step (a b : Re) (s : ByteArray) (i : Nat) : bothG a b s (i + 1) = (bothG a b s i || (fitB a (s.extract 0 i) && fitB b (s.extract i s.size))) := by
  unfold bothG
  rw [List.range_succ]; simp
theorem manyG_step (a c : Re) (s : ByteArray) (i : Nat) : manyG a c s (i + 1) = (manyG a c s i || (fitB a (s.extract 0 i) && decide (0 < i) && fitB c (s.extract i s.size))) := by
  unfold manyG
  rw [List.range_succ, List.any_append, Bool.or_assoc]; simp
theorem may_4 (a b : Re) (ha : a.sz ≤ 200) (hb : b.sz ≤ 200) : mayB (.mk 4 0 0 0 0 [a, b]) = (mayB a && mayB b) := by
  unfold mayB
  have e1 : (Re.mk 4 0 0 0 0 [a, b]).sz = 1 + (a.sz + b.sz) := by simp [Re.sz, Re.szs]
  have e2 : (Re.mk 4 0 0 0 0 [a, b]).nodesOk = (a.nodesOk && b.nodesOk) := by
    rw [Re.nodesOk, Re.nodesOks, Re.nodesOks, Re.nodesOks]
    simp [Re.nodeOk]
  rw [e1, e2, decide_eq_true (by omega : 1 + (a.sz + b.sz) ≤ 2000), decide_eq_true (by omega : a.sz ≤ 2000), decide_eq_true (by omega : b.sz ≤ 2000)]
  simp
theorem may_6 (a : Re) (ha : a.sz ≤ 200) : mayB (.mk 6 0 0 0 0 [a]) = mayB a := by
  unfold mayB
  have e1 : (Re.mk 6 0 0 0 0 [a]).sz = 1 + a.sz := by simp [Re.sz, Re.szs]
  have e2 : (Re.mk 6 0 0 0 0 [a]).nodesOk = a.nodesOk := by
    rw [Re.nodesOk, Re.nodesOks, Re.nodesOks]
    simp [Re.nodeOk]
  rw [e1, e2, decide_eq_true (by omega : 1 + a.sz ≤ 2000), decide_eq_true (by omega : a.sz ≤ 2000)]
theorem parts_both (a b : Re) (ha : a.sz ≤ 200) (hb : b.sz ≤ 200) (s : ByteArray) : fitB (.mk 4 0 0 0 0 [a, b]) s = (bothG a b s (s.size + 1) && mayB a && mayB b) := by
  rw [Bool.eq_iff_iff, fitB_iff, may_4 a b ha hb, mt_4]
  simp only [Bool.and_eq_true]
  have hG : bothG a b s (s.size + 1) = true ↔ ∃ i, i ≤ s.size ∧ (mayB a = true ∧ a.mt s 0 i) ∧ (mayB b = true ∧ b.mt s i s.size) := by
    unfold bothG
    rw [List.any_eq_true]
    constructor
    · rintro ⟨i, hi, h⟩
      have hi : i ≤ s.size := by have := List.mem_range.1 hi; omega
      rw [Bool.and_eq_true, fit_pre hi, fit_sub hi] at h
      exact ⟨i, hi, h⟩
    · rintro ⟨i, hi, h⟩
      refine ⟨i, List.mem_range.2 (by omega), ?_⟩
      rw [Bool.and_eq_true, fit_pre hi, fit_sub hi]
      exact h
  rw [hG]
  constructor
  · rintro ⟨⟨h1, h2⟩, m, h3, h4⟩
    exact ⟨⟨⟨m, (mt_le b (mayB_ok h2) _ _ h4).1, ⟨h1, h3⟩, h2, h4⟩, h1⟩, h2⟩
  · rintro ⟨⟨⟨m, _, ⟨_, h3⟩, _, h4⟩, h1⟩, h2⟩
    exact ⟨⟨h1, h2⟩, m, h3, h4⟩
theorem parts_many (a : Re) (ha : a.sz ≤ 200) (s : ByteArray) : fitB (.mk 6 0 0 0 0 [a]) s = (manyG a (.mk 6 0 0 0 0 [a]) s (s.size + 1) && mayB (.mk 6 0 0 0 0 [a])) := by
  rw [Bool.eq_iff_iff, Bool.and_eq_true, fitB_iff]
  have hG : manyG a (.mk 6 0 0 0 0 [a]) s (s.size + 1) = true ↔ s.size = 0 ∨ ∃ i, i ≤ s.size ∧ (mayB a = true ∧ a.mt s 0 i) ∧ 0 < i ∧ (mayB (.mk 6 0 0 0 0 [a]) = true ∧ (Re.mk 6 0 0 0 0 [a]).mt s i s.size) := by
    unfold manyG
    rw [Bool.or_eq_true, decide_eq_true_eq, List.any_eq_true]
    refine or_congr Iff.rfl ?_
    constructor
    · rintro ⟨i, hi, h⟩
      have hi : i ≤ s.size := by have := List.mem_range.1 hi; omega
      rw [Bool.and_eq_true, Bool.and_eq_true, fit_pre hi, fit_sub hi, decide_eq_true_eq] at h
      exact ⟨i, hi, h.1.1, h.1.2, h.2⟩
    · rintro ⟨i, hi, h1, h2, h3⟩
      refine ⟨i, List.mem_range.2 (by omega), ?_⟩
      rw [Bool.and_eq_true, Bool.and_eq_true, fit_pre hi, fit_sub hi, decide_eq_true_eq]
      exact ⟨⟨h1, h2⟩, h3⟩
  rw [hG]
  constructor
  · rintro ⟨h1, h2⟩
    refine ⟨?_, h1⟩
    have hma : mayB a = true := by rw [may_6 a ha] at h1; exact h1
    rcases (mt_6.1 h2).head with h | ⟨m, h3, h4, h5⟩
    · exact .inl h.symm
    · refine .inr ⟨m, ?_, ⟨hma, h4⟩, by omega, h1, mt_6.2 h5⟩
      exact (mt_le _ (mayB_ok h1) _ _ (mt_6.2 h5)).1
  · rintro ⟨h | ⟨i, _, ⟨_, h3⟩, _, _, h4⟩, h1⟩
    · refine ⟨h1, mt_6.2 ?_⟩
      rw [h]; exact .refl 0
    · exact ⟨h1, mt_6.2 (StarR.cons h3 (mt_6.1 h4))⟩

set_option maxHeartbeats 4000000 in
theorem matchParts (a b : Re) (hza : a.sz ≤ 1048576) (hzb : b.sz ≤ 1048576) (hwa : a.wd) (hwb : b.wd) (s : ByteArray) : AP Try.prog 11 [.agg a.c, .agg b.c, .s s] (.b true) := by
  refine AC.lbody hT hm Try.func11 f11_nm f11_lc f11_res f11_nt ?_
  simp only [go_sem, Int.reduceEq, Int.reduceLE, Int.reduceLT, Int.reduceToNat]
  refine (great 40 a).pv ⟨.same (Re.d_bl _), .v, trivial⟩ ?_
  by_cases hga : 40 < a.cnt 40
  · simp only [go_sem, Int.reduceEq, Int.reduceLE, Int.reduceLT, Int.reduceToNat, hga]
    refine awake10.pv trivial ?_
    simp only [go_sem, Int.reduceEq, Int.reduceLE, Int.reduceLT, Int.reduceToNat]
    exact Fin.v rfl
  simp only [go_sem, Int.reduceEq, Int.reduceLE, Int.reduceLT, Int.reduceToNat, hga]
  refine (great 40 b).pv ⟨.same (Re.d_bl _), .v, trivial⟩ ?_
  by_cases hgb : 40 < b.cnt 40
  · simp only [go_sem, Int.reduceEq, Int.reduceLE, Int.reduceLT, Int.reduceToNat, hgb]
    refine awake10.pv trivial ?_
    simp only [go_sem, Int.reduceEq, Int.reduceLE, Int.reduceLT, Int.reduceToNat]
    exact Fin.v rfl
  simp only [go_sem, Int.reduceEq, Int.reduceLE, Int.reduceLT, Int.reduceToNat, hgb]
  by_cases hs : (12 : Int) < s.size
  · simp only [go_sem, Int.reduceEq, Int.reduceLE, Int.reduceLT, Int.reduceToNat, hs]
    refine awake10.pv trivial ?_
    simp only [go_sem, Int.reduceEq, Int.reduceLE, Int.reduceLT, Int.reduceToNat]
    exact Fin.v rfl
  have ea := cnt_sz 40 (by omega) a (by omega) (by omega)
  have eb := cnt_sz 40 (by omega) b (by omega) (by omega)
  have sa : a.sz ≤ 40 := by omega
  have sb : b.sz ≤ 40 := by omega
  simp only [go_sem, Int.reduceEq, Int.reduceLE, Int.reduceLT, Int.reduceToNat, hs]
  refine (many a).pd ⟨.same (Re.d_bl _), trivial⟩ (Re.d_bl _) ?_
  simp only [go_sem, Int.reduceEq, Int.reduceLE, Int.reduceLT, Int.reduceToNat]
  have hq : ∀ (om : List Ob) (F : Nat → Bool) (ks : List (Option Nat)) (r : Re), Cv om F ks (.pel r.c) (.pel r.c) := fun om F ks r => .same (.pel (by simp))
  generalize hC : Re.mk 6 0 0 0 0 [a] = c
  have hwc : c.wd := by rw [← hC, Re.wd, Re.wds, Re.wds]; exact ⟨⟨[0, 0, 0, 0], rfl, rfl, by decide⟩, hwa, trivial⟩
  have hm0 : manyG a c s 0 = s.data.isEmpty := by
    rw [Bool.eq_iff_iff]
    simp only [manyG, List.range_zero, List.any_nil, Bool.or_false, decide_eq_true_eq, Array.isEmpty_iff_size_eq_zero]
    exact Iff.rfl
  have hcc : c.c = [.v (.int .u8 6), .v (.int .u64 0), .v (.int .u64 0), .v (.int .u64 0), .v (.int .u64 0), .sl 6 [a.c]] := by rw [← hC]; simp [Re.c_mk, Re.cs_eq]
  have hzc : c.sz = 1 + a.sz := by rw [← hC]; simp [Re.sz, Re.szs]
  refine xl_loopM hT hm (fun i : Nat => ⟨f11_i11 (.s s) (.pel a.c) (.pel b.c) (.b (bothG a b s i)) (.b (manyG a c s i)) (.pel c.c) (.i i), []⟩)
    (fun i => i ≤ s.size + 1) (fun i => s.size + 1 - i) 0 (Nat.zero_le _) ?_ ?_
  · refine Mv.of [] rfl trivial ?_
    have hz : Cv [Ob.var 28 c.c] (kF []) [] (.ref 0 0) (.pel c.c) := .frvS0 rfl rfl (by simp)
    have hqc := hq [Ob.var 28 c.c] (kF []) [] c
    rw [hcc] at hz hqc ⊢
    rw [hm0]
    simp [f11_i11, hq, hz, bothG]
    trace_state
  intro i hi
  simp only [go_sem, Int.reduceEq, Int.reduceLE, Int.reduceLT, Int.reduceToNat]
  by_cases h : (i : Int) ≤ s.size
  case neg =>
    obtain rfl : i = s.size + 1 := by omega
    have hf : decide (s.size + 1 ≤ s.size) = false := decide_eq_false (by omega)
    simp only [go_sem, Int.reduceEq, Int.reduceLE, Int.reduceLT, Int.reduceToNat, hf]
    have mc := rMay c (by omega)
    have ma := rMay a (by omega)
    have mb := rMay b (by omega)
    have w4 : (Re.mk 4 0 0 0 0 [a, b]).wd := by rw [Re.wd, Re.wds, Re.wds, Re.wds]; exact ⟨⟨[0, 0, 0, 0], rfl, rfl, by decide⟩, hwa, hwb, trivial⟩
    have z4 : (Re.mk 4 0 0 0 0 [a, b]).sz = 1 + (a.sz + b.sz) := by simp [Re.sz, Re.szs]
    have k1 := mFits_1 (Re.mk 4 0 0 0 0 [a, b]) (by omega) w4 s (by omega)
    have k2 := mFits_1 c (by omega) hwc s (by omega)
    rw [parts_both a b (by omega) (by omega)] at k1
    have pm := parts_many a (by omega) s
    rw [hC] at pm
    rw [pm] at k2
    generalize manyG a c s (s.size + 1) = q at k2 ⊢
    generalize bothG a b s (s.size + 1) = p at k1 ⊢
    generalize mayB a = x at ma k1
    generalize mayB b = y at mb k1
    generalize mayB c = z at mc k2
    have tail : ∀ (d : D) (K : D → Prop), True := fun _ _ => trivial
    clear tail
    cases q
    all_goals
      simp only [go_sem, Int.reduceEq, Int.reduceLE, Int.reduceLT, Int.reduceToNat]
    case' true =>
      refine mc.pv ⟨.same (Re.d_bl _), trivial⟩ ?_
      simp only [go_sem, Int.reduceEq, Int.reduceLE, Int.reduceLT, Int.reduceToNat]
    all_goals
      refine (mkTwo 4 a b).pd ⟨.v, .same (Re.d_bl _), .same (Re.d_bl _), trivial⟩ (Re.d_bl _) ?_
      simp only [go_sem, Int.reduceEq, Int.reduceLE, Int.reduceLT, Int.reduceToNat]
      refine k1.pv ⟨.eq (by simp [Re.c_mk, Re.cs_eq]) (by simp), .same (by simp), trivial⟩ ?_
      cases p
      all_goals simp only [go_sem, Int.reduceEq, Int.reduceLE, Int.reduceLT, Int.reduceToNat, Bool.false_and, Bool.true_and, beq_self_eq_true] at k2 ⊢
    case' true.true =>
      refine ma.pv ⟨.same (Re.d_bl _), trivial⟩ ?_
      cases x
      all_goals simp only [go_sem, Int.reduceEq, Int.reduceLE, Int.reduceLT, Int.reduceToNat, Bool.false_and, Bool.true_and, beq_self_eq_true]
      case' true =>
        refine mb.pv ⟨.same (Re.d_bl _), trivial⟩ ?_
        simp only [go_sem, Int.reduceEq, Int.reduceLE, Int.reduceLT, Int.reduceToNat, Bool.false_and, Bool.true_and, beq_self_eq_true]
    case' false.true =>
      refine ma.pv ⟨.same (Re.d_bl _), trivial⟩ ?_
      cases x
      all_goals simp only [go_sem, Int.reduceEq, Int.reduceLE, Int.reduceLT, Int.reduceToNat, Bool.false_and, Bool.true_and, beq_self_eq_true]
      case' true =>
        refine mb.pv ⟨.same (Re.d_bl _), trivial⟩ ?_
        simp only [go_sem, Int.reduceEq, Int.reduceLE, Int.reduceLT, Int.reduceToNat, Bool.false_and, Bool.true_and, beq_self_eq_true]
    all_goals
      refine k2.pv ⟨.same (Re.d_bl _), .same (by simp), trivial⟩ ?_
      simp only [go_sem, Int.reduceEq, Int.reduceLE, Int.reduceLT, Int.reduceToNat, beq_self_eq_true]
      refine awake10.pv trivial ?_
      simp only [go_sem, Int.reduceEq, Int.reduceLE, Int.reduceLT, Int.reduceToNat]
      exact Fin.v rfl
  have hi' : i ≤ s.size := by omega
  have f1 := rFits a (by omega) hwa (s.extract 0 i) (by rw [pre_size hi']; omega)
  have f2 := rFits b (by omega) hwb (s.extract i s.size) (by rw [sub_size hi']; omega)
  have f3 := rFits c (by omega) hwc (s.extract i s.size) (by rw [sub_size hi']; omega)
  have st1 := bothG_step a b s i
  have st2 := manyG_step a c s i
  have hwi := wrap_succ i (by omega)
  generalize bothG a b s i = p at st1 ⊢
  generalize manyG a c s i = q at st2 ⊢
  generalize fitB a (s.extract 0 i) = x at f1 st1 st2
  generalize fitB b (s.extract i s.size) = y at f2 st1
  generalize fitB c (s.extract i s.size) = z at f3 st2
  simp only [go_sem, Int.reduceEq, Int.reduceLE, Int.reduceLT, Int.reduceToNat, h, hi', Nat.zero_le, Nat.le_refl]
  refine f1.pv ⟨.same (Re.d_bl _), .v, trivial⟩ ?_
  have g0 : decide ((0 : Int) < i) = decide (0 < i) := by simp
  have last : ∀ u v, u = bothG a b s (i + 1) → v = manyG a c s (i + 1) → ∀ d28 : D, True := fun _ _ _ _ _ => trivial
  clear last
  cases p <;> cases x
  · simp only [go_sem, Int.reduceEq, Int.reduceLE, Int.reduceLT, Int.reduceToNat, Bool.false_or, Bool.false_and, Bool.true_or, Bool.true_and] at st1 st2 ⊢
    cases q
    · simp only [go_sem, Int.reduceEq, Int.reduceLE, Int.reduceLT, Int.reduceToNat, Bool.false_or, Bool.true_or, Bool.false_and, Bool.and_false] at st1 st2 ⊢
      refine ⟨i + 1, by omega, by omega, ?_⟩
      rw [st1, st2, hwi]
      exact Mv.none (by simp [f11_i11, hq])
    · simp only [go_sem, Int.reduceEq, Int.reduceLE, Int.reduceLT, Int.reduceToNat, Bool.false_or, Bool.true_or, Bool.false_and, Bool.and_false] at st1 st2 ⊢
      refine ⟨i + 1, by omega, by omega, ?_⟩
      rw [st1, st2, hwi]
      exact Mv.none (by simp [f11_i11, hq])
  · simp only [go_sem, Int.reduceEq, Int.reduceLE, Int.reduceLT, Int.reduceToNat, Bool.false_or, Bool.false_and, Bool.true_or, Bool.true_and, hi', Nat.le_refl] at st1 st2 ⊢
    refine f2.pv ⟨.same (Re.d_bl _), .v, trivial⟩ ?_
    simp only [go_sem, Int.reduceEq, Int.reduceLE, Int.reduceLT, Int.reduceToNat]
    cases q
    · by_cases hi0 : 0 < i
      · simp only [go_sem, Int.reduceEq, Int.reduceLE, Int.reduceLT, Int.reduceToNat, hi0, g0, hi', Nat.le_refl] at st2 ⊢
        refine f3.pv ⟨.same (Re.d_bl _), .v, trivial⟩ ?_
        simp only [go_sem, Int.reduceEq, Int.reduceLE, Int.reduceLT, Int.reduceToNat, Bool.false_or, Bool.true_or, Bool.true_and, decide_true] at st1 st2 ⊢
        refine ⟨i + 1, by omega, by omega, ?_⟩
        rw [st1, st2, hwi]
        exact Mv.none (by simp [f11_i11, hq])
      · simp only [go_sem, Int.reduceEq, Int.reduceLE, Int.reduceLT, Int.reduceToNat, hi0, g0, Bool.false_or, Bool.true_or, Bool.false_and, Bool.and_false] at st1 st2 ⊢
        refine ⟨i + 1, by omega, by omega, ?_⟩
        rw [st1, st2, hwi]
        exact Mv.none (by simp [f11_i11, hq])
    · simp only [go_sem, Int.reduceEq, Int.reduceLE, Int.reduceLT, Int.reduceToNat, Bool.false_or, Bool.true_or, Bool.false_and, Bool.and_false] at st1 st2 ⊢
      refine ⟨i + 1, by omega, by omega, ?_⟩
      rw [st1, st2, hwi]
      exact Mv.none (by simp [f11_i11, hq])
  · simp only [go_sem, Int.reduceEq, Int.reduceLE, Int.reduceLT, Int.reduceToNat, Bool.false_or, Bool.false_and, Bool.true_or, Bool.true_and] at st1 st2 ⊢
    cases q
    · simp only [go_sem, Int.reduceEq, Int.reduceLE, Int.reduceLT, Int.reduceToNat, Bool.false_or, Bool.true_or, Bool.false_and, Bool.and_false] at st1 st2 ⊢
      refine ⟨i + 1, by omega, by omega, ?_⟩
      rw [st1, st2, hwi]
      exact Mv.none (by simp [f11_i11, hq])
    · simp only [go_sem, Int.reduceEq, Int.reduceLE, Int.reduceLT, Int.reduceToNat, Bool.false_or, Bool.true_or, Bool.false_and, Bool.and_false] at st1 st2 ⊢
      refine ⟨i + 1, by omega, by omega, ?_⟩
      rw [st1, st2, hwi]
      exact Mv.none (by simp [f11_i11, hq])
  · simp only [go_sem, Int.reduceEq, Int.reduceLE, Int.reduceLT, Int.reduceToNat, Bool.false_or, Bool.false_and, Bool.true_or, Bool.true_and] at st1 st2 ⊢
    cases q
    · by_cases hi0 : 0 < i
      · simp only [go_sem, Int.reduceEq, Int.reduceLE, Int.reduceLT, Int.reduceToNat, hi0, g0, hi', Nat.le_refl] at st2 ⊢
        refine f3.pv ⟨.same (Re.d_bl _), .v, trivial⟩ ?_
        simp only [go_sem, Int.reduceEq, Int.reduceLE, Int.reduceLT, Int.reduceToNat, Bool.false_or, Bool.true_or, Bool.true_and, decide_true] at st1 st2 ⊢
        refine ⟨i + 1, by omega, by omega, ?_⟩
        rw [st1, st2, hwi]
        exact Mv.none (by simp [f11_i11, hq])
      · simp only [go_sem, Int.reduceEq, Int.reduceLE, Int.reduceLT, Int.reduceToNat, hi0, g0, Bool.false_or, Bool.true_or, Bool.false_and, Bool.and_false] at st1 st2 ⊢
        refine ⟨i + 1, by omega, by omega, ?_⟩
        rw [st1, st2, hwi]
        exact Mv.none (by simp [f11_i11, hq])
    · simp only [go_sem, Int.reduceEq, Int.reduceLE, Int.reduceLT, Int.reduceToNat, Bool.false_or, Bool.true_or, Bool.false_and, Bool.and_false] at st1 st2 ⊢
      refine ⟨i + 1, by omega, by omega, ?_⟩
      rw [st1, st2, hwi]
      exact Mv.none (by simp [f11_i11, hq])
end Go.Proofs.Yteifkcgokjmcjaa.W
