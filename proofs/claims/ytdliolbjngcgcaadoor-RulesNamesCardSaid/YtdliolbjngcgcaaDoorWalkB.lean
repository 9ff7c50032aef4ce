/- How many rules are read at most. -/
import Derived.Test.YtdliolbjngcgcaaDoorWalkA
import Derived.Test.YtdliolbjngcgcaaDoorMathB
set_option linter.unusedVariables false
set_option linter.unusedSimpArgs false
set_option linter.unusedSectionVars false
set_option maxRecDepth 100000
/- May rules be; their text. -/
namespace Go.Proofs.YtdliolbjngcgcaaDoor.W
open Go Go.Proofs Go.Proofs.YtdliolbjngcgcaaDoor.AWP
attribute [local irreducible] xl hide aop aops aopQ qops guardP condP
/-- May one rule be behind others? -/
def okRl (seen : List Rl) (x : Rl) : Bool := !inB x.1 seen && (nameB x.1 && mayB x.2)
def mayGo : List Rl → List Rl → Bool
  | _, [] => true
  | seen, x :: l => okRl seen x && mayGo (seen ++ [x]) l
def mayRl (l : List Rl) : Bool := mayGo [] l && (decide (1 ≤ l.length) && (decide (l.length ≤ 100) && fewB l))
theorem take_get {α : Type} {l : List α} {i : Nat} {x : α} (h : l[i]? = some x) : l.take (i + 1) = l.take i ++ [x] := by
  rw [List.take_add_one, h]; rfl
theorem mayGo_at {l : List Rl} {i : Nat} {x : Rl} (h : l[i]? = some x) : mayGo (l.take i) (l.drop i) = (okRl (l.take i) x && mayGo (l.take (i + 1)) (l.drop (i + 1))) := by
  rw [drop_get h, take_get h]; rfl
set_option maxHeartbeats 4000000 in
theorem ruleMay (l : List Rl) (hl : l.length ≤ 1000) (hz : ∀ x ∈ l, x.1.size ≤ 1000000 ∧ x.2.sz ≤ 1048576) : AP Tryd.prog 22 [Rls l] (.b (mayRl l)) := by
  have hq : ∀ om (F : Nat → Bool) (ks : List (Option Nat)), Cv om F ks (Rls l) (Rls l) := fun om F ks => .same (Rls_bl l)
  have hF := few l hl fun x hx => (hz x hx).2
  unfold mayRl
  refine AC.lbody hT hm Tryd.func22 f22_nm f22_lc f22_res f22_nt ?_
  simp only [go_sem, Int.reduceEq, Int.reduceLE, Int.reduceLT, Int.reduceToNat, List.length_map]
  refine xl_loopM hT hm (fun i : Nat => ⟨f22_i9 (Rls l) (.own 0) (Rls l) (.i l.length) (.i i), [.mp (metL (l.take i))]⟩)
    (fun i => i ≤ l.length ∧ mayGo [] l = mayGo (l.take i) (l.drop i)) (fun i => l.length - i) 0 ⟨Nat.zero_le _, rfl⟩ ?_ ?_
  · exact Mv.of [some 0] rfl ⟨.mp rfl, trivial⟩ (by simp [f22_i9, hq])
  rintro i ⟨hi, hinv⟩
  simp only [go_sem, Int.reduceEq, Int.reduceLE, Int.reduceLT, Int.reduceToNat, List.length_map]
  by_cases h : i < l.length
  case neg =>
    have e : mayGo [] l = true := by rw [hinv, drop_end h]; rfl
    rw [e]
    by_cases h1 : (1 : Int) ≤ l.length
    case neg =>
      have d1 : decide (1 ≤ l.length) = false := decide_eq_false (by omega)
      rw [d1]
      simp only [go_sem, Int.reduceEq, Int.reduceLE, Int.reduceLT, Int.reduceToNat, h, h1, List.length_map]
      exact Fin.v rfl
    have d1 : decide (1 ≤ l.length) = true := decide_eq_true (by omega)
    rw [d1]
    by_cases h2 : (l.length : Int) ≤ 100
    case neg =>
      have d2 : decide (l.length ≤ 100) = false := decide_eq_false (by omega)
      rw [d2]
      simp only [go_sem, Int.reduceEq, Int.reduceLE, Int.reduceLT, Int.reduceToNat, h, h1, h2, List.length_map]
      exact Fin.v rfl
    have d2 : decide (l.length ≤ 100) = true := decide_eq_true (by omega)
    rw [d2]
    simp only [go_sem, Int.reduceEq, Int.reduceLE, Int.reduceLT, Int.reduceToNat, h, h1, h2, List.length_map]
    refine hF.pv ⟨hq _ _ _, trivial⟩ ?_
    simp only [go_sem, Int.reduceEq, Int.reduceLE, Int.reduceLT, Int.reduceToNat]
    cases fewB l <;> exact Fin.v rfl
  obtain ⟨x, hx⟩ := get_ex h
  have hg := rlR_get hx
  have hm := mayGo_at hx
  have hxz := hz x (List.mem_of_getElem? hx)
  have hM := met_find x.1 (l.take i)
  have hN := numNameS x.1 (by omega)
  have hY := may x.2 (by omega)
  have hlen := rlD_len x
  have hwi := wrap_succ i (by omega)
  unfold okRl at hm
  cases hin : inB x.1 (l.take i) with
  | true =>
    rw [hin, if_pos rfl] at hM
    rw [hin, Bool.not_true, Bool.false_and, Bool.false_and] at hm
    simp only [go_sem, Int.reduceEq, Int.reduceLE, Int.reduceLT, Int.reduceToNat, List.length_map, h, hg, rlD_0, hlen, rlD_take, rl_put, rlD_drop, hM, Option.getD_some, Option.isSome_some]
    refine Fin.v ?_
    rw [hinv, hm]; rfl
  | false =>
  rw [hin, if_neg (by simp)] at hM
  rw [hin, Bool.not_false, Bool.true_and] at hm
  simp only [go_sem, Int.reduceEq, Int.reduceLE, Int.reduceLT, Int.reduceToNat, List.length_map, h, hg, rlD_0, hlen, rlD_take, rl_put, rlD_drop, hM, Option.getD_none, Option.isSome_none]
  refine hN.pv ⟨.same (.sl (by simp)), trivial⟩ ?_
  cases hnb : nameB x.1 with
  | false =>
    rw [hnb, Bool.false_and, Bool.false_and] at hm
    simp only [go_sem, Int.reduceEq, Int.reduceLE, Int.reduceLT, Int.reduceToNat, Bool.not_false]
    refine Fin.v ?_
    rw [hinv, hm]; rfl
  | true =>
  rw [hnb, Bool.true_and] at hm
  simp only [go_sem, Int.reduceEq, Int.reduceLE, Int.reduceLT, Int.reduceToNat, Bool.not_true, rlD_drop]
  refine hY.pv ⟨.same (one_blR x.2), trivial⟩ ?_
  cases hmb : mayB x.2 with
  | false =>
    rw [hmb, Bool.false_and] at hm
    simp only [go_sem, Int.reduceEq, Int.reduceLE, Int.reduceLT, Int.reduceToNat, Bool.not_false]
    refine Fin.v ?_
    rw [hinv, hm]; rfl
  | true =>
  rw [hmb, Bool.true_and] at hm
  simp only [go_sem, Int.reduceEq, Int.reduceLE, Int.reduceLT, Int.reduceToNat, Bool.not_true, hM, rlD_0]
  refine ⟨i + 1, ⟨h, by rw [hinv, hm]⟩, by omega, ?_⟩
  rw [hwi, take_get hx, ← met_app]
  exact Mv.of [some 0] rfl ⟨.mp rfl, trivial⟩ (by simp [hq])
/-- A rule's line; rules' text. -/
def lnT (x : Rl) : List UInt8 := x.1.data.toList ++ 32 :: (x.2.txt ++ [10])
def prT : List Rl → List UInt8
  | [] => []
  | x :: l => lnT x ++ prT l
theorem prT_app : ∀ (a b : List Rl), prT (a ++ b) = prT a ++ prT b
  | [], b => rfl
  | x :: a, b => by rw [List.cons_append, prT, prT, prT_app a b, List.append_assoc]
theorem prT_at {l : List Rl} {i : Nat} {x : Rl} (h : l[i]? = some x) : prT (l.take (i + 1)) = prT (l.take i) ++ lnT x := by
  rw [take_get h, prT_app]; simp [prT]
theorem prT_len : ∀ (l : List Rl) (m : Nat), (∀ x ∈ l, (lnT x).length ≤ m) → (prT l).length ≤ l.length * m
  | [], m, _ => Nat.zero_le _
  | x :: l, m, h => by
    have h1 := h x (by simp)
    have h2 := prT_len l m fun y hy => h y (by simp [hy])
    rw [prT, List.length_append, List.length_cons, Nat.add_mul]
    omega
theorem mayGo_all : ∀ (s l : List Rl), mayGo s l = true → ∀ x ∈ l, nameB x.1 = true ∧ mayB x.2 = true
  | s, y :: l, h, x, hx => by
    rw [mayGo, Bool.and_eq_true] at h
    rcases List.mem_cons.1 hx with rfl | hx
    · have := h.1
      unfold okRl at this
      simp only [Bool.and_eq_true] at this
      exact this.2
    · exact mayGo_all _ l h.2 x hx
theorem mayRl_all {l : List Rl} (h : mayRl l = true) : (∀ x ∈ l, nameB x.1 = true ∧ mayB x.2 = true) ∧ 1 ≤ l.length ∧ l.length ≤ 100 ∧ fewB l = true := by
  unfold mayRl at h
  simp only [Bool.and_eq_true, decide_eq_true_eq] at h
  exact ⟨mayGo_all _ _ h.1, h.2.1, h.2.2.1, h.2.2.2⟩
theorem nameB_size {s : ByteArray} (h : nameB s = true) : 1 ≤ s.size ∧ s.size ≤ 30 := by
  unfold nameB at h
  simp only [Bool.and_eq_true, decide_eq_true_eq] at h
  exact h.2
theorem lnT_len {x : Rl} (hn : nameB x.1 = true) (hm : mayB x.2 = true) : (lnT x).length ≤ 1100000 := by
  have h1 := (nameB_size hn).2
  have h2 := mayZ hm
  have h3 := txt_le x.2 h2.1
  have h4 : x.1.data.toList.length = x.1.size := Array.length_toList
  unfold lnT
  simp only [List.length_append, List.length_cons, List.length_nil]
  omega
theorem lnT_ne (x : Rl) : lnT x ≠ [] := by unfold lnT; simp
theorem ln_eq (x : Rl) : x.1 ++ ⟨#[32]⟩ ++ ⟨x.2.txt.toArray⟩ ++ ⟨#[10]⟩ = (⟨(lnT x).toArray⟩ : ByteArray) := by
  refine ByteArray.ext ?_
  simp [ByteArray.data_append, lnT]
/-- Rules' text, or an error. -/
def prtR (l : List Rl) : List UInt8 × Int :=
  if mayRl l = false then ([], 1) else if 65536 < (prT l).length then ([], 3) else (prT l, 0)
abbrev prtD (x : List UInt8 × Int) : D := .tup [txD x.1, .i x.2]
set_option maxHeartbeats 4000000 in
theorem rulePrint (l : List Rl) (hl : l.length ≤ 1000) (hz : ∀ x ∈ l, x.1.size ≤ 1000000 ∧ x.2.sz ≤ 1048576 ∧ x.2.wd) : AP Tryd.prog 13 [Rls l] (prtD (prtR l)) := by
  have hq : ∀ om (F : Nat → Bool) (ks : List (Option Nat)), Cv om F ks (Rls l) (Rls l) := fun om F ks => .same (Rls_bl l)
  have hM := ruleMay l hl fun x hx => ⟨(hz x hx).1, (hz x hx).2.1⟩
  unfold prtR
  refine AC.lbody hT hm Tryd.func13 f13_nm f13_lc f13_res f13_nt ?_
  simp only [go_sem, Int.reduceEq, Int.reduceLE, Int.reduceLT, Int.reduceToNat]
  refine hM.pv ⟨hq _ _ _, trivial⟩ ?_
  cases hmay : mayRl l with
  | false =>
    rw [if_pos rfl]
    simp only [go_sem, Int.reduceEq, Int.reduceLE, Int.reduceLT, Int.reduceToNat, Bool.not_false]
    exact Fin.ret (.tupL (by simp))
  | true =>
  rw [if_neg (by simp)]
  obtain ⟨hA, hl1, hl2, _⟩ := mayRl_all hmay
  simp only [go_sem, Int.reduceEq, Int.reduceLE, Int.reduceLT, Int.reduceToNat, Bool.not_true, List.length_map]
  have hbd : ∀ i, (prT (l.take i)).length ≤ 110000000 := fun i => by
    have := prT_len (l.take i) 1100000 fun x hx => lnT_len (hA x (List.mem_of_mem_take hx)).1 (hA x (List.mem_of_mem_take hx)).2
    have h2 : (l.take i).length ≤ 100 := by rw [List.length_take]; omega
    have h3 : (l.take i).length * 1100000 ≤ 100 * 1100000 := Nat.mul_le_mul_right _ h2
    omega
  refine xl_loopM hT hm (fun i : Nat × List Ob × List Ob => ⟨f13_i9 (.ref 0 0) (Rls l) (.i l.length) (.i i.1), i.2.2⟩)
    (fun i => i.1 ≤ l.length ∧ bS 65 [] (prT (l.take i.1)) i.2.1 i.2.2) (fun i => l.length - i.1) (0, [], _) ⟨Nat.zero_le _, .inl ⟨rfl, rfl⟩⟩ (Mv.keep (by simp [f13_i9])) ?_
  rintro ⟨i, R, om⟩ ⟨hi, hB⟩
  simp only at hi hB
  simp only [go_sem, Int.reduceEq, Int.reduceLE, Int.reduceLT, Int.reduceToNat, List.length_map]
  by_cases h : i < l.length
  case neg =>
    have ht : l.take i = l := List.take_of_length_le (by omega)
    rw [ht] at hB
    simp only [go_sem, Int.reduceEq, Int.reduceLE, Int.reduceLT, Int.reduceToNat, h]
    refine ⟨_, lenG [] (prT l) R om hB, ?_⟩
    rintro _ _ ⟨rfl, rfl⟩
    by_cases hlen : 65536 < (prT l).length
    · rw [if_pos hlen]
      have hlen' : (65536 : Int) < ((prT l).length : Nat) := by omega
      simp only [go_sem, Int.reduceEq, Int.reduceLE, Int.reduceLT, Int.reduceToNat, hlen']
      exact Fin.ret (.tupL (by simp))
    · rw [if_neg hlen]
      have hlen' : ¬ (65536 : Int) < ((prT l).length : Nat) := by omega
      simp only [go_sem, Int.reduceEq, Int.reduceLE, Int.reduceLT, Int.reduceToNat, hlen']
      refine ⟨_, strOfG [] (prT l) R _ hB ?_, ?_⟩
      · obtain ⟨x, l', rfl⟩ : ∃ x l', l = x :: l' := by
          cases l with
          | nil => simp at hl1
          | cons x l' => exact ⟨x, l', rfl⟩
        rw [prT]
        exact fun h => lnT_ne x (List.append_eq_nil_iff.1 h).1
      rintro _ om' rfl
      simp only [go_sem, Int.reduceEq, Int.reduceLE, Int.reduceLT, Int.reduceToNat]
      exact Fin.ret (.tupL ⟨.v, .v, trivial⟩)
  obtain ⟨x, hx⟩ := get_ex h
  have hg := rlR_get hx
  have hAx := hA x (List.mem_of_getElem? hx)
  have hzx := hz x (List.mem_of_getElem? hx)
  have hS := showText x.2 hzx.2.1 hzx.2.2
  have hsT : shT x.2 = x.2.txt := by unfold shT; rw [hAx.2]; rfl
  rw [hsT] at hS
  have hlen := rlD_len x
  have hwi := wrap_succ i (by omega)
  have hlx := lnT_len hAx.1 hAx.2
  have hnz := nameB_size hAx.1
  have htz : x.2.txt.length ≤ 1100000 := by
    have h2 := mayZ hAx.2
    have h3 := txt_le x.2 h2.1
    omega
  have hs1 : x.1.size ≤ 9223372036854775806 := by omega
  have hs2 : x.1.size + 1 + x.2.txt.length ≤ 9223372036854775807 := by omega
  have hs3 : x.1.size + 1 + x.2.txt.length ≤ 9223372036854775806 := by omega
  have hbi := hbd i
  simp only [go_sem, Int.reduceEq, Int.reduceLE, Int.reduceLT, Int.reduceToNat, List.length_map, h, hg, hlen, rlD_take, get_con, set_con, rl_put, rlD_0, rlD_drop, hs1]
  refine hS.qv ⟨.same (Re.d_bl _), trivial⟩ ?_
  simp only [go_sem, Int.reduceEq, Int.reduceLE, Int.reduceLT, Int.reduceToNat, hs2, hs3, ln_eq]
  have hB' : bS 65 [] (prT (l.take i)) (R ++ [.var 39 (rlD x)]) (om ++ [.var 39 (rlD x)]) := by
    rcases hB with ⟨h1, rfl⟩ | ⟨j, h1, rfl⟩
    · exact .inl ⟨h1, rfl⟩
    · exact .inr ⟨j, by rw [List.getElem?_append_left (List.getElem?_eq_some_iff.1 h1).1]; exact h1, rfl⟩
  refine ⟨_, wrStrG [] bldN (prT (l.take i)) (lnT x) _ _ hB' (by omega) (by omega), ?_⟩
  intro o om' hw
  obtain ⟨rfl, R', hB2⟩ := hw.bS
  rw [← prT_at hx] at hB2
  simp only [go_sem, Int.reduceEq, Int.reduceLE, Int.reduceLT, Int.reduceToNat]
  refine ⟨(i + 1, R', om'), ⟨h, hB2⟩, by simp only; omega, ?_⟩
  dsimp only
  rw [hwi]
  exact Mv.keep (by simp)
end Go.Proofs.YtdliolbjngcgcaaDoor.W
set_option maxRecDepth 100000
/- The document's example; names; how many rules at most. -/
namespace Go.Proofs.YtdliolbjngcgcaaDoor.W
open Go Go.Proofs Go.Proofs.YtdliolbjngcgcaaDoor.AWP
attribute [local irreducible] xl hide aop aops aopQ qops guardP condP
def s19 : ByteArray := ⟨#[105, 100, 32, 91, 97, 45, 122, 93, 91, 97, 45, 122, 93, 42, 10]⟩
def ruleQ (x : Rl) : Bool := decide (x.1.size ≤ 30) && (decide (x.2.sz ≤ 20) && wdQ x.2)
set_option maxHeartbeats 1000000 in
theorem awake19 : AP Tryd.prog 6 [] (.b true) := by
  have e1 : (readR s19).2 = (0, 0) := by decide +kernel
  have e2 : prtR (readR s19).1 = ([105, 100, 32, 91, 97, 45, 122, 93, 91, 97, 45, 122, 93, 42, 10], 0) := by decide +kernel
  have e3 : (readR s19).1.all ruleQ = true := by decide +kernel
  have e4 : (readR s19).1.length ≤ 1 := by decide +kernel
  have hR := ruleRead s19
  have hP := rulePrint (readR s19).1 (by omega) fun x hx => by
    have := List.all_eq_true.1 e3 x hx
    unfold ruleQ at this
    simp only [Bool.and_eq_true, decide_eq_true_eq] at this
    exact ⟨by omega, by omega, wdQ_ok _ this.2.2⟩
  rw [e2] at hP
  have hs : D.s ⟨#[105, 100, 32, 91, 97, 45, 122, 93, 91, 97, 45, 122, 93, 42, 10]⟩ = D.s s19 := rfl
  generalize readR s19 = p at *
  obtain ⟨l, a, b⟩ := p
  cases e1
  have c1 : (((0 : Nat) : Int) == 0) = true := rfl
  refine AC.lbody hT hm Tryd.func6 f6_nm f6_lc f6_res f6_nt ?_
  simp only [go_sem, Int.reduceEq, Int.reduceLE, Int.reduceLT, Int.reduceToNat]
  refine hR.pd ⟨.v, trivial⟩ (readD_bl _) ?_
  simp only [go_sem, Int.reduceEq, Int.reduceLE, Int.reduceLT, Int.reduceToNat]
  refine hP.pd ⟨.same (Rls_bl _), trivial⟩ (.tup (by simp)) ?_
  simp only [go_sem, Int.reduceEq, Int.reduceLE, Int.reduceLT, Int.reduceToNat, c1]
  exact Fin.v rfl
theorem strs_get {l : List ByteArray} {i : Nat} {s : ByteArray} (h : l[i]? = some s) : (l.map fun x => [D.s x])[i]? = some [.s s] := by rw [List.getElem?_map, h]; rfl
set_option maxHeartbeats 1000000 in
theorem rulesNames (l : List Rl) : AP Tryd.prog 4 [Rls l] (.b true) := by
  have hq : ∀ om (F : Nat → Bool) (ks : List (Option Nat)), Cv om F ks (Rls l) (Rls l) := fun om F ks => .same (Rls_bl l)
  have hG := great19 l
  refine AC.lbody hT hm Tryd.func4 f4_nm f4_lc f4_res f4_nt ?_
  simp only [go_sem, Int.reduceEq, Int.reduceLE, Int.reduceLT, Int.reduceToNat]
  refine hG.pv ⟨hq _ _ _, trivial⟩ ?_
  cases hg : great19B l with
  | true =>
    simp only [go_sem, Int.reduceEq, Int.reduceLE, Int.reduceLT, Int.reduceToNat]
    refine awake19.pv trivial ?_
    simp only [go_sem, Int.reduceEq, Int.reduceLE, Int.reduceLT, Int.reduceToNat]
    exact Fin.v rfl
  | false =>
  have hl : l.length ≤ 20 := by
    unfold great19B at hg
    simp only [Bool.or_eq_false_iff, decide_eq_false_iff_not] at hg
    omega
  have hN := ruleNames l (by omega)
  have c0 : ((l.length : Int) != (l.length : Int)) = false := by simp
  simp only [go_sem, Int.reduceEq, Int.reduceLE, Int.reduceLT, Int.reduceToNat]
  refine hN.pd ⟨hq _ _ _, trivial⟩ (Strs_bl _) ?_
  simp only [go_sem, Int.reduceEq, Int.reduceLE, Int.reduceLT, Int.reduceToNat, List.length_map, c0]
  have hq2 : ∀ om (F : Nat → Bool) (ks : List (Option Nat)), Cv om F ks (Strs (l.map (·.1))) (Strs (l.map (·.1))) := fun om F ks => .same (Strs_bl _)
  refine xl_loopM hT hm (fun i : Nat => ⟨f4_i11 (Rls l) (Strs (l.map (·.1))) (.i i), []⟩)
    (fun i => i ≤ l.length) (fun i => l.length - i) 0 (Nat.zero_le _) (Mv.none (by simp only [f4_i11, CvL]; simp [hq, hq2])) ?_
  intro i hi
  simp only [go_sem, Int.reduceEq, Int.reduceLE, Int.reduceLT, Int.reduceToNat, List.length_map]
  by_cases h : i < l.length
  case neg =>
    simp only [go_sem, Int.reduceEq, Int.reduceLE, Int.reduceLT, Int.reduceToNat, h]
    refine awake19.pv trivial ?_
    simp only [go_sem, Int.reduceEq, Int.reduceLE, Int.reduceLT, Int.reduceToNat]
    exact Fin.v rfl
  obtain ⟨x, hx⟩ := get_ex h
  have hg := rlR_get hx
  have hg2 := strs_get (l := l.map (·.1)) (show (l.map (·.1))[i]? = some x.1 by rw [List.getElem?_map, hx]; rfl)
  have hwi := wrap_succ i (by omega)
  have c1 : (x.1.data.toList != x.1.data.toList) = false := by simp
  simp only [go_sem, Int.reduceEq, Int.reduceLE, Int.reduceLT, Int.reduceToNat, List.length_map, h, hg, hg2, rlD_0, c1]
  refine ⟨i + 1, h, by omega, ?_⟩
  rw [hwi]
  exact Mv.none (by simp only [CvL]; simp [hq, hq2])
end Go.Proofs.YtdliolbjngcgcaaDoor.W
set_option maxRecDepth 100000
/- How many rules are read at most. -/
namespace Go.Proofs.YtdliolbjngcgcaaDoor.W
open Go Go.Proofs Go.Proofs.YtdliolbjngcgcaaDoor.AWP
attribute [local irreducible] xl hide aop aops aopQ qops guardP condP
end Go.Proofs.YtdliolbjngcgcaaDoor.W
