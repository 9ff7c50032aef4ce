/- How many rules are read at most. -/
import Derived.Test.YtdliolbjngcgcaaDoorWalkA
import Derived.Test.YtdliolbjngcgcaaDoorMathB
set_option linter.unusedVariables false
set_option linter.unusedSimpArgs false
set_option linter.unusedSectionVars false
set_option maxRecDepth 100000
/- May rules be; their text. -/
namespace Go.Proofs.YtdliolbjngcgcaaDoor.W
open Go Go.Proofs Go.Proofs.YtdliolbjngcgcaaDoor.AWP
attribute [local irreducible] xl hide aop aops aopQ qops guardP condP
/-- May one rule be behind others? -/
def okRl (seen : List Rl) (x : Rl) : Bool := !inB x.1 seen && (nameB x.1 && mayB x.2)
def mayGo : List Rl → List Rl → Bool
  | _, [] => true
  | seen, x :: l => okRl seen x && mayGo (seen ++ [x]) l
def mayRl (l : List Rl) : Bool := mayGo [] l && (decide (1 ≤ l.length) && (decide (l.length ≤ 100) && fewB l))
theorem take_get {α : Type} {l : List α} {i : Nat} {x : α} (h : l[i]? = some x) : l.take (i + 1) = l.take i ++ [x] := by
  rw [List.take_add_one, h]; rfl
theorem mayGo_at {l : List Rl} {i : Nat} {x : Rl} (h : l[i]? = some x) : mayGo (l.take i) (l.drop i) = (okRl (l.take i) x && mayGo (l.take (i + 1)) (l.drop (i + 1))) := by
  rw [drop_get h, take_get h]; rfl
set_option maxHeartbeats 4000000 in
theorem ruleMay (l : List Rl) (hl : l.length ≤ 1000) (hz : ∀ x ∈ l, x.1.size ≤ 1000000 ∧ x.2.sz ≤ 1048576) : AP Tryd.prog 22 [Rls l] (.b (mayRl l)) := by
  have hq : ∀ om (F : Nat → Bool) (ks : List (Option Nat)), Cv om F ks (Rls l) (Rls l) := fun om F ks => .same (Rls_bl l)
  have hF := few l hl fun x hx => (hz x hx).2
  unfold mayRl
  refine AC.lbody hT hm Tryd.func22 f22_nm f22_lc f22_res f22_nt ?_
  simp only [go_sem, Int.reduceEq, Int.reduceLE, Int.reduceLT, Int.reduceToNat, List.length_map]
  refine xl_loopM hT hm (fun i : Nat => ⟨f22_i9 (Rls l) (.own 0) (Rls l) (.i l.length) (.i i), [.mp (metL (l.take i))]⟩)
    (fun i => i ≤ l.length ∧ mayGo [] l = mayGo (l.take i) (l.drop i)) (fun i => l.length - i) 0 ⟨Nat.zero_le _, rfl⟩ ?_ ?_
  · exact Mv.of [some 0] rfl ⟨.mp rfl, trivial⟩ (by simp [f22_i9, hq])
  rintro i ⟨hi, hinv⟩
  simp only [go_sem, Int.reduceEq, Int.reduceLE, Int.reduceLT, Int.reduceToNat, List.length_map]
  by_cases h : i < l.length
  case neg =>
    have e : mayGo [] l = true := by rw [hinv, drop_end h]; rfl
    rw [e]
    by_cases h1 : (1 : Int) ≤ l.length
    case neg =>
      have d1 : decide (1 ≤ l.length) = false := decide_eq_false (by omega)
      rw [d1]
      simp only [go_sem, Int.reduceEq, Int.reduceLE, Int.reduceLT, Int.reduceToNat, h, h1, List.length_map]
      exact Fin.v rfl
    have d1 : decide (1 ≤ l.length) = true := decide_eq_true (by omega)
    rw [d1]
    by_cases h2 : (l.length : Int) ≤ 100
    case neg =>
      have d2 : decide (l.length ≤ 100) = false := decide_eq_false (by omega)
      rw [d2]
      simp only [go_sem, Int.reduceEq, Int.reduceLE, Int.reduceLT, Int.reduceToNat, h, h1, h2, List.length_map]
      exact Fin.v rfl
    have d2 : decide (l.length ≤ 100) = true := decide_eq_true (by omega)
    rw [d2]
    simp only [go_sem, Int.reduceEq, Int.reduceLE, Int.reduceLT, Int.reduceToNat, h, h1, h2, List.length_map]
    refine hF.pv ⟨hq _ _ _, trivial⟩ ?_
    simp only [go_sem, Int.reduceEq, Int.reduceLE, Int.reduceLT, Int.reduceToNat]
    cases fewB l <;> exact Fin.v rfl
  obtain ⟨x, hx⟩ := get_ex h
  have hg := rlR_get hx
  have hm := mayGo_at hx
  have hxz := hz x (List.mem_of_getElem? hx)
  have hM := met_find x.1 (l.take i)
  have hN := numNameS x.1 (by omega)
  have hY := may x.2 (by omega)
  have hlen := rlD_len x
  have hwi := wrap_succ i (by omega)
  unfold okRl at hm
  cases hin : inB x.1 (l.take i) with
  | true =>
    rw [hin, if_pos rfl] at hM
    rw [hin, Bool.not_true, Bool.false_and, Bool.false_and] at hm
    simp only [go_sem, Int.reduceEq, Int.reduceLE, Int.reduceLT, Int.reduceToNat, List.length_map, h, hg, rlD_0, hlen, rlD_take, rl_put, rlD_drop, hM, Option.getD_some, Option.isSome_some]
    refine Fin.v ?_
    rw [hinv, hm]; rfl
  | false =>
  rw [hin, if_neg (by simp)] at hM
  rw [hin, Bool.not_false, Bool.true_and] at hm
  simp only [go_sem, Int.reduceEq, Int.reduceLE, Int.reduceLT, Int.reduceToNat, List.length_map, h, hg, rlD_0, hlen, rlD_take, rl_put, rlD_drop, hM, Option.getD_none, Option.isSome_none]
  refine hN.pv ⟨.same (.sl (by simp)), trivial⟩ ?_
  cases hnb : nameB x.1 with
  | false =>
    rw [hnb, Bool.false_and, Bool.false_and] at hm
    simp only [go_sem, Int.reduceEq, Int.reduceLE, Int.reduceLT, Int.reduceToNat, Bool.not_false]
    refine Fin.v ?_
    rw [hinv, hm]; rfl
  | true =>
  rw [hnb, Bool.true_and] at hm
  simp only [go_sem, Int.reduceEq, Int.reduceLE, Int.reduceLT, Int.reduceToNat, Bool.not_true, rlD_drop]
  refine hY.pv ⟨.same (one_blR x.2), trivial⟩ ?_
  cases hmb : mayB x.2 with
  | false =>
    rw [hmb, Bool.false_and] at hm
    simp only [go_sem, Int.reduceEq, Int.reduceLE, Int.reduceLT, Int.reduceToNat, Bool.not_false]
    refine Fin.v ?_
    rw [hinv, hm]; rfl
  | true =>
  rw [hmb, Bool.true_and] at hm
  simp only [go_sem, Int.reduceEq, Int.reduceLE, Int.reduceLT, Int.reduceToNat, Bool.not_true, hM, rlD_0]
  refine ⟨i + 1, ⟨h, by rw [hinv, hm]⟩, by omega, ?_⟩
  rw [hwi, take_get hx, ← met_app]
  exact Mv.of [some 0] rfl ⟨.mp rfl, trivial⟩ (by simp [hq])
/-- A rule's line; rules' text. -/
def lnT (x : Rl) : List UInt8 := x.1.data.toList ++ 32 :: (x.2.txt ++ [10])
def prT : List Rl → List UInt8
  | [] => []
  | x :: l => lnT x ++ prT l
theorem prT_app : ∀ (a b : List Rl), prT (a ++ b) = prT a ++ prT b
  | [], b => rfl
  | x :: a, b => by rw [List.cons_append, prT, prT, prT_app a b, List.append_assoc]
theorem prT_at {l : List Rl} {i : Nat} {x : Rl} (h : l[i]? = some x) : prT (l.take (i + 1)) = prT (l.take i) ++ lnT x := by
  rw [take_get h, prT_app]; simp [prT]
theorem prT_len : ∀ (l : List Rl) (m : Nat), (∀ x ∈ l, (lnT x).length ≤ m) → (prT l).length ≤ l.length * m
  | [], m, _ => Nat.zero_le _
  | x :: l, m, h => by
    have h1 := h x (by simp)
    have h2 := prT_len l m fun y hy => h y (by simp [hy])
    rw [prT, List.length_append, List.length_cons, Nat.add_mul]
    omega
theorem mayGo_all : ∀ (s l : List Rl), mayGo s l = true → ∀ x ∈ l, nameB x.1 = true ∧ mayB x.2 = true
  | s, y :: l, h, x, hx => by
    rw [mayGo, Bool.and_eq_true] at h
    rcases List.mem_cons.1 hx with rfl | hx
    · have := h.1
      unfold okRl at this
      simp only [Bool.and_eq_true] at this
      exact this.2
    · exact mayGo_all _ l h.2 x hx
theorem mayRl_all {l : List Rl} (h : mayRl l = true) : (∀ x ∈ l, nameB x.1 = true ∧ mayB x.2 = true) ∧ 1 ≤ l.length ∧ l.length ≤ 100 ∧ fewB l = true := by
  unfold mayRl at h
  simp only [Bool.and_eq_true, decide_eq_true_eq] at h
  exact ⟨mayGo_all _ _ h.1, h.2.1, h.2.2.1, h.2.2.2⟩
theorem nameB_size {s : ByteArray} (h : nameB s = true) : 1 ≤ s.size ∧ s.size ≤ 30 := by
  unfold nameB at h
  simp only [Bool.and_eq_true, decide_eq_true_eq] at h
  exact h.2
theorem lnT_len {x : Rl} (hn : nameB x.1 = true) (hm : mayB x.2 = true) : (lnT x).length ≤ 1100000 := by
  have h1 := (nameB_size hn).2
  have h2 := mayZ hm
  have h3 := txt_le x.2 h2.1
  have h4 : x.1.data.toList.length = x.1.size := Array.length_toList
  unfold lnT
  simp only [List.length_append, List.length_cons, List.length_nil]
  omega
theorem lnT_ne (x : Rl) : lnT x ≠ [] := by unfold lnT; simp
theorem ln_eq (x : Rl) : x.1 ++ ⟨#[32]⟩ ++ ⟨x.2.txt.toArray⟩ ++ ⟨#[10]⟩ = (⟨(lnT x).toArray⟩ : ByteArray) := by
  refine ByteArray.ext ?_
  simp [ByteArray.data_append, lnT]
/-- Rules' text, or an error. -/
def prtR (l : List Rl) : List UInt8 × Int :=
  if mayRl l = false then ([], 1) else if 65536 < (prT l).length then ([], 3) else (prT l, 0)
abbrev prtD (x : List UInt8 × Int) : D := .tup [txD x.1, .i x.2]
set_option maxHeartbeats 4000000 in
theorem rulePrint (l : List Rl) (hl : l.length ≤ 1000) (hz : ∀ x ∈ l, x.1.size ≤ 1000000 ∧ x.2.sz ≤ 1048576 ∧ x.2.wd) : AP Tryd.prog 13 [Rls l] (prtD (prtR l)) := by
  have hq : ∀ om (F : Nat → Bool) (ks : List (Option Nat)), Cv om F ks (Rls l) (Rls l) := fun om F ks => .same (Rls_bl l)
  have hM := ruleMay l hl fun x hx => ⟨(hz x hx).1, (hz x hx).2.1⟩
  unfold prtR
  refine AC.lbody hT hm Tryd.func13 f13_nm f13_lc f13_res f13_nt ?_
  simp only [go_sem, Int.reduceEq, Int.reduceLE, Int.reduceLT, Int.reduceToNat]
  refine hM.pv ⟨hq _ _ _, trivial⟩ ?_
  cases hmay : mayRl l with
  | false =>
    rw [if_pos rfl]
    simp only [go_sem, Int.reduceEq, Int.reduceLE, Int.reduceLT, Int.reduceToNat, Bool.not_false]
    exact Fin.ret (.tupL (by simp))
  | true =>
  rw [if_neg (by simp)]
  obtain ⟨hA, hl1, hl2, _⟩ := mayRl_all hmay
  simp only [go_sem, Int.reduceEq, Int.reduceLE, Int.reduceLT, Int.reduceToNat, Bool.not_true, List.length_map]
  have hbd : ∀ i, (prT (l.take i)).length ≤ 110000000 := fun i => by
    have := prT_len (l.take i) 1100000 fun x hx => lnT_len (hA x (List.mem_of_mem_take hx)).1 (hA x (List.mem_of_mem_take hx)).2
    have h2 : (l.take i).length ≤ 100 := by rw [List.length_take]; omega
    have h3 : (l.take i).length * 1100000 ≤ 100 * 1100000 := Nat.mul_le_mul_right _ h2
    omega
  refine xl_loopM hT hm (fun i : Nat × List Ob × List Ob => ⟨f13_i9 (.ref 0 0) (Rls l) (.i l.length) (.i i.1), i.2.2⟩)
    (fun i => i.1 ≤ l.length ∧ bS 65 [] (prT (l.take i.1)) i.2.1 i.2.2) (fun i => l.length - i.1) (0, [], _) ⟨Nat.zero_le _, .inl ⟨rfl, rfl⟩⟩ (Mv.keep (by simp [f13_i9])) ?_
  rintro ⟨i, R, om⟩ ⟨hi, hB⟩
  simp only at hi hB
  simp only [go_sem, Int.reduceEq, Int.reduceLE, Int.reduceLT, Int.reduceToNat, List.length_map]
  by_cases h : i < l.length
  case neg =>
    have ht : l.take i = l := List.take_of_length_le (by omega)
    rw [ht] at hB
    simp only [go_sem, Int.reduceEq, Int.reduceLE, Int.reduceLT, Int.reduceToNat, h]
    refine ⟨_, lenG [] (prT l) R om hB, ?_⟩
    rintro _ _ ⟨rfl, rfl⟩
    by_cases hlen : 65536 < (prT l).length
    · rw [if_pos hlen]
      have hlen' : (65536 : Int) < ((prT l).length : Nat) := by omega
      simp only [go_sem, Int.reduceEq, Int.reduceLE, Int.reduceLT, Int.reduceToNat, hlen']
      exact Fin.ret (.tupL (by simp))
    · rw [if_neg hlen]
      have hlen' : ¬ (65536 : Int) < ((prT l).length : Nat) := by omega
      simp only [go_sem, Int.reduceEq, Int.reduceLE, Int.reduceLT, Int.reduceToNat, hlen']
      refine ⟨_, strOfG [] (prT l) R _ hB ?_, ?_⟩
      · obtain ⟨x, l', rfl⟩ : ∃ x l', l = x :: l' := by
          cases l with
          | nil => simp at hl1
          | cons x l' => exact ⟨x, l', rfl⟩
        rw [prT]
        exact fun h => lnT_ne x (List.append_eq_nil_iff.1 h).1
      rintro _ om' rfl
      simp only [go_sem, Int.reduceEq, Int.reduceLE, Int.reduceLT, Int.reduceToNat]
      exact Fin.ret (.tupL ⟨.v, .v, trivial⟩)
  obtain ⟨x, hx⟩ := get_ex h
  have hg := rlR_get hx
  have hAx := hA x (List.mem_of_getElem? hx)
  have hzx := hz x (List.mem_of_getElem? hx)
  have hS := showText x.2 hzx.2.1 hzx.2.2
  have hsT : shT x.2 = x.2.txt := by unfold shT; rw [hAx.2]; rfl
  rw [hsT] at hS
  have hlen := rlD_len x
  have hwi := wrap_succ i (by omega)
  have hlx := lnT_len hAx.1 hAx.2
  have hnz := nameB_size hAx.1
  have htz : x.2.txt.length ≤ 1100000 := by
    have h2 := mayZ hAx.2
    have h3 := txt_le x.2 h2.1
    omega
  have hs1 : x.1.size ≤ 9223372036854775806 := by omega
  have hs2 : x.1.size + 1 + x.2.txt.length ≤ 9223372036854775807 := by omega
  have hs3 : x.1.size + 1 + x.2.txt.length ≤ 9223372036854775806 := by omega
  have hbi := hbd i
  simp only [go_sem, Int.reduceEq, Int.reduceLE, Int.reduceLT, Int.reduceToNat, List.length_map, h, hg, hlen, rlD_take, get_con, set_con, rl_put, rlD_0, rlD_drop, hs1]
  refine hS.qv ⟨.same (Re.d_bl _), trivial⟩ ?_
  simp only [go_sem, Int.reduceEq, Int.reduceLE, Int.reduceLT, Int.reduceToNat, hs2, hs3, ln_eq]
  have hB' : bS 65 [] (prT (l.take i)) (R ++ [.var 39 (rlD x)]) (om ++ [.var 39 (rlD x)]) := by
    rcases hB with ⟨h1, rfl⟩ | ⟨j, h1, rfl⟩
    · exact .inl ⟨h1, rfl⟩
    · exact .inr ⟨j, by rw [List.getElem?_append_left (List.getElem?_eq_some_iff.1 h1).1]; exact h1, rfl⟩
  refine ⟨_, wrStrG [] bldN (prT (l.take i)) (lnT x) _ _ hB' (by omega) (by omega), ?_⟩
  intro o om' hw
  obtain ⟨rfl, R', hB2⟩ := hw.bS
  rw [← prT_at hx] at hB2
  simp only [go_sem, Int.reduceEq, Int.reduceLE, Int.reduceLT, Int.reduceToNat]
  refine ⟨(i + 1, R', om'), ⟨h, hB2⟩, by simp only; omega, ?_⟩
  dsimp only
  rw [hwi]
  exact Mv.keep (by simp)
end Go.Proofs.YtdliolbjngcgcaaDoor.W
set_option maxRecDepth 100000
/- The document's example; names; how many rules at most. -/
namespace Go.Proofs.YtdliolbjngcgcaaDoor.W
open Go Go.Proofs Go.Proofs.YtdliolbjngcgcaaDoor.AWP
attribute [local irreducible] xl hide aop aops aopQ qops guardP condP
def s19 : ByteArray := ⟨#[105, 100, 32, 91, 97, 45, 122, 93, 91, 97, 45, 122, 93, 42, 10]⟩
def ruleQ (x : Rl) : Bool := decide (x.1.size ≤ 30) && (decide (x.2.sz ≤ 20) && wdQ x.2)
set_option maxHeartbeats 1000000 in
theorem awake19 : AP Tryd.prog 6 [] (.b true) := by
  have e1 : (readR s19).2 = (0, 0) := by decide +kernel
  have e2 : prtR (readR s19).1 = ([105, 100, 32, 91, 97, 45, 122, 93, 91, 97, 45, 122, 93, 42, 10], 0) := by decide +kernel
  have e3 : (readR s19).1.all ruleQ = true := by decide +kernel
  have e4 : (readR s19).1.length ≤ 1 := by decide +kernel
  have hR := ruleRead s19
  have hP := rulePrint (readR s19).1 (by omega) fun x hx => by
    have := List.all_eq_true.1 e3 x hx
    unfold ruleQ at this
    simp only [Bool.and_eq_true, decide_eq_true_eq] at this
    exact ⟨by omega, by omega, wdQ_ok _ this.2.2⟩
  rw [e2] at hP
  have hs : D.s ⟨#[105, 100, 32, 91, 97, 45, 122, 93, 91, 97, 45, 122, 93, 42, 10]⟩ = D.s s19 := rfl
  generalize readR s19 = p at *
  obtain ⟨l, a, b⟩ := p
  cases e1
  have c1 : (((0 : Nat) : Int) == 0) = true := rfl
  refine AC.lbody hT hm Tryd.func6 f6_nm f6_lc f6_res f6_nt ?_
  simp only [go_sem, Int.reduceEq, Int.reduceLE, Int.reduceLT, Int.reduceToNat]
  refine hR.pd ⟨.v, trivial⟩ (readD_bl _) ?_
  simp only [go_sem, Int.reduceEq, Int.reduceLE, Int.reduceLT, Int.reduceToNat]
  refine hP.pd ⟨.same (Rls_bl _), trivial⟩ (.tup (by simp)) ?_
  simp only [go_sem, Int.reduceEq, Int.reduceLE, Int.reduceLT, Int.reduceToNat, c1]
  exact Fin.v rfl
end Go.Proofs.YtdliolbjngcgcaaDoor.W
set_option maxRecDepth 100000
/- How many rules are read at most. -/
namespace Go.Proofs.YtdliolbjngcgcaaDoor.W
open Go Go.Proofs Go.Proofs.YtdliolbjngcgcaaDoor.AWP
attribute [local irreducible] xl hide aop aops aopQ qops guardP condP
/-- A line of three digits. -/
def dM (k : Nat) : UInt8 := UInt8.ofNat (48 + k)
theorem dM_nat {k : Nat} (h : k < 10) : (dM k).toNat = 48 + k := by unfold dM; rw [UInt8.toNat_ofNat']; omega
theorem dM_ne {k : Nat} (h : k < 10) (c : UInt8) (hc : c.toNat < 48) : dM k ≠ c := fun e => by have := dM_nat h; rw [e] at this; omega
def nmM (i : Nat) : ByteArray := ⟨#[97, dM (i / 100), dM (i / 10 % 10), dM (i % 10)]⟩
def lnM (i : Nat) : ByteArray := ⟨#[97, dM (i / 100), dM (i / 10 % 10), dM (i % 10), 32, 120, 10]⟩
/-- m lines from the line k on. -/
def txF : Nat → Nat → ByteArray
  | 0, _ => ⟨#[]⟩
  | m + 1, k => lnM k ++ txF m (k + 1)
def txM : Nat → ByteArray
  | 0 => ⟨#[]⟩
  | i + 1 => txM i ++ lnM i
theorem lnM_size (i : Nat) : (lnM i).size = 7 := rfl
theorem txM_size : ∀ i : Nat, (txM i).size = 7 * i
  | 0 => rfl
  | i + 1 => by rw [txM, ByteArray.size_append, txM_size i, lnM_size]; omega
theorem txF_size : ∀ m k : Nat, (txF m k).size = 7 * m
  | 0, k => rfl
  | m + 1, k => by rw [txF, ByteArray.size_append, txF_size m, lnM_size]; omega
theorem txF_snoc : ∀ m k : Nat, txF (m + 1) k = txF m k ++ lnM (k + m)
  | 0, k => by
    rw [txF, txF, txF, Nat.add_zero]
    exact (ByteArray.append_empty (b := lnM k)).trans (ByteArray.empty_append (b := lnM k)).symm
  | m + 1, k => by
    rw [txF, txF_snoc m (k + 1), txF, ByteArray.append_assoc, show k + 1 + m = k + (m + 1) by omega]
theorem txM_txF : ∀ m : Nat, txM m = txF m 0
  | 0 => rfl
  | m + 1 => by rw [txM, txF_snoc, txM_txF m, Nat.zero_add]
theorem line_ln {i : Nat} (hi : i < 1000) (r : ByteArray) : lineOf (lnM i ++ r) = (lnM i, r) := by
  have h1 := dM_ne (k := i / 100) (by omega) 10 (by decide)
  have h2 := dM_ne (k := i / 10 % 10) (by omega) 10 (by decide)
  have h3 := dM_ne (k := i % 10) (by omega) 10 (by decide)
  have e : ixN 10 (lnM i ++ r).data.toList = 6 := by
    rw [ByteArray.data_append, Array.toList_append]
    simp [lnM, ixN, h1, h2, h3]
  have hz : (lnM i ++ r).size = 7 + r.size := by rw [ByteArray.size_append, lnM_size]
  unfold lineOf
  rw [e, if_pos (by omega), ByteArray.extract_append_eq_left (i := 6 + 1) (by rw [lnM_size]), ByteArray.extract_append_eq_right (i := 6 + 1) (by rw [lnM_size]) (by rw [lnM_size]; exact hz)]
theorem suf_ln (i : Nat) : csuf 10 (lnM i) = (⟨#[97, dM (i / 100), dM (i / 10 % 10), dM (i % 10), 32, 120]⟩, true) := rfl
theorem cut_ln {i : Nat} (hi : i < 1000) : cutS 32 ⟨#[97, dM (i / 100), dM (i / 10 % 10), dM (i % 10), 32, 120]⟩ = (nmM i, ⟨#[120]⟩, true) := by
  have h1 := dM_ne (k := i / 100) (by omega) 32 (by decide)
  have h2 := dM_ne (k := i / 10 % 10) (by omega) 32 (by decide)
  have h3 := dM_ne (k := i % 10) (by omega) 32 (by decide)
  have e : ixN 32 ([97, dM (i / 100), dM (i / 10 % 10), dM (i % 10), 32, 120] : List UInt8) = 4 := by simp [ixN, h1, h2, h3]
  unfold cutS
  simp only [e]
  rfl
theorem nmM_ok {i : Nat} (hi : i < 1000) : nameB (nmM i) = true := by
  have h1 := dM_nat (k := i / 100) (by omega)
  have h2 := dM_nat (k := i / 10 % 10) (by omega)
  have h3 := dM_nat (k := i % 10) (by omega)
  have hz : (nmM i).size = 4 := rfl
  unfold nameB
  rw [hz]
  simp only [nmM, nameL, okB, h1, h2, h3]
  simp
  omega
theorem nmM_inj {i j : Nat} (hi : i < 1000) (hj : j < 1000) (h : nmM i = nmM j) : i = j := by
  have h1 := dM_nat (k := i / 100) (by omega)
  have h2 := dM_nat (k := i / 10 % 10) (by omega)
  have h3 := dM_nat (k := i % 10) (by omega)
  have k1 := dM_nat (k := j / 100) (by omega)
  have k2 := dM_nat (k := j / 10 % 10) (by omega)
  have k3 := dM_nat (k := j % 10) (by omega)
  unfold nmM at h
  injection h with h
  have h := congrArg Array.toList h
  simp only [List.cons.injEq] at h
  obtain ⟨_, e1, e2, e3, _⟩ := h
  rw [e1] at h1
  rw [e2] at h2
  rw [e3] at h3
  omega
/-- The rules of the lines. -/
def rlM (n : Nat) : List Rl := (List.range n).map fun i => (nmM i, (pRead ⟨#[120]⟩).1)
theorem rlM_len (n : Nat) : (rlM n).length = n := by simp [rlM]
theorem rlM_succ (n : Nat) : rlM (n + 1) = rlM n ++ [(nmM n, (pRead ⟨#[120]⟩).1)] := by simp [rlM, List.range_succ]
theorem in_rlM {n : Nat} (hn : n < 1000) : inB (nmM n) (rlM n) = false := by
  unfold inB rlM
  rw [List.any_eq_false]
  intro x hx
  obtain ⟨j, hj, rfl⟩ := List.mem_map.1 hx
  have := List.mem_range.1 hj
  simp only [decide_eq_true_eq]
  intro e
  have := nmM_inj hn (by omega) e
  omega
theorem lineM {n : Nat} (hn : n < 100) (tot : Nat) : rStep tot (rlM n) (7 * n) (lnM n) = .inr (rlM (n + 1), 7 * (n + 1)) := by
  have e : (pRead ⟨#[120]⟩).2 = (0, 0) := by decide +kernel
  have hl : lineR (rlM n) ⟨#[97, dM (n / 100), dM (n / 10 % 10), dM (n % 10), 32, 120]⟩ = (0, 0, some (nmM n, (pRead ⟨#[120]⟩).1)) := by
    unfold lineR
    rw [rlM_len, if_neg (by omega), cut_ln (by omega)]
    simp only
    rw [nmM_ok (by omega), in_rlM (by omega), if_neg (by simp), e, if_neg (by simp)]
  unfold rStep
  rw [suf_ln]
  simp only
  rw [hl, if_neg (by simp), if_neg (by simp), rlM_succ, lnM_size]
  simp only
  congr 2
theorem lineM2 (tot : Nat) : rStep tot (rlM 100) 700 (lnM 100) = .inl (700, 4) := by
  have hl : lineR (rlM 100) ⟨#[97, dM (100 / 100), dM (100 / 10 % 10), dM (100 % 10), 32, 120]⟩ = (0, 4, none) := by
    unfold lineR
    rw [rlM_len, if_pos (Nat.le_refl _)]
  unfold rStep
  rw [suf_ln]
  simp only
  rw [hl, if_neg (by simp), if_pos (by simp)]
  rfl
theorem goM (tot : Nat) : ∀ (m n f : Nat), n + m ≤ 100 → 7 * m ≤ f → rGo tot f (txF m n) (rlM n) (7 * n) = .inr (rlM (n + m), 7 * (n + m))
  | 0, n, f, h, hf => by
    cases f with
    | zero => rfl
    | succ f => rw [rGo, if_pos (by rfl)]; rfl
  | m + 1, n, f, h, hf => by
    obtain ⟨g, rfl⟩ : ∃ g, f = g + 1 := ⟨f - 1, by omega⟩
    have hz := txF_size (m + 1) n
    rw [rGo, if_neg (by omega), txF, line_ln (by omega)]
    simp only
    rw [lineM (by omega)]
    simp only
    rw [goM tot m (n + 1) g (by omega) (by omega), show n + 1 + m = n + (m + 1) by omega]
theorem goM2 (tot : Nat) : ∀ (m n f k : Nat), n + m = 100 → 7 * (m + (k + 1)) ≤ f → rGo tot f (txF (m + (k + 1)) n) (rlM n) (7 * n) = .inl (700, 4)
  | 0, n, f, k, h, hf => by
    obtain ⟨g, rfl⟩ : ∃ g, f = g + 1 := ⟨f - 1, by omega⟩
    have hz := txF_size (k + 1) n
    obtain rfl : n = 100 := by omega
    rw [Nat.zero_add, rGo, if_neg (by omega), txF, line_ln (by omega)]
    simp only
    rw [lineM2]
  | m + 1, n, f, k, h, hf => by
    obtain ⟨g, rfl⟩ : ∃ g, f = g + 1 := ⟨f - 1, by omega⟩
    have hz := txF_size (m + (k + 1) + 1) n
    rw [show m + 1 + (k + 1) = m + (k + 1) + 1 by omega, rGo, if_neg (by omega), txF, line_ln (by omega)]
    simp only
    rw [lineM (by omega)]
    simp only
    rw [goM2 tot m (n + 1) g k (by omega) (by omega)]
theorem rlSz_M : ∀ n : Nat, rlSz (rlM n) ≤ n
  | 0 => by simp [rlM, rlSz]
  | n + 1 => by
    have e : (pRead ⟨#[120]⟩).1.sz = 1 := by decide +kernel
    have := rlSz_M n
    rw [rlM_succ, rlSz_app]
    simp only [rlSz, e]
    omega
theorem mostA {n : Nat} (h1 : 1 ≤ n) (h : n ≤ 100) : readR (txM n) = (rlM n, 0, 0) := by
  have hz := txF_size n 0
  have hs := rlSz_M n
  have hl := rlM_len n
  have hf : fewB (rlM n) = true := by unfold fewB; rw [hl]; exact decide_eq_true (by omega)
  have hg := goM (txF n 0).size n 0 (txF n 0).size (by omega) (by omega)
  rw [Nat.mul_zero, Nat.zero_add] at hg
  unfold readR
  rw [txM_txF, if_neg (by omega), show ([] : List Rl) = rlM 0 from rfl, hg]
  show (if rlM n = [] then _ else _) = _
  rw [if_neg (fun e => by rw [e] at hl; simp at hl; omega), if_neg (by rw [hf]; simp)]
theorem mostB {n : Nat} (h1 : 100 < n) (h : n ≤ 1000) : readR (txM n) = ([], 700, 4) := by
  obtain ⟨k, rfl⟩ : ∃ k, n = 100 + (k + 1) := ⟨n - 101, by omega⟩
  have hz := txF_size (100 + (k + 1)) 0
  have hg := goM2 (txF (100 + (k + 1)) 0).size 100 0 (txF (100 + (k + 1)) 0).size k rfl (by omega)
  rw [Nat.mul_zero] at hg
  unfold readR
  rw [txM_txF, if_neg (by omega), show ([] : List Rl) = rlM 0 from rfl, hg]
  rfl
set_option maxHeartbeats 1000000 in
theorem rulesMost (c : UInt8) : AP Tryd.prog 3 [.y c] (.b true) := by
  obtain ⟨n, hn⟩ : ∃ n, n = c.toNat % 5 := ⟨_, rfl⟩
  have e1 : ((c.toNat : Int).tmod 5) = ((n : Nat) : Int) := by rw [hn, Int.tmod_eq_emod_of_nonneg (by omega)]; omega
  have e2 : IntKind.i64.wrap (98 + IntKind.i64.wrap ((n : Nat) : Int)) = ((98 + n : Nat) : Int) := by rw [wrap_nat n (by omega), wrap_int _ (by omega) (by omega)]; omega
  have hA := @mostA (98 + n) (by omega)
  have hB := @mostB (98 + n)
  have hR := ruleRead (txM (98 + n))
  generalize hN : 98 + n = N at *
  refine AC.lbody hT hm Tryd.func3 f3_nm f3_lc f3_res f3_nt ?_
  simp only [go_sem, Int.reduceEq, Int.reduceLE, Int.reduceLT, Int.reduceToNat, e1, e2, hN]
  refine xl_loopM hT hm (fun i : Nat => ⟨f3_i7 (.i N) (.s (txM i)) (.i i), []⟩)
    (fun i => i ≤ N) (fun i => N - i) 0 (Nat.zero_le _) (Mv.none (by simp [f3_i7, txM, CvL])) ?_
  intro i hi
  have hN2 : N ≤ 102 := by omega
  simp only [go_sem, Int.reduceEq, Int.reduceLE, Int.reduceLT, Int.reduceToNat]
  by_cases h : i < N
  case pos =>
    have q1 : (i : Int).tdiv 100 = ((i / 100 : Nat) : Int) := by rw [Int.tdiv_eq_ediv_of_nonneg (by omega)]; omega
    have q2 : (i : Int).tdiv 10 = ((i / 10 : Nat) : Int) := by rw [Int.tdiv_eq_ediv_of_nonneg (by omega)]; omega
    have q3 : (i : Int).tmod 10 = ((i % 10 : Nat) : Int) := by rw [Int.tmod_eq_emod_of_nonneg (by omega)]; omega
    have q4 : ((i / 10 : Nat) : Int).tmod 10 = ((i / 10 % 10 : Nat) : Int) := by rw [Int.tmod_eq_emod_of_nonneg (by omega)]; omega
    have dg : ∀ k : Nat, k < 10 → IntKind.u8.wrap (IntKind.i64.wrap (48 + (k : Int))) = ((dM k).toNat : Int) := fun k hk => by
      rw [wrap_int _ (by omega) (by omega), show (48 + (k : Int)) = ((48 + k : Nat) : Int) by omega, u8_wrap _ (by omega), dM_nat hk]
    have d1 := dg (i / 100) (by omega)
    have d2 := dg (i / 10 % 10) (by omega)
    have d3 := dg (i % 10) (by omega)
    have w1 : IntKind.i64.wrap ((i / 100 : Nat) : Int) = ((i / 100 : Nat) : Int) := wrap_nat _ (by omega)
    have w2 : IntKind.i64.wrap ((i / 10 : Nat) : Int) = ((i / 10 : Nat) : Int) := wrap_nat _ (by omega)
    have hb : bytesOfRows [[D.y (dM (i / 100))], [D.y (dM (i / 10 % 10))], [D.y (dM (i % 10))]] = some [dM (i / 100), dM (i / 10 % 10), dM (i % 10)] := bytesOfRows_of [dM (i / 100), dM (i / 10 % 10), dM (i % 10)]
    have hz := txM_size i
    have hzz : (txM i).size + (lnM i).size ≤ 9223372036854775807 := by rw [lnM_size]; omega
    have hln : ({ data := #[97] } ++ { data := #[dM (i / 100), dM (i / 10 % 10), dM (i % 10)] } ++ { data := #[32, 120, 10] } : ByteArray) = lnM i := rfl
    have hwi := wrap_succ i (by omega)
    simp only [go_sem, Int.reduceEq, Int.reduceLE, Int.reduceLT, Int.reduceToNat, h, q1, q2, q3, q4, w1, w2, d1, d2, d3, hb, hzz, hln]
    refine ⟨i + 1, h, by omega, ?_⟩
    rw [hwi]
    exact Mv.none (by simp [txM])
  obtain rfl : i = N := by omega
  have c0 : (((0 : Nat) : Int) == 0) = true := rfl
  have c4 : (((4 : Nat) : Int) == 4) = true := rfl
  have c7 : (((700 : Nat) : Int) == 700) = true := rfl
  have cN : ((i : Int) == (i : Int)) = true := by simp
  have hlt : ¬ i < i := Nat.lt_irrefl _
  by_cases h100 : i ≤ 100
  · rw [hA h100] at hR
    have h1 : (i : Int) ≤ 100 := by omega
    have hl := rlM_len i
    simp only [go_sem, Int.reduceEq, Int.reduceLE, Int.reduceLT, Int.reduceToNat, hlt]
    refine hR.pd ⟨.v, trivial⟩ (readD_bl _) ?_
    simp only [go_sem, Int.reduceEq, Int.reduceLE, Int.reduceLT, Int.reduceToNat, h1, c0, List.length_map, hl, cN]
    refine awake19.pv trivial ?_
    simp only [go_sem, Int.reduceEq, Int.reduceLE, Int.reduceLT, Int.reduceToNat]
    exact Fin.v rfl
  · rw [hB (by omega) (by omega)] at hR
    have h1 : ¬ (i : Int) ≤ 100 := by omega
    simp only [go_sem, Int.reduceEq, Int.reduceLE, Int.reduceLT, Int.reduceToNat, hlt]
    refine hR.pd ⟨.v, trivial⟩ (readD_bl _) ?_
    simp only [go_sem, Int.reduceEq, Int.reduceLE, Int.reduceLT, Int.reduceToNat, h1, c4, c7, c0, List.length_map, List.length_nil]
    refine awake19.pv trivial ?_
    simp only [go_sem, Int.reduceEq, Int.reduceLE, Int.reduceLT, Int.reduceToNat]
    exact Fin.v rfl
end Go.Proofs.YtdliolbjngcgcaaDoor.W
