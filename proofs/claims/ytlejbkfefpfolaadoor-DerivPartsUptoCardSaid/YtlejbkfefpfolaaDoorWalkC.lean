/- The document's reader: which expressions may be, and what a text is read as. -/
import Derived.Test.YtlejbkfefpfolaaDoorWalkB
import Derived.Test.YtlejbkfefpfolaaDoorMath
import Derived.Test.YtlejbkfefpfolaaDoorAwpX
set_option linter.unusedVariables false
set_option linter.unusedSimpArgs false
set_option linter.unusedSectionVars false
set_option maxRecDepth 100000
/- The document's sets. -/
namespace Go.Proofs.YtlejbkfefpfolaaDoor.W
open Go Go.Proofs Go.Proofs.YtlejbkfefpfolaaDoor.AWP
end Go.Proofs.YtlejbkfefpfolaaDoor.W
set_option maxRecDepth 100000
/- The document's expressions and signs. -/
namespace Go.Proofs.YtlejbkfefpfolaaDoor.W
open Go Go.Proofs Go.Proofs.YtlejbkfefpfolaaDoor.AWP
/-! ### Signs -/
theorem special (b : UInt8) : AP Tryd.prog 65 [.y b] (.b (!plain b)) := by
  refine AC.lbody hT hm Tryd.func65 f65_nm f65_lc f65_res f65_nt ?_
  simp only [go_sem, Int.reduceEq, Int.reduceLE, Int.reduceLT, Int.reduceToNat]
  refine xl_loopM hT hm (fun i : Nat => ⟨f65_i7 (.y b) (.s spec1) (.i i), []⟩)
    (fun i => i ≤ 9 ∧ ∀ j, j < i → spec1.data[j]? ≠ some b) (fun i => 9 - i) 0 ⟨Nat.zero_le _, fun j h => absurd h (Nat.not_lt_zero _)⟩ (Mv.none (by simp [f65_i7, spec1])) ?_
  rintro i ⟨hi, hn⟩
  have hsz : spec1.size = 9 := rfl
  simp only [go_sem, Int.reduceEq, Int.reduceLE, Int.reduceLT, Int.reduceToNat, hsz]
  by_cases h : i < 9
  case neg =>
    have e := plain_of b fun j hj => hn j (by omega)
    simp only [go_sem, Int.reduceEq, Int.reduceLE, Int.reduceLT, Int.reduceToNat, h]
    rw [e]
    by_cases h1 : (b.toNat : Int) < 33
    · simp only [go_sem, Int.reduceEq, Int.reduceLE, Int.reduceLT, Int.reduceToNat, h1]
      exact Fin.v (by have : b.toNat < 33 := by omega
                      simp [this])
    · simp only [go_sem, Int.reduceEq, Int.reduceLE, Int.reduceLT, Int.reduceToNat, h1]
      exact Fin.v (by have : ¬ b.toNat < 33 := by omega
                      have e2 : ((126 : Int) < b.toNat) = (126 < b.toNat) := by apply propext; omega
                      simp [this, e2])
  obtain ⟨c, hc⟩ := get_lt (s := spec1) (p := i) h
  simp only [go_sem, Int.reduceEq, Int.reduceLE, Int.reduceLT, Int.reduceToNat, h, hc]
  by_cases hcb : c = b
  · subst hcb
    have e1 : ((c.toNat : Int) == c.toNat) = true := by simp
    simp only [go_sem, Int.reduceEq, Int.reduceLE, Int.reduceLT, Int.reduceToNat, e1]
    exact Fin.v (by rw [plain_not c h hc]; rfl)
  · have e1 : ((c.toNat : Int) == b.toNat) = false := by
      refine AWP.beq_false fun e => hcb ?_
      have : c.toNat = b.toNat := by omega
      exact UInt8.toNat_inj.1 this
    simp only [go_sem, Int.reduceEq, Int.reduceLE, Int.reduceLT, Int.reduceToNat, e1]
    rw [wrap_succ i (by omega)]
    refine ⟨i + 1, ⟨h, fun j hj => ?_⟩, by omega, Mv.none (by simp)⟩
    by_cases e : j = i
    · subst e; rw [hc]; simpa using hcb
    · exact hn j (by omega)
end Go.Proofs.YtlejbkfefpfolaaDoor.W
set_option maxRecDepth 100000
/- The document's reader: signs. -/
namespace Go.Proofs.YtlejbkfefpfolaaDoor.W
open Go Go.Proofs Go.Proofs.YtlejbkfefpfolaaDoor.AWP
end Go.Proofs.YtlejbkfefpfolaaDoor.W
set_option maxRecDepth 100000
/- The document's reader: expressions. -/
namespace Go.Proofs.YtlejbkfefpfolaaDoor.W
open Go Go.Proofs Go.Proofs.YtlejbkfefpfolaaDoor.AWP
/-- The cells of what is read. -/
def pC (r : Re) (q : Nat) (f : Bool) : List D := r.c ++ [.i q, .b f]
@[simp] theorem pC_len (r : Re) (q : Nat) (f : Bool) : (pC r q f).length = 8 := by simp [pC]
theorem pC_take8 (r : Re) (q : Nat) (f : Bool) : (pC r q f).take 8 = pC r q f := List.take_of_length_le (by simp)
end Go.Proofs.YtlejbkfefpfolaaDoor.W
set_option maxRecDepth 100000
/- Which expressions may be: the program's way. -/
namespace Go.Proofs.YtlejbkfefpfolaaDoor.W
open Go Go.Proofs Go.Proofs.YtlejbkfefpfolaaDoor.AWP
attribute [local irreducible] xl hide aop aops aopQ qops guardP condP
theorem size1 (l : List Re) (hz : Re.szs l ≤ 1099511627776) (ih : ∀ x ∈ l, AP Tryd.prog 39 [Res x.kids] (.i (Re.szs x.kids : Nat))) : AP Tryd.prog 39 [Res l] (.i (Re.szs l : Nat)) := by
  have hl := Re.len_szs l
  refine AC.lbody hT hm Tryd.func39 f39_nm f39_lc f39_res f39_nt ?_
  simp only [go_sem, Int.reduceEq, Int.reduceLE, Int.reduceLT, Int.reduceToNat]
  refine xl_loopM hT hm (fun i : Nat => ⟨f39_i7 (.i (l.length + Re.szs (l.take i) - i : Nat)) (Res l) (.i l.length) (.i i), []⟩)
    (fun i => i ≤ l.length) (fun i => l.length - i) 0 (Nat.zero_le _) (Mv.none (by simp [f39_i7, Re.szs])) ?_
  intro i hi
  simp only [go_sem, Int.reduceEq, Int.reduceLE, Int.reduceLT, Int.reduceToNat]
  by_cases h : i < l.length
  case neg =>
    have ht : l.take i = l := List.take_of_length_le (by omega)
    simp only [go_sem, Int.reduceEq, Int.reduceLE, Int.reduceLT, Int.reduceToNat, h]
    refine Fin.v ?_
    rw [ht]
    congr 2
    omega
  obtain ⟨x, hx⟩ := get_ex h
  have h1 := Re.szs_take hx
  have h2 := Re.szs_take_le l (i + 1)
  have h3 := Re.len_szs (l.take i)
  have h4 : (l.take i).length = i := by simp; omega
  simp only [go_sem, Int.reduceEq, Int.reduceLE, Int.reduceLT, Int.reduceToNat, h, hx, Re.c_5]
  refine (ih x (List.mem_of_getElem? hx)).pv ⟨.same (by simp), trivial⟩ ?_
  have e : IntKind.i64.wrap (((l.length + Re.szs (l.take i) - i : Nat) : Int) + (Re.szs x.kids : Nat)) = ((l.length + Re.szs (l.take (i + 1)) - (i + 1) : Nat) : Int) := by
    rw [wrap_int _ (by omega) (by omega)]; omega
  simp only [go_sem, Int.reduceEq, Int.reduceLE, Int.reduceLT, Int.reduceToNat, e]
  rw [wrap_succ i (by omega)]
  exact ⟨i + 1, h, by omega, Mv.none (by simp)⟩
theorem sizeK (r : Re) : Re.szs r.kids ≤ 1099511627776 → AP Tryd.prog 39 [Res r.kids] (.i (Re.szs r.kids : Nat)) := by
  refine Re.ind (p := fun r => Re.szs r.kids ≤ 1099511627776 → AP Tryd.prog 39 [Res r.kids] (.i (Re.szs r.kids : Nat))) ?_ r
  intro k a b c d ks ih hz
  refine size1 ks hz fun x hx => ih x hx ?_
  have := Re.sz_mem hx
  have h2 := x.sz_kids
  have hz : Re.szs ks ≤ 1099511627776 := hz
  omega
theorem size (l : List Re) (hz : Re.szs l ≤ 1099511627776) : AP Tryd.prog 39 [Res l] (.i (Re.szs l : Nat)) := sizeK (.mk 0 0 0 0 0 l) hz
/-! ### Is one of some so? -/
def idxI {α : Type} (p : α → Bool) (l : List α) : Int :=
  match l.findIdx? p with
  | some i => i
  | none => -1
theorem idxI_nn {α : Type} (p : α → Bool) (l : List α) : decide (0 ≤ idxI p l) = l.any p := by
  unfold idxI
  cases h : l.findIdx? p with
  | none =>
    rw [List.findIdx?_eq_none_iff] at h
    have : l.any p = false := by rw [List.any_eq_false]; intro x hx; simp [h x hx]
    rw [this]; rfl
  | some i =>
    have := List.findIdx?_eq_some_iff_findIdx_eq.1 h
    have hp : l.any p = true := by
      rw [List.any_eq_true]
      exact ⟨l[i]'this.1, List.getElem_mem _, by have := (List.findIdx?_eq_some_iff_getElem.1 h).2.1; exact this⟩
    rw [hp]; simp
theorem idxRe (G : FuncId) (p : Re → Bool) (l : List Re) (hl : l.length ≤ 9223372036854775807) (H : ∀ x ∈ l, AP Tryd.prog G [.agg x.c] (.b (p x))) : AP Tryd.prog 57 [Res l, .fn G []] (.i (idxI p l)) := by
  refine AC.lbody hT hm Tryd.func57 f57_nm f57_lc f57_res f57_nt ?_
  simp only [go_sem, Int.reduceEq, Int.reduceLE, Int.reduceLT, Int.reduceToNat]
  refine xl_loopM hT hm (fun i : Nat => ⟨f57_i7 (Res l) (.fn G []) (.i l.length) (.i i), []⟩)
    (fun i => i ≤ l.length ∧ ∀ j x, j < i → l[j]? = some x → p x = false) (fun i => l.length - i) 0 ⟨Nat.zero_le _, fun j x h => absurd h (Nat.not_lt_zero _)⟩ (Mv.none (by simp [f57_i7])) ?_
  rintro i ⟨hi, hn⟩
  simp only [go_sem, Int.reduceEq, Int.reduceLE, Int.reduceLT, Int.reduceToNat]
  by_cases h : i < l.length
  case neg =>
    simp only [go_sem, Int.reduceEq, Int.reduceLE, Int.reduceLT, Int.reduceToNat, h]
    refine Fin.v ?_
    have : l.findIdx? p = none := by
      rw [List.findIdx?_eq_none_iff]
      intro x hx
      obtain ⟨j, hj⟩ := List.getElem?_of_mem hx
      exact hn j x (by have := (List.getElem?_eq_some_iff.1 hj).1; omega) hj
    unfold idxI
    rw [this]
  obtain ⟨x, hx⟩ := get_ex h
  simp only [go_sem, Int.reduceEq, Int.reduceLE, Int.reduceLT, Int.reduceToNat, h, hx]
  refine (H x (List.mem_of_getElem? hx)).pv ⟨.same (by simp), trivial⟩ ?_
  cases hp : p x
  case true =>
    simp only [go_sem, Int.reduceEq, Int.reduceLE, Int.reduceLT, Int.reduceToNat]
    refine Fin.v ?_
    have : l.findIdx? p = some i := by
      rw [List.findIdx?_eq_some_iff_getElem]
      obtain ⟨hlt, hxe⟩ := List.getElem?_eq_some_iff.1 hx
      refine ⟨hlt, by rw [hxe]; exact hp, fun j hji => ?_⟩
      have := hn j l[j] hji (List.getElem?_eq_getElem (by omega))
      simp [this]
    unfold idxI
    rw [this]
  simp only [go_sem, Int.reduceEq, Int.reduceLE, Int.reduceLT, Int.reduceToNat]
  rw [wrap_succ i (by omega)]
  refine ⟨i + 1, ⟨h, fun j y hj hy => ?_⟩, by omega, Mv.none (by simp)⟩
  by_cases e : j = i
  · subst e; rw [hx] at hy; cases hy; exact hp
  · exact hn j y (by omega) hy
theorem anyRe (G : FuncId) (p : Re → Bool) (l : List Re) (hl : l.length ≤ 9223372036854775807) (H : ∀ x ∈ l, AP Tryd.prog G [.agg x.c] (.b (p x))) : AP Tryd.prog 36 [Res l, .fn G []] (.b (l.any p)) := by
  refine AC.lbody hT hm Tryd.func36 f36_nm f36_lc f36_res f36_nt ?_
  simp only [go_sem, Int.reduceEq, Int.reduceLE, Int.reduceLT, Int.reduceToNat]
  refine (idxRe G p l hl H).pv ⟨.same (by simp), .same (by simp), trivial⟩ ?_
  simp only [go_sem, Int.reduceEq, Int.reduceLE, Int.reduceLT, Int.reduceToNat]
  exact Fin.v (by rw [idxI_nn])
theorem bareE (a b c d : Int) : (a == 0 && (b == 0 && (c == 0 && (d == 0 && true)))) = decide (a = 0 ∧ b = 0 ∧ c = 0 ∧ d = 0) := by
  simp only [Bool.and_true, Bool.decide_and]
  rfl
theorem lenE (n k : Nat) : ((n : Int) == (k : Int)) = decide (n = k) := by
  by_cases h : n = k
  · subst h; simp
  · rw [AWP.beq_false (by omega), decide_eq_false h]
set_option maxHeartbeats 1000000 in
theorem node (r : Re) : AP Tryd.prog 58 [.agg r.c] (.b r.nodeOk) := by
  obtain ⟨k, a, b, c, d, ks⟩ := r
  have l0 := lenE ks.length 0
  have l1 := lenE ks.length 1
  have l2 := lenE ks.length 2
  simp only [Int.ofNat_zero, Int.cast_ofNat_Int, Int.ofNat_one] at l0 l1 l2
  have nok : (Re.mk k a b c d ks).nodeOk = if k = 1 ∨ k = 2 then decide (ks.length = 0) && decide (a = 0 ∧ b = 0 ∧ c = 0 ∧ d = 0)
    else if k = 3 then decide (ks.length = 0) && !decide (a = 0 ∧ b = 0 ∧ c = 0 ∧ d = 0)
    else if k = 4 ∨ k = 5 then decide (ks.length = 2) && decide (a = 0 ∧ b = 0 ∧ c = 0 ∧ d = 0)
    else if k = 6 then decide (ks.length = 1) && decide (a = 0 ∧ b = 0 ∧ c = 0 ∧ d = 0)
    else false := rfl
  refine AC.lbody hT hm Tryd.func58 f58_nm f58_lc f58_res f58_nt ?_
  simp only [go_sem, Int.reduceEq, Int.reduceLE, Int.reduceLT, Int.reduceToNat, intsEq, bareE]
  rw [nok]
  generalize decide (a = 0 ∧ b = 0 ∧ c = 0 ∧ d = 0) = bare
  by_cases h1 : k = 1
  · have e1 : (k == 1) = true := by simp [h1]
    rw [if_pos (.inl h1)]
    simp only [go_sem, Int.reduceEq, Int.reduceLE, Int.reduceLT, Int.reduceToNat, e1, l0]
    cases decide (ks.length = 0) <;> (simp only [go_sem, Int.reduceEq, Int.reduceLE, Int.reduceLT, Int.reduceToNat]; exact Fin.v rfl)
  have e1 : (k == 1) = false := AWP.beq_false h1
  by_cases h2 : k = 2
  · have e2 : (k == 2) = true := by simp [h2]
    rw [if_pos (.inr h2)]
    simp only [go_sem, Int.reduceEq, Int.reduceLE, Int.reduceLT, Int.reduceToNat, e1, e2, l0]
    cases decide (ks.length = 0) <;> (simp only [go_sem, Int.reduceEq, Int.reduceLE, Int.reduceLT, Int.reduceToNat]; exact Fin.v rfl)
  have e2 : (k == 2) = false := AWP.beq_false h2
  rw [if_neg (by omega)]
  by_cases h3 : k = 3
  · have e3 : (k == 3) = true := by simp [h3]
    rw [if_pos h3]
    simp only [go_sem, Int.reduceEq, Int.reduceLE, Int.reduceLT, Int.reduceToNat, e1, e2, e3, l0]
    cases decide (ks.length = 0) <;> (simp only [go_sem, Int.reduceEq, Int.reduceLE, Int.reduceLT, Int.reduceToNat]; exact Fin.v rfl)
  have e3 : (k == 3) = false := AWP.beq_false h3
  rw [if_neg h3]
  by_cases h4 : k = 4
  · have e4 : (k == 4) = true := by simp [h4]
    rw [if_pos (.inl h4)]
    simp only [go_sem, Int.reduceEq, Int.reduceLE, Int.reduceLT, Int.reduceToNat, e1, e2, e3, e4, l2]
    cases decide (ks.length = 2) <;> (simp only [go_sem, Int.reduceEq, Int.reduceLE, Int.reduceLT, Int.reduceToNat]; exact Fin.v rfl)
  have e4 : (k == 4) = false := AWP.beq_false h4
  by_cases h5 : k = 5
  · have e5 : (k == 5) = true := by simp [h5]
    rw [if_pos (.inr h5)]
    simp only [go_sem, Int.reduceEq, Int.reduceLE, Int.reduceLT, Int.reduceToNat, e1, e2, e3, e4, e5, l2]
    cases decide (ks.length = 2) <;> (simp only [go_sem, Int.reduceEq, Int.reduceLE, Int.reduceLT, Int.reduceToNat]; exact Fin.v rfl)
  have e5 : (k == 5) = false := AWP.beq_false h5
  rw [if_neg (by omega)]
  by_cases h6 : k = 6
  · have e6 : (k == 6) = true := by simp [h6]
    rw [if_pos h6]
    simp only [go_sem, Int.reduceEq, Int.reduceLE, Int.reduceLT, Int.reduceToNat, e1, e2, e3, e4, e5, e6, l1]
    cases decide (ks.length = 1) <;> (simp only [go_sem, Int.reduceEq, Int.reduceLE, Int.reduceLT, Int.reduceToNat]; exact Fin.v rfl)
  have e6 : (k == 6) = false := AWP.beq_false h6
  rw [if_neg h6]
  simp only [go_sem, Int.reduceEq, Int.reduceLE, Int.reduceLT, Int.reduceToNat, e1, e2, e3, e4, e5, e6]
  exact Fin.v rfl
theorem nodes (r : Re) : AP Tryd.prog 38 [.agg r.c] (.b r.nodesOk) := by
  refine Re.ind (p := fun r => AP Tryd.prog 38 [.agg r.c] (.b r.nodesOk)) ?_ r
  intro k a b c d ks ih
  refine AC.wf rfl fun hw => ?_
  have hlen : ks.length ≤ 9223372036854775807 := by
    have := Re.ok_agg (hw _ (List.mem_cons_self ..))
    rw [Re.Ok] at this
    exact this.2
  have sub : ∀ x ∈ ks, AP Tryd.prog 59 [.agg x.c] (.b (!x.nodesOk)) := by
    intro x hx
    have h := ih x hx
    refine AC.lbody hT hm Tryd.func59 f59_nm f59_lc f59_res f59_nt ?_
    simp only [go_sem, Int.reduceEq, Int.reduceLE, Int.reduceLT, Int.reduceToNat]
    refine h.pv ⟨.same (by simp), trivial⟩ ?_
    simp only [go_sem, Int.reduceEq, Int.reduceLE, Int.reduceLT, Int.reduceToNat]
    exact Fin.v rfl
  rw [Re.nodesOk, Re.nodesOks_any]
  refine AC.lbody hT hm Tryd.func38 f38_nm f38_lc f38_res f38_nt ?_
  simp only [go_sem, Int.reduceEq, Int.reduceLE, Int.reduceLT, Int.reduceToNat]
  refine (node (.mk k a b c d ks)).pv (by simp [Re.c_mk, Re.cs_eq]) ?_
  simp only [go_sem, Int.reduceEq, Int.reduceLE, Int.reduceLT, Int.reduceToNat]
  cases (Re.mk k a b c d ks).nodeOk
  · simp only [go_sem, Int.reduceEq, Int.reduceLE, Int.reduceLT, Int.reduceToNat]
    exact Fin.v rfl
  simp only [go_sem, Int.reduceEq, Int.reduceLE, Int.reduceLT, Int.reduceToNat]
  refine (anyRe 59 (fun x => !x.nodesOk) ks hlen sub).pv ⟨.eq (by show _ = D.sl 6 (Re.cs ks); rw [Re.cs_eq]) (by simp), .same (by simp), trivial⟩ ?_
  simp only [go_sem, Int.reduceEq, Int.reduceLE, Int.reduceLT, Int.reduceToNat]
  exact Fin.v rfl
theorem may1 (r : Re) (hz : r.sz ≤ 1099511627776) : AP Tryd.prog 37 [.agg r.c] (.b (!mayB r)) := by
  refine AC.lbody hT hm Tryd.func37 f37_nm f37_lc f37_res f37_nt ?_
  simp only [go_sem, Int.reduceEq, Int.reduceLE, Int.reduceLT, Int.reduceToNat]
  refine (nodes r).pv ⟨.same (by simp), trivial⟩ ?_
  unfold mayB
  simp only [go_sem, Int.reduceEq, Int.reduceLE, Int.reduceLT, Int.reduceToNat]
  cases r.nodesOk
  · simp only [go_sem, Int.reduceEq, Int.reduceLE, Int.reduceLT, Int.reduceToNat]
    exact Fin.v rfl
  simp only [go_sem, Int.reduceEq, Int.reduceLE, Int.reduceLT, Int.reduceToNat]
  have e1 : Re.szs [r] = r.sz := by simp [Re.szs]
  refine (size [r] (by rw [e1]; exact hz)).pv ⟨.eq (by show _ = D.sl 6 (Re.cs [r]); rw [Re.cs_eq]; rfl) (by simp), trivial⟩ ?_
  simp only [go_sem, Int.reduceEq, Int.reduceLE, Int.reduceLT, Int.reduceToNat]
  refine Fin.v ?_
  rw [e1]
  by_cases h : r.sz ≤ 2000
  · simp [h]; omega
  · simp [h]; omega
theorem may (r : Re) (hz : r.sz ≤ 1099511627776) : AP Tryd.prog 23 [Res [r]] (.b (mayB r)) := by
  refine AC.lbody hT hm Tryd.func23 f23_nm f23_lc f23_res f23_nt ?_
  simp only [go_sem, Int.reduceEq, Int.reduceLE, Int.reduceLT, Int.reduceToNat]
  refine (anyRe 37 (fun x => !mayB x) [r] (by simp) (by intro x hx; rw [List.mem_singleton.1 hx]; exact may1 r hz)).pv (by simp [Re.cs_eq]) ?_
  simp only [go_sem, Int.reduceEq, Int.reduceLE, Int.reduceLT, Int.reduceToNat]
  exact Fin.v (by simp)
/-! ### Read -/
theorem wholeS (s : ByteArray) (hs : s.size ≤ 65536) (fr : List Ob) (hf : fr.length = 1) : AC Tryd.prog 22 [.ref 1 0] (fr ++ [rdOb s 0]) (fun o om => ∃ om', (o = .ret (wdD (pWhole s)) ∧ ∃ k, om' = [rdOb s k]) ∧ om = fr ++ om') := by
  refine (wholeC s hs).shift rfl ?_ ?_ ?_
  · intro j d d' h1 h2
    match j with
    | 0 =>
      cases h1; cases h2
      rw [hf]
      exact .inr ⟨0, 0, rfl, rfl⟩
    | j + 1 => cases h1
  · intro o ho
    rw [List.mem_singleton.1 ho]
    simp [ObAll]
  · rintro o om' ⟨rfl, k, rfl⟩
    refine ⟨rfl, .tup ?_, fun x hx => ?_⟩
    · simp
    · rw [List.mem_singleton.1 hx]
      simp [ObAll]
theorem readN (s : ByteArray) : AP Tryd.prog 9 [.s s] (wdD (pRead s)) := by
  unfold pRead
  by_cases hs : s.size ≤ 65536
  case neg =>
    have h1 : (65536 : Int) < s.size := by omega
    rw [if_pos (by omega)]
    refine AC.lbody hT hm Tryd.func9 f9_nm f9_lc f9_res f9_nt ?_
    simp only [go_sem, Int.reduceEq, Int.reduceLE, Int.reduceLT, Int.reduceToNat, h1]
    exact Fin.ret (.tupL ⟨.aggL (by simp [CvL, Re.c_mk, Re.cs_eq]), .v, .v, trivial⟩)
  rw [if_neg (by omega)]
  have h1 : ¬ (65536 : Int) < s.size := by omega
  have hsz := pWhole_sz s
  refine AC.lbody hT hm Tryd.func9 f9_nm f9_lc f9_res f9_nt ?_
  simp only [go_sem, Int.reduceEq, Int.reduceLE, Int.reduceLT, Int.reduceToNat, h1]
  refine ⟨_, wholeS s hs [_] rfl, ?_⟩
  rintro _ _ ⟨_, ⟨rfl, k, rfl⟩, rfl⟩
  simp only [go_sem, Int.reduceEq, Int.reduceLE, Int.reduceLT, Int.reduceToNat]
  generalize pWhole s = x at hsz ⊢
  obtain ⟨r, p, e⟩ := x
  dsimp only at hsz ⊢
  by_cases he : e = 0
  case neg =>
    have e1 : ((e : Int) == 0) = false := AWP.beq_false (by omega)
    rw [if_neg (fun h => he h.1)]
    simp only [go_sem, Int.reduceEq, Int.reduceLE, Int.reduceLT, Int.reduceToNat, e1]
    exact Fin.ret (.tupL ⟨.same (Re.d_bl _), .v, .v, trivial⟩)
  have e1 : ((e : Int) == 0) = true := by simp [he]
  simp only [go_sem, Int.reduceEq, Int.reduceLE, Int.reduceLT, Int.reduceToNat, e1]
  refine (may r (by omega)).pv ⟨.eq (by show _ = D.sl 6 (Re.cs [r]); rw [Re.cs_eq]; rfl) (by simp), trivial⟩ ?_
  cases hmy : mayB r
  · rw [if_pos ⟨he, rfl⟩]
    simp only [go_sem, Int.reduceEq, Int.reduceLE, Int.reduceLT, Int.reduceToNat]
    exact Fin.ret (.tupL ⟨.aggL (by simp [CvL, Re.c_mk, Re.cs_eq]), .v, .v, trivial⟩)
  · rw [if_neg (by simp)]
    simp only [go_sem, Int.reduceEq, Int.reduceLE, Int.reduceLT, Int.reduceToNat]
    exact Fin.ret (.tupL ⟨.same (Re.d_bl _), .v, .v, trivial⟩)
end Go.Proofs.YtlejbkfefpfolaaDoor.W
set_option maxRecDepth 100000
/- The document's reader: which expressions may be, and what a text is read as. -/
namespace Go.Proofs.YtlejbkfefpfolaaDoor.W
open Go Go.Proofs Go.Proofs.YtlejbkfefpfolaaDoor.AWP
attribute [local irreducible] xl hide aop aops aopQ qops guardP condP
end Go.Proofs.YtlejbkfefpfolaaDoor.W
