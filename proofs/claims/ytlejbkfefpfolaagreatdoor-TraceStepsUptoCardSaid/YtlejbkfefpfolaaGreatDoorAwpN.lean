/- Part of a program logic over data: rules of the walk, each proved. -/
import Derived.Test.YtlejbkfefpfolaaGreatDoorAwpM
set_option linter.unusedVariables false
set_option linter.unusedSimpArgs false
set_option linter.unusedSectionVars false
namespace Go.Proofs.YtlejbkfefpfolaaGreatDoor.AWP
open Go
def putE (env : List D) (dst : Option Tmp) (d : D) : List D :=
 match dst with
 | some t => env.set t d
 | none => env
theorem putE_length (env : List D) (dst : Option Tmp) (d : D) : (putE env dst d).length = env.length := by cases dst <;> simp [putE]
theorem put_eq (env : List D) (om : List Ob) (dst : Option Tmp) (d : D) : St.put ⟨env, om⟩ dst d = ⟨putE env dst d, om⟩ := by cases dst <;> rfl
def qops (P : Program) (T : Tab) (reg : List LOp) (om : List Ob) : List LOp → List D → (List D → Prop) → Prop
 | [], env, K => K env
 | o :: rest, env, K =>
  match o.guard with
  | none => aopQ P T o.op (evD env) om fun d => qops P T reg om rest (putE env o.dst d) K
  | some (j, want) =>
   match (reg[j]?).bind (·.dst) with
   | some t =>
    match gB (env.getD t .any) want with
    | some true => aopQ P T o.op (evD env) om fun d => qops P T reg om rest (putE env o.dst d) K
    | some false => qops P T reg om rest (putE env o.dst (.v undef)) K
    | none => False
   | none => False
def StepOk (P : Program) (T : Tab) (reg : List LOp) (om : List Ob) (o : LOp) (env : List D) (d : D) : Prop :=
 match o.guard with
 | none => aopQ P T o.op (evD env) om (· = d)
 | some (j, want) => ∃ t b, (reg[j]?).bind (·.dst) = some t ∧ gB (env.getD t .any) want = some b ∧ ((b = true ∧ aopQ P T o.op (evD env) om (· = d)) ∨ (b = false ∧ d = .v undef))
def denv (L : Nat → Bool) : Nat → List LOp → List D → List D → List D
 | i, o :: os, d :: ds, e => denv L (i + 1) os ds (if L i then putE e o.dst d else e)
 | _, _, _, e => e
theorem denv_length (L : Nat → Bool) : ∀ (i : Nat) (os : List LOp) (ds : List D) (e : List D), (denv L i os ds e).length = e.length
 | i, o :: os, d :: ds, e => by
  simp only [denv]
  rw [denv_length L (i + 1) os ds]
  split
  ·exact putE_length _ _ _
  ·rfl
 | _, [], _, e => by simp [denv]
 | _, _ :: _, [], e => by simp [denv]
theorem putE_getD_ne {env : List D} {dst : Option Tmp} {d : D} {u : Nat} (h : dst ≠ some u) : (putE env dst d).getD u .any = env.getD u .any := by
 cases dst with
 | none => rfl
 | some t =>
  have : t ≠ u := fun e => h (by rw [e])
  simp [putE, List.getD_eq_getElem?_getD, List.getElem?_set, this]
theorem putE_getD_eq {env : List D} {d : D} {u : Nat} (h : u < env.length) : (putE env (some u) d).getD u .any = d := by
 simp [putE, List.getD_eq_getElem?_getD, List.getElem?_set, h]
theorem denv_old {L : Nat → Bool} : ∀ {i : Nat} {os : List LOp} {ds : List D} {e : List D} {u : Nat}, (∀ j o, os[j]? = some o → o.dst = some u → L (i + j) = false) → (denv L i os ds e).getD u .any = e.getD u .any
 | i, o :: os, d :: ds, e, u, h => by
  simp only [denv]
  rw [denv_old (fun j o' hj hd => by have := h (j + 1) o' (by simpa using hj) hd; rwa [show i + (j + 1) = i + 1 + j by omega] at this)]
  split
  ·rename_i hL
   refine putE_getD_ne fun hd => ?_
   have := h 0 o (by simp) hd
   simp [hL] at this
  ·rfl
 | _, [], _, e, u, _ => by simp [denv]
 | _, _ :: _, [], e, u, _ => by simp [denv]
theorem denv_new {L : Nat → Bool} : ∀ {i : Nat} {os : List LOp} {ds : List D} {e : List D} {u j : Nat} {o : LOp} {d : D}, os[j]? = some o → ds[j]? = some d → o.dst = some u → L (i + j) = true → u < e.length →
  (∀ j' o', os[j']? = some o' → o'.dst = some u → j' = j) → (denv L i os ds e).getD u .any = d
 | i, o0 :: os, d0 :: ds, e, u, j, o, d, h1, h2, h3, h4, h5, h6 => by
  simp only [denv]
  cases j with
  | zero =>
   simp only [List.getElem?_cons_zero, Option.some.injEq] at h1 h2
   subst h1 h2
   rw [denv_old (fun j o' hj hd => by have := h6 (j + 1) o' (by simpa using hj) hd; omega)]
   rw [if_pos (by simpa using h4), h3]
   exact putE_getD_eq h5
  | succ j =>
   simp only [List.getElem?_cons_succ] at h1 h2
   refine denv_new h1 h2 h3 (by rwa [show i + (j + 1) = i + 1 + j by omega] at h4) ?_ (fun j' o' hj hd => by have := h6 (j' + 1) o' (by simpa using hj) hd; omega)
   split
   ·rw [putE_length]; exact h5
   ·exact h5
 | _, [], _, e, u, j, o, d, h1, _, _, _, _, _ => by simp at h1
 | _, _ :: _, [], e, u, j, o, d, _, h2, _, _, _, _ => by simp at h2
theorem denv_congr {L L' : Nat → Bool} : ∀ {i : Nat} {os : List LOp} {ds : List D} {e : List D}, (∀ j, j < os.length → L (i + j) = L' (i + j)) → denv L i os ds e = denv L' i os ds e
 | i, o :: os, d :: ds, e, h => by
  simp only [denv]
  have h0 : L i = L' i := by have := h 0 (by simp); simpa using this
  rw [h0]
  exact denv_congr fun j hj => by have := h (j + 1) (by simpa using hj); rwa [show i + (j + 1) = i + 1 + j by omega] at this
 | _, [], _, e, _ => by simp [denv]
 | _, _ :: _, [], e, _ => by simp [denv]
section
variable {P : Program} {T : Tab}
theorem qops_facts {reg : List LOp} {om : List Ob} : ∀ {os : List LOp} {env : List D} {K : List D → Prop}, qops P T reg om os env K →
  ∃ ds : List D, ds.length = os.length ∧ K (denv (fun _ => true) 0 os ds env) ∧ ∀ i o d, os[i]? = some o → ds[i]? = some d → StepOk P T reg om o (denv (fun j => decide (j < i)) 0 os ds env) d := by
 intro os
 induction os with
 | nil => intro env K h; exact ⟨[], rfl, by simpa [denv, qops] using h, by simp⟩
 | cons o os ih =>
  intro env K h
  have shift : ∀ (L : Nat → Bool) (i : Nat) (os : List LOp) (ds e : List D), denv L (i + 1) os ds e = denv (fun j => L (j + 1)) i os ds e := by
   intro L i os
   induction os generalizing i with
   | nil => intro ds e; simp [denv]
   | cons o os ih =>
    intro ds e
    cases ds with
    | nil => simp [denv]
    | cons d ds => simp only [denv]; exact ih (i + 1) ds _
  have fin : ∀ d, StepOk P T reg om o env d → qops P T reg om os (putE env o.dst d) K → ∃ ds : List D, ds.length = (o :: os).length ∧ K (denv (fun _ => true) 0 (o :: os) ds env) ∧ ∀ i o1 d1, (o :: os)[i]? = some o1 → ds[i]? = some d1 → StepOk P T reg om o1 (denv (fun j => decide (j < i)) 0 (o :: os) ds env) d1 := by
   intro d hd hq
   obtain ⟨ds, h1, h2, h3⟩ := ih hq
   refine ⟨d :: ds, by simp [h1], ?_, fun i o1 d1 ho hd1 => ?_⟩
   ·simp only [denv, if_true]
    rw [shift]
    exact h2
   ·cases i with
    | zero =>
     simp only [List.getElem?_cons_zero, Option.some.injEq] at ho hd1
     subst ho hd1
     have : denv (fun j => decide (j < 0)) 0 (o :: os) (d :: ds) env = env := by
      have : ∀ (i : Nat) (os : List LOp) (ds e : List D), denv (fun j => decide (j < 0)) i os ds e = e := by
       intro i os
       induction os generalizing i with
       | nil => intro ds e; simp [denv]
       | cons o os ih =>
        intro ds e
        cases ds with
        | nil => simp [denv]
        | cons d ds => simp only [denv]; rw [ih]; simp
      exact this _ _ _ _
     rw [this]
     exact hd
    | succ i =>
     simp only [List.getElem?_cons_succ] at ho hd1
     have := h3 i o1 d1 ho hd1
     simp only [denv]
     rw [shift]
     simpa using this
  simp only [qops] at h
  split at h
  ·rename_i hg
   obtain ⟨d, h1, h2⟩ := aopQ_det h
   exact fin d (by simp only [StepOk, hg]; exact h1) h2
  ·rename_i j want hg
   split at h
   ·rename_i t ht
    split at h
    ·rename_i hb
     obtain ⟨d, h1, h2⟩ := aopQ_det h
     exact fin d (by simp only [StepOk, hg]; exact ⟨t, true, ht, hb, .inl ⟨rfl, h1⟩⟩) h2
    ·rename_i hb
     exact fin (.v undef) (by unfold StepOk; rw [hg]; exact ⟨t, false, ht, hb, .inr ⟨rfl, rfl⟩⟩) h
    ·exact h.elim
   ·exact h.elim
def hasEdge (o : Oper) (j : Nat) : Bool := o.after.any fun e => e.on == j && Region.binds .any e
def opTmps (o : Oper) : List Tmp := o.op.operands.toList.filterMap fun | .tmp t => some t | _ => none
def looked (ops : Array Oper) (o : Oper) : List Tmp :=
 opTmps o ++ (match o.guard with | some (g, _) => ((ops[g]?).bind (·.dst)).toList | none => [])
def reachE (ops : Array Oper) : Nat → Nat → Nat → Bool
 | 0, i, j =>
  match ops[i]? with
  | some o => hasEdge o j
  | none => false
 | f + 1, i, j =>
  match ops[i]? with
  | some o => hasEdge o j || o.after.any fun e => Region.binds .any e && reachE ops f e.on j
  | none => false
def drawOk (ops : Array Oper) (pre : List Nat) (m : Nat) (lin : Bool) : Bool :=
 decide (m ≤ ops.size) && pre.all (fun i => decide (i < m)) &&
 ((List.range ops.size).all fun i =>
  match ops[i]? with
  | none => false
  | some o =>
   (o.after.all fun e => !Region.binds .any e || decide (e.on < i)) &&
   (if i < m then
    (List.range m).all fun j =>
     match ops[j]? with
     | none => false
     | some oj => (j == i || oj.dst == none || oj.dst != o.dst) && ((looked ops o).all fun u => oj.dst != some u || (decide (j < i) && hasEdge o j))
   else ((List.range (if lin then i else m)).all fun j => pre.contains j || reachE ops 5 i j) && (lin || o.guard.isNone)))
structure DrawOk (ops : Array Oper) (pre : List Nat) (m : Nat) (lin : Bool) : Prop where
 le : m ≤ ops.size
 prem : ∀ i ∈ pre, i < m
 back : ∀ (i : Nat) (o : Oper) (e : Edge), ops[i]? = some o → e ∈ o.after → Region.binds .any e = true → e.on < i
 dst : ∀ (i j : Nat) (oi oj : Oper), i < m → j < m → ops[i]? = some oi → ops[j]? = some oj → j ≠ i → oj.dst = none ∨ oj.dst ≠ oi.dst
 look : ∀ (i j : Nat) (oi oj : Oper) (u : Tmp), i < m → j < m → ops[i]? = some oi → ops[j]? = some oj → u ∈ looked ops oi → oj.dst = some u → j < i ∧ hasEdge oi j = true
 tail : ∀ (i j : Nat) (oi : Oper), m ≤ i → j < (if lin then i else m) → ops[i]? = some oi → j ∈ pre ∨ reachE ops 5 i j = true
 grd : ∀ (i : Nat) (oi : Oper), m ≤ i → lin = false → ops[i]? = some oi → oi.guard = none
theorem drawOk_spec {ops : Array Oper} {pre : List Nat} {m : Nat} {lin : Bool} (h : drawOk ops pre m lin = true) : DrawOk ops pre m lin := by
 unfold drawOk at h
 simp only [Bool.and_eq_true, decide_eq_true_eq] at h
 obtain ⟨⟨h0, hpre⟩, h⟩ := h
 have hi : ∀ (i : Nat) (o : Oper), ops[i]? = some o → (o.after.all fun e => !Region.binds .any e || decide (e.on < i)) = true ∧
   (if i < m then
    (List.range m).all fun j =>
     match ops[j]? with
     | none => false
     | some oj => (j == i || oj.dst == none || oj.dst != o.dst) && ((looked ops o).all fun u => oj.dst != some u || (decide (j < i) && hasEdge o j))
   else ((List.range (if lin then i else m)).all fun j => pre.contains j || reachE ops 5 i j) && (lin || o.guard.isNone)) = true := by
  intro i o ho
  have hlt := (Array.getElem?_eq_some_iff.1 ho).1
  have := List.all_eq_true.1 h i (List.mem_range.2 hlt)
  simp only [ho, Bool.and_eq_true] at this
  exact this
 refine ⟨h0, fun i hi => by simpa using List.all_eq_true.1 hpre i hi, fun i o e ho he hb => ?_, fun i j oi oj hi' hj' h1 h2 hne => ?_, fun i j oi oj u hi' hj' h1 h2 hu hd => ?_, fun i j oi hm hj ho => ?_, fun i oi hm hl ho => ?_⟩
 ·have := (hi i o ho).1
  rw [Array.all_eq_true'] at this
  have := this e he
  simp [hb] at this
  exact this
 ·have := (hi i oi h1).2
  rw [if_pos hi'] at this
  have := List.all_eq_true.1 this j (List.mem_range.2 hj')
  simp only [h2, Bool.and_eq_true, Bool.or_eq_true, beq_iff_eq, bne_iff_ne] at this
  rcases this.1 with (h | h) | h
  ·exact absurd h hne
  ·exact .inl h
  ·exact .inr h
 ·have := (hi i oi h1).2
  rw [if_pos hi'] at this
  have := List.all_eq_true.1 this j (List.mem_range.2 hj')
  simp only [h2, Bool.and_eq_true] at this
  have := List.all_eq_true.1 this.2 u hu
  simp [hd] at this
  exact this
 ·have := (hi i oi ho).2
  rw [if_neg (by omega)] at this
  rw [Bool.and_eq_true] at this
  have := List.all_eq_true.1 this.1 j (List.mem_range.2 hj)
  simpa using this
 ·have := (hi i oi ho).2
  rw [if_neg (by omega), Bool.and_eq_true, hl] at this
  simpa using this.2
theorem hasEdge_listed {ops : Array Oper} {listed : Array Bool} {i j : Nat} {o : Oper} (ho : ops[i]? = some o) (hr : i ∈ Region.ready .any ops listed) (he : hasEdge o j = true) : listed.getD j false = true := by
 obtain ⟨_, o', ho', hall⟩ := mem_ready.1 hr
 rw [ho] at ho'
 injection ho' with ho'
 subst ho'
 unfold hasEdge at he
 rw [Array.any_eq_true'] at he
 obtain ⟨e, h1, h2⟩ := he
 simp only [Bool.and_eq_true, beq_iff_eq] at h2
 have := hall e h1 h2.2
 rwa [h2.1] at this
def Closed (ops : Array Oper) (listed : Array Bool) : Prop := ∀ (i : Nat) (o : Oper) (e : Edge), ops[i]? = some o → listed.getD i false = true → e ∈ o.after → Region.binds .any e = true → listed.getD e.on false = true
theorem closed_set {ops : Array Oper} {listed : Array Bool} {i : Nat} (hc : Closed ops listed) (hr : i ∈ Region.ready .any ops listed) : Closed ops (listed.setIfInBounds i true) := by
 have mono : ∀ j, listed.getD j false = true → (listed.setIfInBounds i true).getD j false = true := by
  intro j h
  simp only [Array.getD_eq_getD_getElem?, Array.getElem?_setIfInBounds] at h ⊢
  split
  ·rename_i e
   subst e
   split
   ·rfl
   ·rename_i hn
    rw [Array.getElem?_eq_none (by omega)] at h
    simp at h
  ·exact h
 intro j o e ho hl he hb
 by_cases hji : j = i
 ·subst hji
  obtain ⟨_, o', ho', hall⟩ := mem_ready.1 hr
  rw [ho] at ho'
  injection ho' with ho'
  subst ho'
  exact mono _ (hall e he hb)
 ·refine mono _ (hc j o e ho ?_ he hb)
  have : i ≠ j := fun h => hji h.symm
  simpa [Array.getD_eq_getD_getElem?, Array.getElem?_setIfInBounds, this] using hl
theorem closed_reach {ops : Array Oper} {listed : Array Bool} (hc : Closed ops listed) : ∀ {f i j : Nat}, listed.getD i false = true → reachE ops f i j = true → listed.getD j false = true := by
 intro f
 have edge : ∀ {i j : Nat} {o : Oper}, ops[i]? = some o → listed.getD i false = true → hasEdge o j = true → listed.getD j false = true := by
  intro i j o ho hl he
  unfold hasEdge at he
  rw [Array.any_eq_true'] at he
  obtain ⟨e, h1, h2⟩ := he
  simp only [Bool.and_eq_true, beq_iff_eq] at h2
  have := hc i o e ho hl h1 h2.2
  rwa [h2.1] at this
 induction f with
 | zero =>
  intro i j hl h
  simp only [reachE] at h
  split at h
  ·rename_i o ho; exact edge ho hl h
  ·cases h
 | succ f ih =>
  intro i j hl h
  simp only [reachE] at h
  split at h
  ·rename_i o ho
   rw [Bool.or_eq_true] at h
   rcases h with h | h
   ·exact edge ho hl h
   ·rw [Array.any_eq_true'] at h
    obtain ⟨e, h1, h2⟩ := h
    simp only [Bool.and_eq_true] at h2
    exact ih (hc i o e ho hl h1 h2.1) h2.2
  ·cases h
theorem ready_reach {ops : Array Oper} {listed : Array Bool} {f i j : Nat} (hc : Closed ops listed) (hr : i ∈ Region.ready .any ops listed) (h : reachE ops f i j = true) : listed.getD j false = true := by
 obtain ⟨_, o, ho, hall⟩ := mem_ready.1 hr
 cases f with
 | zero =>
  simp only [reachE, ho] at h
  exact hasEdge_listed ho hr h
 | succ f =>
  simp only [reachE, ho, Bool.or_eq_true] at h
  rcases h with h | h
  ·exact hasEdge_listed ho hr h
  ·rw [Array.any_eq_true'] at h
   obtain ⟨e, h1, h2⟩ := h
   simp only [Bool.and_eq_true] at h2
   exact closed_reach hc (hall e h1 h2.1) h2.2
end
end Go.Proofs.YtlejbkfefpfolaaGreatDoor.AWP
