/- Regions that draw their order, new variables among the operations. -/
import Derived.Test.YtlejbkfefpfolaaGreatDoorAwpO
set_option linter.unusedVariables false
set_option linter.unusedSimpArgs false
set_option linter.unusedSectionVars false
namespace Go.Proofs.YtlejbkfefpfolaaGreatDoor.AWP
open Go
def ObAll (p : D → Prop) : Ob → Prop
 | .var _ c => ∀ d ∈ c, p d
 | .slc _ _ rows => ∀ r ∈ rows, ∀ d ∈ r, p d
 | .frz sz rows => p (.sl sz rows)
 | .frv c => p (.pel c)
 | .lp _ _ _ _ _ env => ∀ d ∈ env, p d
 | .dead => True
theorem ObAll.triv {o : Ob} : ObAll (fun _ => True) o := by cases o <;> simp [ObAll]
theorem CellsR.via {E E' : Env} {c : List D} {cs : Array Value} (rd : ∀ d ∈ c, ∀ y, Rd E d y → Rd E' d y) (h : CellsR E c cs) : CellsR E' c cs :=
 fun j d hj => let ⟨y, h1, h2, h3⟩ := h j d hj; ⟨y, h1, h2, rd d (List.mem_of_getElem? hj) y h3⟩
theorem ObR.via {E E' : Env} {k k' : Nat} {o : Ob} {p : D → Prop} (hg : E'.g k' = E.g k) (ha : ObAll p o) (rd : ∀ d, p d → ∀ y, Rd E d y → Rd E' d y)
  (hw : o.live = true → ∀ b, hb (E.g k) = some b → E'.w.heap[b]? = E.w.heap[b]? ∧ ¬ E'.A b) (h : ObR E k o) : ObR E' k' o := by
 cases o with
 | var ty c =>
  obtain ⟨b, cs, h1, h2, h3, h4, h5⟩ := h
  obtain ⟨e1, e2⟩ := hw rfl b (by rw [h1]; rfl)
  exact ⟨b, cs, by rw [hg]; exact h1, by rw [e1]; exact h2, e2, h4, h5.via fun d hd => rd d (ha d hd)⟩
 | slc ty sz rows =>
  obtain ⟨h0, hs, h | ⟨b, cs, cap, h1, h2, h3, h4, h5, h6, h7⟩⟩ := h
  ·exact ⟨h0, hs, .inl ⟨by rw [hg]; exact h.1, h.2⟩⟩
  ·obtain ⟨e1, e2⟩ := hw rfl b (by rw [h1]; rfl)
   refine ⟨h0, hs, .inr ⟨b, cs, cap, by rw [hg]; exact h1, by rw [e1]; exact h2, e2, h4, h5, h6, h7.via fun d hd => ?_⟩⟩
   obtain ⟨r, hr, hd⟩ := List.mem_flatten.1 hd
   exact rd d (ha r hr d hd)
 | frz sz rows => exact ⟨by rw [hg]; exact rd _ ha _ h.1, by rw [hg]; exact h.2⟩
 | frv c => exact ⟨by rw [hg]; exact rd _ ha _ h.1, by rw [hg]; exact h.2⟩
 | lp ps as bo st pe env =>
  obtain ⟨b, r, h1, h2, h3, h4, h5, h6, h7, h8, h9, h10⟩ := h
  obtain ⟨e1, e2⟩ := hw rfl b (by rw [h1]; rfl)
  refine ⟨b, r, by rw [hg]; exact h1, by rw [e1]; exact h2, e2, h4, h5, h6, h7, h8, h9, fun t => ?_⟩
  have := h10 t
  by_cases ht : t < env.length
  ·have e : env.getD t .any = env[t] := by simp [List.getD_eq_getElem?_getD, ht]
   rw [e] at this ⊢
   exact rd _ (ha _ (List.getElem_mem ht)) _ this
  ·have e : env.getD t .any = .any := by simp [List.getD_eq_getElem?_getD, ht]
   rw [e]; exact .any _
 | dead => trivial
section
variable {P : Program} {T : Tab}
def alOf (o : LOp) : Option Nat :=
 match o.op, o.dst, o.guard with
 | .alloc t, some _, none => some t
 | _, _, _ => none
theorem alOf_some {o : LOp} {t : Nat} (h : alOf o = some t) : o.op = .alloc t ∧ (∃ d, o.dst = some d) ∧ o.guard = none := by
 unfold alOf at h
 split at h
 ·rename_i t' d' h1 h2 h3
  cases h
  exact ⟨h1, ⟨_, h2⟩, h3⟩
 ·cases h
def stOf (o : LOp) : Option (Nat × Nat × Operand) :=
 match o.op, o.dst, o.guard with
 | .store t (.tmp u) x, none, none => some (t, u, x)
 | _, _, _ => none
theorem stOf_some {o : LOp} {t u : Nat} {x : Operand} (h : stOf o = some (t, u, x)) : o.op = .store t (.tmp u) x ∧ o.dst = none ∧ o.guard = none := by
 unfold stOf at h
 split at h
 ·rename_i h1 h2 h3
  cases h
  exact ⟨h1, h2, h3⟩
 ·cases h
theorem stOf_al {o : LOp} {t : Nat} (h : alOf o = some t) : stOf o = none := by
 obtain ⟨h1, ⟨d, h2⟩, _⟩ := alOf_some h
 unfold stOf
 rw [h1]
def stFit (T : Tab) (t : Nat) (d : D) : Prop := ∃ zi c, T t = some zi ∧ cellsOf d = some c ∧ c.length = zi.zero.length
def qopsA (P : Program) (T : Tab) (reg : List LOp) (om : List Ob) : List LOp → List D → (List D → Prop) → Prop
 | [], env, K => K env
 | o :: rest, env, K =>
  match alOf o with
  | some t => (T t).isSome = true ∧ qopsA P T reg om rest (putE env o.dst .any) K
  | none =>
   match stOf o with
   | some (t, u, x) => u < env.length ∧ stFit T t (evD env x) ∧ qopsA P T reg om rest env K
   | none =>
   match o.guard with
   | none => aopQ P T o.op (evD env) om fun d => qopsA P T reg om rest (putE env o.dst d) K
   | some (j, want) =>
    match (reg[j]?).bind (·.dst) with
    | some t =>
     match gB (env.getD t .any) want with
     | some true => aopQ P T o.op (evD env) om fun d => qopsA P T reg om rest (putE env o.dst d) K
     | some false => qopsA P T reg om rest (putE env o.dst (.v undef)) K
     | none => False
    | none => False
def contA (env : List D) (dst : Option Nat) (z : List D) : List LOp → List D
 | [] => z
 | o :: os =>
  match stOf o with
  | some (_, u, x) => if dst = some u then (cellsOf (evD env x)).getD [] else contA env dst z os
  | none => contA env dst z os
def adopt (T : Tab) (full : List LOp) (env0 : List D) : List LOp → St → St
 | [], s => s
 | o :: os, s =>
  match alOf o with
  | some t =>
   match T t with
   | some zi => adopt T full env0 os ⟨putE s.env o.dst (.ref s.om.length 0), s.om ++ [.var t (contA env0 o.dst (zeroD zi) full)]⟩
   | none => adopt T full env0 os s
  | none => adopt T full env0 os s
def StepA (P : Program) (T : Tab) (reg : List LOp) (om : List Ob) (o : LOp) (env : List D) (d : D) : Prop :=
 match alOf o with
 | some t => (T t).isSome = true
 | none =>
  match stOf o with
  | some (t, u, x) => u < env.length ∧ stFit T t d ∧ evD env x = d
  | none => StepOk P T reg om o env d
theorem denv_shift (L : Nat → Bool) : ∀ (i : Nat) (os : List LOp) (ds e : List D), denv L (i + 1) os ds e = denv (fun j => L (j + 1)) i os ds e := by
 intro i os
 induction os generalizing i with
 | nil => intro ds e; simp [denv]
 | cons o os ih =>
  intro ds e
  cases ds with
  | nil => simp [denv]
  | cons d ds => simp only [denv]; exact ih (i + 1) ds _
theorem denv_none (L : Nat → Bool) (hL : ∀ j, L j = false) : ∀ (i : Nat) (os : List LOp) (ds e : List D), denv L i os ds e = e := by
 intro i os
 induction os generalizing i with
 | nil => intro ds e; simp [denv]
 | cons o os ih =>
  intro ds e
  cases ds with
  | nil => simp [denv]
  | cons d ds => simp only [denv, hL]; rw [ih]; simp
theorem qopsA_facts {reg : List LOp} {om : List Ob} : ∀ {os : List LOp} {env : List D} {K : List D → Prop}, qopsA P T reg om os env K →
  ∃ ds : List D, ds.length = os.length ∧ K (denv (fun _ => true) 0 os ds env) ∧ (∀ i o d, os[i]? = some o → ds[i]? = some d → StepA P T reg om o (denv (fun j => decide (j < i)) 0 os ds env) d) ∧ ∀ (i : Nat) (o : LOp) (t : Nat), os[i]? = some o → alOf o = some t → ds[i]? = some D.any := by
 intro os
 induction os with
 | nil => intro env K h; exact ⟨[], rfl, by simpa [denv, qopsA] using h, by simp, by simp⟩
 | cons o os ih =>
  intro env K h
  have fin : ∀ d, StepA P T reg om o env d → (∀ t, alOf o = some t → d = .any) → qopsA P T reg om os (putE env o.dst d) K → ∃ ds : List D, ds.length = (o :: os).length ∧ K (denv (fun _ => true) 0 (o :: os) ds env) ∧ (∀ i o1 d1, (o :: os)[i]? = some o1 → ds[i]? = some d1 → StepA P T reg om o1 (denv (fun j => decide (j < i)) 0 (o :: os) ds env) d1) ∧ ∀ (i : Nat) (o1 : LOp) (t : Nat), (o :: os)[i]? = some o1 → alOf o1 = some t → ds[i]? = some D.any := by
   intro d hd hal hq
   obtain ⟨ds, h1, h2, h3, h4⟩ := ih hq
   refine ⟨d :: ds, by simp [h1], ?_, fun i o1 d1 ho hd1 => ?_, fun i o1 t ho ha => ?_⟩
   ·simp only [denv, if_true]
    rw [denv_shift]
    exact h2
   ·cases i with
    | zero =>
     simp only [List.getElem?_cons_zero, Option.some.injEq] at ho hd1
     subst ho hd1
     rw [denv_none _ (fun j => by simp)]
     exact hd
    | succ i =>
     simp only [List.getElem?_cons_succ] at ho hd1
     have := h3 i o1 d1 ho hd1
     simp only [denv]
     rw [denv_shift]
     simpa using this
   ·cases i with
    | zero =>
     simp only [List.getElem?_cons_zero, Option.some.injEq] at ho ⊢
     subst ho
     exact hal t ha
    | succ i =>
     simp only [List.getElem?_cons_succ] at ho ⊢
     exact h4 i o1 t ho ha
  simp only [qopsA] at h
  split at h
  ·rename_i t ha
   exact fin .any (by unfold StepA; rw [ha]; exact h.1) (fun _ _ => rfl) h.2
  ·rename_i ha
   have noal : ∀ d : D, ∀ t, alOf o = some t → d = .any := fun d t h => by rw [ha] at h; cases h
   split at h
   ·rename_i t u x hst
    refine fin (evD env x) (by unfold StepA; rw [ha]; dsimp only; rw [hst]; exact ⟨h.1, h.2.1, rfl⟩) (noal _) ?_
    rw [(stOf_some hst).2.1]
    exact h.2.2
   rename_i hst
   split at h
   ·rename_i hg
    obtain ⟨d, h1, h2⟩ := aopQ_det h
    exact fin d (by unfold StepA; rw [ha]; dsimp only; rw [hst]; simp only [StepOk, hg]; exact h1) (noal d) h2
   ·rename_i j want hg
    split at h
    ·rename_i t ht
     split at h
     ·rename_i hb
      obtain ⟨d, h1, h2⟩ := aopQ_det h
      exact fin d (by unfold StepA; rw [ha]; dsimp only; rw [hst]; simp only [StepOk, hg]; exact ⟨t, true, ht, hb, .inl ⟨rfl, h1⟩⟩) (noal d) h2
     ·rename_i hb
      exact fin (.v undef) (by unfold StepA; rw [ha]; dsimp only; rw [hst]; unfold StepOk; rw [hg]; exact ⟨t, false, ht, hb, .inr ⟨rfl, rfl⟩⟩) (noal _) h
     ·exact h.elim
    ·exact h.elim
def lookA (ops : Array Oper) (o : Oper) : List Nat :=
 match stOf (lop o) with
 | some (_, _, .tmp v) => [v]
 | some _ => []
 | none => looked ops o
def alFree (ops : Array Oper) (m : Nat) : Bool :=
 ((List.range m).any fun i => match ops[i]? with | some o => (alOf (lop o)).isSome | none => false) && ((List.range m).all fun i => (List.range m).all fun j =>
  match ops[i]?, ops[j]? with
  | some oi, some oj => (alOf (lop oj)).isNone || (lookA ops oi).all fun u => oj.dst != some u
  | _, _ => true) && ((List.range m).all fun i =>
  match ops[i]? with
  | some oi => match stOf (lop oi) with
   | some (t, u, _) => ((List.range m).any fun j => match ops[j]? with | some oj => alOf (lop oj) == some t && oj.dst == some u | none => false) &&
     (List.range m).all fun j => match ops[j]? with
      | some oj => match stOf (lop oj) with
       | some (_, u', _) => u' != u || j == i
       | none => true
      | none => true
   | none => true
  | none => true)
theorem alFree_spec {ops : Array Oper} {m : Nat} (h : alFree ops m = true) {i j : Nat} {oi oj : Oper} {t u : Nat} (hi : i < m) (hj : j < m) (h1 : ops[i]? = some oi) (h2 : ops[j]? = some oj) (ha : alOf (lop oj) = some t) (hu : u ∈ lookA ops oi) : oj.dst ≠ some u := by
 unfold alFree at h
 rw [Bool.and_eq_true, Bool.and_eq_true] at h
 have := List.all_eq_true.1 (List.all_eq_true.1 h.1.2 i (List.mem_range.2 hi)) j (List.mem_range.2 hj)
 simp only [h1, h2, ha, Option.isNone_some, Bool.false_or] at this
 have := List.all_eq_true.1 this u hu
 simpa using this
theorem alFree_st {ops : Array Oper} {m : Nat} (h : alFree ops m = true) {i : Nat} {oi : Oper} {t u : Nat} {x : Operand} (hi : i < m) (h1 : ops[i]? = some oi) (hst : stOf (lop oi) = some (t, u, x)) :
  (∃ j oj, j < m ∧ ops[j]? = some oj ∧ alOf (lop oj) = some t ∧ oj.dst = some u) ∧ ∀ (j : Nat) (oj : Oper) (t' : Nat) (x' : Operand), j < m → ops[j]? = some oj → stOf (lop oj) = some (t', u, x') → j = i := by
 unfold alFree at h
 rw [Bool.and_eq_true, Bool.and_eq_true] at h
 have h3 := List.all_eq_true.1 h.2 i (List.mem_range.2 hi)
 simp only [h1, hst, Bool.and_eq_true] at h3
 obtain ⟨h4, h5⟩ := h3
 obtain ⟨j, hj, h6⟩ := List.any_eq_true.1 h4
 refine ⟨?_, fun j oj t' x' hj hoj hs => ?_⟩
 ·have hjm := List.mem_range.1 hj
  cases hoj : ops[j]? with
  | none => simp [hoj] at h6
  | some oj =>
   simp only [hoj, Bool.and_eq_true, beq_iff_eq] at h6
   exact ⟨j, oj, hjm, hoj, h6.1, h6.2⟩
 ·have := List.all_eq_true.1 h5 j (List.mem_range.2 hj)
  simp only [hoj, hs] at this
  simpa using this
def dsF (os : List LOp) (ds : List D) (b : Nat → Nat) : List D := ds.mapIdx fun i d => if ((os[i]?).bind alOf).isSome then .v (.pointer (some ⟨b i, 0, none⟩)) else d
theorem dsF_len (os : List LOp) (ds : List D) (b : Nat → Nat) : (dsF os ds b).length = ds.length := by simp [dsF]
theorem dsF_al {os : List LOp} {ds : List D} {b : Nat → Nat} {i : Nat} {o : LOp} {t : Nat} (ho : os[i]? = some o) (ha : alOf o = some t) (hl : i < ds.length) : (dsF os ds b)[i]? = some (.v (.pointer (some ⟨b i, 0, none⟩))) := by
 simp [dsF, ho, ha, hl]
theorem dsF_no {os : List LOp} {ds : List D} {b : Nat → Nat} {i : Nat} {o : LOp} {d : D} (ho : os[i]? = some o) (ha : alOf o = none) (hd : ds[i]? = some d) : (dsF os ds b)[i]? = some d := by
 simp [dsF, ho, ha, hd]
theorem denv_ds {L : Nat → Bool} : ∀ {i : Nat} {os : List LOp} {ds ds' : List D} {e : List D}, ds.length = ds'.length → (∀ j, L (i + j) = true → ds[j]? = ds'[j]?) → denv L i os ds e = denv L i os ds' e
 | i, [], _, _, e, _, _ => by simp [denv]
 | i, _ :: _, [], [], e, _, _ => rfl
 | i, _ :: _, [], _ :: _, e, h, _ => by cases h
 | i, _ :: _, _ :: _, [], e, h, _ => by cases h
 | i, o :: os, d :: ds, d' :: ds', e, h, hd => by
  simp only [denv]
  rw [denv_ds (ds := ds) (ds' := ds') (by simpa using h) (fun j hj => by have := hd (j + 1) (by rw [show i + (j + 1) = i + 1 + j from by omega]; exact hj); simpa using this)]
  cases hL : L i
  ·rfl
  ·have := hd 0 (by rw [Nat.add_zero]; exact hL)
   simp at this
   rw [this]
theorem denv_at {L : Nat → Bool} {u : Nat} : ∀ {i : Nat} {os : List LOp} {ds ds' : List D} {e e' : List D}, ds.length = ds'.length → e.length = e'.length → e.getD u .any = e'.getD u .any → (∀ (j : Nat) (o : LOp), os[j]? = some o → o.dst = some u → ds[j]? = ds'[j]?) → (denv L i os ds e).getD u .any = (denv L i os ds' e').getD u .any
 | i, [], _, _, e, e', _, _, h, _ => by simpa [denv] using h
 | i, _ :: _, [], [], e, e', _, _, h, _ => h
 | i, _ :: _, [], _ :: _, e, e', h, _, _, _ => by cases h
 | i, _ :: _, _ :: _, [], e, e', h, _, _, _ => by cases h
 | i, o :: os, d :: ds, d' :: ds', e, e', h, hl, he, hd => by
  simp only [denv]
  refine denv_at (by simpa using h) ?_ ?_ fun j o1 h1 h2 => by have := hd (j + 1) o1 (by simpa using h1) h2; simpa using this
  ·cases L i
   ·exact hl
   ·simp only [if_true, putE_length]; exact hl
  ·cases L i
   ·exact he
   ·simp only [if_true]
    by_cases hu : o.dst = some u
    ·have := hd 0 o rfl hu
     simp at this
     subst this
     rw [hu]
     by_cases hul : u < e.length
     ·rw [putE_getD_eq hul, putE_getD_eq (by omega)]
     ·rw [List.getD_eq_getElem?_getD, List.getD_eq_getElem?_getD, List.getElem?_eq_none (by rw [putE_length]; omega), List.getElem?_eq_none (by rw [putE_length]; omega)]
    ·rw [putE_getD_ne hu, putE_getD_ne hu]; exact he
theorem alloc_pin {lo : Lo} {E : Env} {s : St} {a : Act} {o : Oper} {t : Nat} {i : TI} {r : Option Nat} {next : Act → World → Prop} {Q : Exit → Act → World → Prop} (hT : TabOk P T) (hs : Sat lo E s a) (hop : o.op = .alloc t) (hi : T t = some i)
  (hn : ∀ (E' : Env) (a' : Act), E'.n = E.n → E'.g = E.g → E'.A = E.A → Ext E s.om E' s.om → Sat lo E' (s.put o.dst (.v (.pointer (some ⟨E.w.heap.size, 0, none⟩)))) a' → (∃ cs, E'.w.heap[E.w.heap.size]? = some (.cells cs t (0, 0)) ∧ cs.size = (zeroD i).length ∧ CellsR E' (zeroD i) cs) → E'.w.heap.size = E.w.heap.size + 1 → next a' E'.w) :
  o.wpIn (fence r) 0 P a E.w next Q := by
 obtain ⟨z, hz1, hz2, _⟩ := (hT _ _ hi).zeroValue (w := E.w)
 obtain ⟨h1, h2⟩ := zero_cells (E := E) (hT _ _ hi) hz2
 let E' : Env := ⟨E.n, E.g, E.A, E.w.alloc (.cells z.cells t)⟩
 have hx : Ext E s.om E' s.om := ⟨Nat.le_refl _, fun _ _ => rfl, fun _ h => h, by simp [E'], rfl, rfl, rfl, fun b hb' _ => heap_alloc_lt _ _ _ hb', fun b hl => .inl hl, fun b hA => .inl hA⟩
 have hR : Rel E' s.om := by
  refine ⟨hs.rel.len, fun k o hk => ?_, hs.rel.inj, fun b hA => ?_, hs.rel.one, fun g c h => (hs.rel.gt g c h).ext hs.rel hx⟩
  ·refine ObR.keep hs.rel hx (by rw [← hs.rel.len]; exact (List.getElem?_eq_some_iff.1 hk).1) (hs.rel.ob k o hk) fun hl b hb => ?_
   have := hs.rel.live_lt ⟨k, o, hk, hl, hb⟩
   exact ⟨heap_alloc_lt _ _ _ this.1, this.2⟩
  ·have := hs.rel.old b hA
   simp [E']; omega
 have hrun : (Instr.alloc t true (.tuple #[])).run P E.w = .ok (.pointer (some ⟨E.w.heap.size, 0, none⟩)) (E.w.alloc (.cells z.cells t)) := by
  simp [Instr.alloc, hz1, newVar, newRow]
 have hd : notDefer o := fun c hc => by rw [hop] at hc; cases hc
 refine ⟨fun _ _ => trivial, ?_⟩
 rw [Oper.semAt_eq _ _ _ hd]
 have ho : execOp a.eval o = (do pure (.value (← Instr.alloc t true (.tuple #[]))) : Sem Next) := by simp [execOp, hop]
 rw [ho]
 simp only [Sem.run_bind, hrun, Result.andThen_ok, Sem.run_pure, Oper.uponIn]
 refine hn E' _ rfl rfl rfl hx (hs.put hx hR (.v _) o.dst) ⟨z.cells, heap_alloc_at _ _, h1, h2.ext hs.rel hx⟩ (by simp [E'])
theorem head_core {ops : Array Oper} {reg : List LOp} (hreg : ops.toList.map lop = reg) {pre : List Nat} {m : Nat} {lin : Bool} (hok : DrawOk ops pre m lin) {env0 ds : List D} (hds : ds.length = (reg.take m).length)
  {listed : Array Bool} {i : Nat} {o : Oper} (hsz : listed.size = ops.size) (hi : i ∈ Region.ready .any ops listed) (ho : ops[i]? = some o) (him : i < m) : ∃ d, ds[i]? = some d ∧
   (∀ u, u ∈ looked ops o → (denv (fun j => decide (j < i)) 0 (reg.take m) ds env0).getD u .any = (denv (fun j => listed.getD j true) 0 (reg.take m) ds env0).getD u .any) ∧
   putE (denv (fun j => listed.getD j true) 0 (reg.take m) ds env0) o.dst d = denv (fun j => (listed.setIfInBounds i true).getD j true) 0 (reg.take m) ds env0 := by
 have hlen : ops.size = reg.length := by rw [← hreg]; simp
 have hmr : (reg.take m).length = m := by have := hok.le; simp; omega
 have hget : ∀ (i : Nat) (o : Oper), ops[i]? = some o → i < m → (reg.take m)[i]? = some (lop o) := by
  intro i o ho hi
  rw [List.getElem?_take_of_lt hi, ← hreg]
  simp [ho]
 have hget' : ∀ (i : Nat) (l : LOp), (reg.take m)[i]? = some l → ∃ o, ops[i]? = some o ∧ l = lop o ∧ i < m := by
  intro i l h
  have hi := (List.getElem?_eq_some_iff.1 h).1
  rw [hmr] at hi
  rw [List.getElem?_take_of_lt hi, ← hreg] at h
  simp only [List.getElem?_map, Option.map_eq_some_iff, Array.getElem?_toList] at h
  obtain ⟨o, ho, rfl⟩ := h
  exact ⟨o, ho, rfl, hi⟩
 have hro := hget i o ho him
 obtain ⟨d, hd⟩ : ∃ d, ds[i]? = some d := ⟨ds[i]'(by rw [hds, hmr]; exact him), List.getElem?_eq_getElem (by rw [hds, hmr]; exact him)⟩
 have his := (Array.getElem?_eq_some_iff.1 ho).1
 have hil := (mem_ready.1 hi).1
 have hlook : ∀ u, u ∈ looked ops o → (denv (fun j => decide (j < i)) 0 (reg.take m) ds env0).getD u .any = (denv (fun j => listed.getD j true) 0 (reg.take m) ds env0).getD u .any := by
  intro u hu
  by_cases hex : ∃ (j : Nat) (l : LOp), (reg.take m)[j]? = some l ∧ l.dst = some u
  ·obtain ⟨j, l, hj, hl⟩ := hex
   obtain ⟨oj, hoj, rfl, hjm⟩ := hget' j l hj
   obtain ⟨hji, hedge⟩ := hok.look i j o oj u him hjm ho hoj hu hl
   have hlj := hasEdge_listed ho hi hedge
   rw [← getD_true_of (by have := hok.le; omega)] at hlj
   obtain ⟨dj, hdj⟩ : ∃ d, ds[j]? = some d := ⟨ds[j]'(by rw [hds, hmr]; exact hjm), List.getElem?_eq_getElem (by rw [hds, hmr]; exact hjm)⟩
   have huniq : ∀ j' o', (reg.take m)[j']? = some o' → o'.dst = some u → j' = j := by
    intro j' l' hj' hl'
    obtain ⟨oj', hoj', rfl, hjm'⟩ := hget' j' l' hj'
    by_cases e : j' = j
    ·exact e
    ·rcases hok.dst j j' oj oj' hjm hjm' hoj hoj' e with h | h
     ·have : oj'.dst = some u := hl'
      rw [h] at this; cases this
     ·have h1 : oj'.dst = some u := hl'
      have h2 : oj.dst = some u := hl
      rw [h1, h2] at h
      exact absurd rfl h
   by_cases hul : u < env0.length
   ·rw [denv_new (L := fun j => decide (j < i)) hj hdj hl (by simpa using hji) hul huniq, denv_new (L := fun j => listed.getD j true) hj hdj hl (by rw [Nat.zero_add]; exact hlj) hul huniq]
   ·have h1 : (denv (fun j => decide (j < i)) 0 (reg.take m) ds env0).length ≤ u := by rw [denv_length]; exact Nat.le_of_not_lt hul
    have h2 : (denv (fun j => listed.getD j true) 0 (reg.take m) ds env0).length ≤ u := by rw [denv_length]; exact Nat.le_of_not_lt hul
    rw [List.getD_eq_getElem?_getD, List.getD_eq_getElem?_getD, List.getElem?_eq_none h1, List.getElem?_eq_none h2]
  ·rw [denv_old (fun j l hj hl => absurd ⟨j, l, hj, hl⟩ hex), denv_old (fun j l hj hl => absurd ⟨j, l, hj, hl⟩ hex)]
 have hput : putE (denv (fun j => listed.getD j true) 0 (reg.take m) ds env0) o.dst d = denv (fun j => (listed.setIfInBounds i true).getD j true) 0 (reg.take m) ds env0 := by
  apply List.ext_getElem?
  intro u
  have getE : ∀ (l : List D), l.length = env0.length → l[u]? = if u < env0.length then some (l.getD u .any) else none := by
   intro l hl
   split
   ·rename_i h; simp [List.getD_eq_getElem?_getD, List.getElem?_eq_getElem (show u < l.length by omega)]
   ·rename_i h; exact List.getElem?_eq_none (by omega)
  rw [getE _ (by rw [putE_length, denv_length]), getE _ (by rw [denv_length])]
  split
  ·rename_i hul
   congr 1
   by_cases hdu : o.dst = some u
   ·have huniq : ∀ j' o', (reg.take m)[j']? = some o' → o'.dst = some u → j' = i := by
     intro j' l' hj' hl'
     obtain ⟨oj', hoj', rfl, hjm'⟩ := hget' j' l' hj'
     by_cases e : j' = i
     ·exact e
     ·rcases hok.dst i j' o oj' him hjm' ho hoj' e with h | h
      ·have : oj'.dst = some u := hl'
       rw [h] at this; cases this
      ·have h1 : oj'.dst = some u := hl'
       rw [h1, hdu] at h
       exact absurd rfl h
    rw [hdu, putE_getD_eq (by rw [denv_length]; exact hul)]
    rw [denv_new (L := fun j => (listed.setIfInBounds i true).getD j true) hro hd (by exact hdu) (by rw [Nat.zero_add, set_getD (by omega), if_pos rfl]) hul huniq]
   ·rw [putE_getD_ne hdu]
    by_cases hex : ∃ (j : Nat) (l : LOp), (reg.take m)[j]? = some l ∧ l.dst = some u
    ·obtain ⟨j, l, hj, hl⟩ := hex
     obtain ⟨oj, hoj, rfl, hjm⟩ := hget' j l hj
     have hji : j ≠ i := by
      rintro rfl
      rw [ho] at hoj
      injection hoj with hoj
      subst hoj
      exact hdu hl
     obtain ⟨dj, hdj⟩ : ∃ d, ds[j]? = some d := ⟨ds[j]'(by rw [hds, hmr]; exact hjm), List.getElem?_eq_getElem (by rw [hds, hmr]; exact hjm)⟩
     have huniq : ∀ j' o', (reg.take m)[j']? = some o' → o'.dst = some u → j' = j := by
      intro j' l' hj' hl'
      obtain ⟨oj', hoj', rfl, hjm'⟩ := hget' j' l' hj'
      by_cases e : j' = j
      ·exact e
      ·rcases hok.dst j j' oj oj' hjm hjm' hoj hoj' e with h | h
       ·have : oj'.dst = some u := hl'
        rw [h] at this; cases this
       ·have h1 : oj'.dst = some u := hl'
        have h2 : oj.dst = some u := hl
        rw [h1, h2] at h
        exact absurd rfl h
     cases hlj : listed.getD j true with
     | true =>
      rw [denv_new (L := fun j => listed.getD j true) hj hdj hl (by rw [Nat.zero_add]; exact hlj) hul huniq, denv_new (L := fun j => (listed.setIfInBounds i true).getD j true) hj hdj hl (by rw [Nat.zero_add, set_getD (by omega), if_neg hji]; exact hlj) hul huniq]
     | false =>
      have hno : ∀ (L : Nat → Bool), L j = false → ∀ j' o', (reg.take m)[j']? = some o' → o'.dst = some u → L (0 + j') = false := by
       intro L hL j' o' h1 h2
       rw [huniq j' o' h1 h2, Nat.zero_add]
       exact hL
      rw [denv_old (hno (fun j => listed.getD j true) hlj), denv_old (hno (fun j => (listed.setIfInBounds i true).getD j true) (by rw [set_getD (by omega), if_neg hji]; exact hlj))]
    ·rw [denv_old (fun j l hj hl => absurd ⟨j, l, hj, hl⟩ hex), denv_old (fun j l hj hl => absurd ⟨j, l, hj, hl⟩ hex)]
  ·rfl
 exact ⟨d, hd, hlook, hput⟩
structure Blk (T : Tab) (sz0 : Nat) (om : List Ob) (E : Env) (t b : Nat) (c : List D) : Prop where
 cells : ∃ zi cs, T t = some zi ∧ E.w.heap[b]? = some (.cells cs t (0, 0)) ∧ cs.size = c.length ∧ c.length = zi.zero.length ∧ CellsR E c cs
 nA : ¬ E.A b
 nL : ¬ Live E om b
 ge : sz0 ≤ b
theorem Blk.ext {sz0 : Nat} {om om' : List Ob} {E E' : Env} {t b : Nat} {c : List D} (h : Blk T sz0 om E t b c) (hR : Rel E om) (hx : Ext E om E' om') : Blk T sz0 om' E' t b c := by
 obtain ⟨zi, cs, h1, h2, h3, h5, h4⟩ := h.cells
 have hlt := (Array.getElem?_eq_some_iff.1 h2).1
 refine ⟨⟨zi, cs, h1, ?_, h3, h5, h4.ext hR hx⟩, fun hA => ?_, fun hL => ?_, h.ge⟩
 ·rw [hx.keep b hlt h.nL]; exact h2
 ·rcases hx.newA b hA with h' | h' | h'
  ·exact h.nA h'
  ·exact h.nL h'
  ·have h' : E.w.heap.size ≤ b := h'
   omega
 ·rcases hx.live b hL with h' | h'
  ·exact h.nL h'
  ·have h' : E.w.heap.size ≤ b := h'
   omega
def ALC (T : Tab) (os : List LOp) (ds : List D) (c : Nat → List D) (listed : Array Bool) : Prop :=
 ∀ i o t, os[i]? = some o → alOf o = some t → listed.getD i true = true →
  (∀ zi, T t = some zi → (∀ k o' t' u x, os[k]? = some o' → stOf o' = some (t', u, x) → o.dst = some u → listed.getD k true = false) → c i = zeroD zi) ∧
  ∀ k o' t' u x d, os[k]? = some o' → stOf o' = some (t', u, x) → o.dst = some u → listed.getD k true = true → ds[k]? = some d → cellsOf d = some (c i)
def AL (T : Tab) (sz0 : Nat) (os : List LOp) (ds : List D) (om : List Ob) (b : Nat → Nat) (c : Nat → List D) (listed : Array Bool) (E : Env) : Prop :=
 (∀ i o t, os[i]? = some o → alOf o = some t → listed.getD i true = true → Blk T sz0 om E t (b i) (c i)) ∧
 (∀ i i' o o' t t', os[i]? = some o → os[i']? = some o' → alOf o = some t → alOf o' = some t' → listed.getD i true = true → listed.getD i' true = true → b i = b i' → i = i') ∧ ALC T os ds c listed
theorem store_pin {lo : Lo} {E E0 : Env} {om0 : List Ob} {s : St} {a : Act} {o : Oper} {t u b sz0 : Nat} {x : Operand} {c c0 : List D} {d : D} {r : Option Nat} {next : Act → World → Prop} {Q : Exit → Act → World → Prop} (hT : TabOk P T) (hs : Sat lo E s a)
  (hop : o.op = .store t (.tmp u) x) (hdst : o.dst = none) (hB : Blk T sz0 s.om E t b c0) (hx0 : Ext E0 om0 E s.om) (hsz0 : sz0 = E0.w.heap.size) (hp : a.tmps.getD u undef = .pointer (some ⟨b, 0, none⟩)) (hd : Rd E d (a.eval x)) (hc : cellsOf d = some c) (hl : ∃ zi, T t = some zi ∧ c.length = zi.zero.length)
  (hn : ∀ (E' : Env), E'.n = E.n → Ext E0 om0 E' s.om → Sat lo E' s a → Blk T sz0 s.om E' t b c → (∀ t' b' c', b' ≠ b → Blk T sz0 s.om E t' b' c' → Blk T sz0 s.om E' t' b' c') → next a E'.w) :
  o.wpIn (fence r) 0 P a E.w next Q := by
 obtain ⟨zi, cs, q1, q2, q3, q5, q4⟩ := hB.cells
 obtain ⟨zi', hz', hlen⟩ := hl
 rw [q1] at hz'
 cases hz'
 have hR : Rel E s.om := hs.rel
 obtain ⟨k1, k2⟩ := cellsOf_ok hR hc hd
 have hone : ∀ v ∈ (a.eval x).cells.toList, v.oneCell' = true := by
  intro v hv
  obtain ⟨j, hj⟩ := List.getElem?_of_mem hv
  have hjl : j < c.length := by
   have := (List.getElem?_eq_some_iff.1 hj).1
   rw [Array.length_toList] at this
   omega
  obtain ⟨y, e1, e2, _⟩ := k2 j _ (List.getElem?_eq_getElem hjl)
  rw [Array.getElem?_toList] at hj
  rw [hj] at e1
  cases e1
  exact e2
 have hrun := run_storeCells_at (P := P) b 0 t (a.eval x).cells.toList 0 cs E.w q2 (by rw [Array.length_toList]; omega) hone
 have hnew : (cs.toList.take (0 + 0) ++ (a.eval x).cells.toList ++ cs.toList.drop (0 + 0 + (a.eval x).cells.toList.length)).toArray = (a.eval x).cells := by
  rw [List.drop_of_length_le (by rw [Array.length_toList, Array.length_toList]; omega)]
  simp
 rw [hnew] at hrun
 have hsize : (a.eval x).cells.size = zi.size := by rw [← (hT _ _ q1).len]; omega
 have hst : (Instr.storeAt t (.pointer (some ⟨b, 0, none⟩)) (a.eval x)).run P E.w = .ok () (E.w.setRow b (a.eval x).cells) := by
  simp [Instr.storeAt, Instr.sureAddr, storeVar, (hT _ _ q1).sizeOf, hsize, hrun]
 have other : ∀ b1, b1 ≠ b → (E.w.setRow b (a.eval x).cells).heap[b1]? = E.w.heap[b1]? := fun b1 h => setRow_other _ _ _ _ h
 let E' : Env := ⟨E.n, E.g, E.A, E.w.setRow b (a.eval x).cells⟩
 have hszw : E'.w.heap.size = E.w.heap.size := by show (E.w.setRow b (a.eval x).cells).heap.size = _; simp [World.setRow]
 have rd : ∀ d y, Rd E d y → Rd E' d y := fun d y h => Rd.gen (E := E) (E' := E') (Nat.le_refl _) (fun _ _ => rfl) (fun _ h => h) (fun ad hA => World.cell?_of_block (other _ fun e => hB.nA (e ▸ hA))) h
 have cells : ∀ c cs, CellsR E c cs → CellsR E' c cs := fun c cs h j d hj => let ⟨y, h1, h2, h3⟩ := h j d hj; ⟨y, h1, h2, rd d y h3⟩
 have hR' : Rel E' s.om := by
  refine ⟨hR.len, fun k o hk => ?_, hR.inj, fun b1 hA => by rw [hszw]; exact hR.old b1 hA, hR.one, fun g c h => rd _ _ (hR.gt g c h)⟩
  refine ObR.via (E := E) (k := k) rfl ObAll.triv (fun d _ y => rd d y) (fun hl b1 hb1 => ?_) (hR.ob k o hk)
  have hlive : Live E s.om b1 := ⟨k, o, hk, hl, hb1⟩
  exact ⟨other b1 fun e => hB.nL (e ▸ hlive), (hR.live_lt hlive).2⟩
 have hx : Ext E0 om0 E' s.om := by
  refine ⟨hx0.n, hx0.g, hx0.A, by rw [hszw]; exact hx0.size, hx0.os, hx0.tape, hx0.output, fun b1 hb1 hn1 => ?_, hx0.live, hx0.newA⟩
  show (E.w.setRow b (a.eval x).cells).heap[b1]? = _
  rw [other b1 (by have := hB.ge; omega)]
  exact hx0.keep b1 hb1 hn1
 have hs' : Sat lo E' s a := by
  refine ⟨hR', ?_, hs.size, fun t => rd _ _ (hs.rd t)⟩
  obtain ⟨m1, bs, m2, m3, m4, m5⟩ := hs.defs
  refine ⟨by rw [hszw]; exact m1, bs, m2, m3, fun b1 hb1 => ?_, m5⟩
  obtain ⟨n1, n2⟩ := m4 b1 hb1
  refine ⟨n1, ?_⟩
  show (E.w.setRow b (a.eval x).cells).heap[b1]? = _
  rw [other b1 (by rintro rfl; rw [q2] at n2; cases n2)]
  exact n2
 have hd' : notDefer o := fun c hc => by rw [hop] at hc; cases hc
 refine ⟨fun _ _ => trivial, ?_⟩
 rw [Oper.semAt_eq _ _ _ hd']
 have hpe : a.eval (.tmp u) = .pointer (some ⟨b, 0, none⟩) := hp
 simp only [execOp, hop, hpe, Sem.run_bind, hst, Result.andThen_ok, Sem.run_pure, Oper.uponIn]
 have hput : ∀ v, a.put o.dst v = a := fun v => by rw [hdst]; rfl
 rw [hput]
 exact hn E' rfl hx hs' ⟨⟨zi, (a.eval x).cells, q1, setRow_heap _ _ _ _ _ _ q2, k1, hlen, cells _ _ k2⟩, hB.nA, hB.nL, hB.ge⟩ fun t' b' c' hne hB' => by
  obtain ⟨zi2, cs2, r1, r2, r3, r5, r4⟩ := hB'.cells
  exact ⟨⟨zi2, cs2, r1, (other b' hne).trans r2, r3, r5, cells _ _ r4⟩, hB'.nA, hB'.nL, hB'.ge⟩
def hasEdgeL (ops : Array Oper) (k j : Nat) : Prop := ∃ o, ops[k]? = some o ∧ hasEdge o j = true
theorem hasEdgeL.listed {ops : Array Oper} {listed : Array Bool} {k j : Nat} (h : hasEdgeL ops k j) (hc : Closed ops listed) (hk : listed.getD k false = true) : listed.getD j false = true := by
 obtain ⟨o, ho, he⟩ := h
 unfold hasEdge at he
 obtain ⟨e, h1, h2⟩ := Array.any_eq_true'.1 he
 simp only [Bool.and_eq_true, beq_iff_eq] at h2
 have := hc k o e ho hk h1 h2.2
 rw [h2.1] at this
 exact this
theorem any_headA {lo : Lo} {r : Option Nat} (hT : TabOk P T) {ops : Array Oper} {reg : List LOp} (hreg : ops.toList.map lop = reg) {m : Nat} (hok : DrawOk ops [] m true) (hal : alFree ops m = true) {Q : Exit → Act → World → Prop} {E0 : Env} {s0 : St} {ds : List D} (hR0 : Rel E0 s0.om)
  (hds : ds.length = (reg.take m).length)
  (hfin : ∀ (fuel : Nat) (listed : Array Bool) (E : Env) (a : Act) (b : Nat → Nat) (c : Nat → List D), listed.size = ops.size → Closed ops listed → (∀ j, j < ops.size → (listed.getD j true = true ↔ j < m)) → unl listed ≤ fuel →
   Ext E0 s0.om E s0.om → Sat lo E ⟨denv (fun _ => true) 0 (reg.take m) (dsF (reg.take m) ds b) s0.env, s0.om⟩ a → AL T E0.w.heap.size (reg.take m) ds s0.om b c listed E → E.n = E0.n → wpAnyIn (fence r) 0 P .any ops Q fuel listed a E.w)
  (hstep : ∀ i o d, (reg.take m)[i]? = some o → ds[i]? = some d → StepA P T reg s0.om o (denv (fun j => decide (j < i)) 0 (reg.take m) ds s0.env) d) :
  ∀ (fuel : Nat) (listed : Array Bool) (E : Env) (a : Act) (b : Nat → Nat) (c : Nat → List D), listed.size = ops.size → Closed ops listed → (∀ j, m ≤ j → j < ops.size → listed.getD j true = false) → unl listed ≤ fuel →
   Ext E0 s0.om E s0.om → Sat lo E ⟨denv (fun j => listed.getD j true) 0 (reg.take m) (dsF (reg.take m) ds b) s0.env, s0.om⟩ a → AL T E0.w.heap.size (reg.take m) ds s0.om b c listed E → E.n = E0.n → wpAnyIn (fence r) 0 P .any ops Q fuel listed a E.w := by
 have hlen : ops.size = reg.length := by rw [← hreg]; simp
 have hmr : (reg.take m).length = m := by have := hok.le; simp; omega
 have hget : ∀ (i : Nat) (o : Oper), ops[i]? = some o → i < m → (reg.take m)[i]? = some (lop o) := by
  intro i o ho hi
  rw [List.getElem?_take_of_lt hi, ← hreg]
  simp [ho]
 have hget' : ∀ (i : Nat) (l : LOp), (reg.take m)[i]? = some l → ∃ o, ops[i]? = some o ∧ l = lop o ∧ i < m := by
  intro i l h
  have hi := (List.getElem?_eq_some_iff.1 h).1
  rw [hmr] at hi
  rw [List.getElem?_take_of_lt hi, ← hreg] at h
  simp only [List.getElem?_map, Option.map_eq_some_iff, Array.getElem?_toList] at h
  obtain ⟨o, ho, rfl⟩ := h
  exact ⟨o, ho, rfl, hi⟩
 have full : ∀ (fuel : Nat) (listed : Array Bool) (E : Env) (a : Act) (b : Nat → Nat) (c : Nat → List D), listed.size = ops.size → Closed ops listed → (∀ j, m ≤ j → j < ops.size → listed.getD j true = false) → unl listed ≤ fuel →
   Ext E0 s0.om E s0.om → Sat lo E ⟨denv (fun j => listed.getD j true) 0 (reg.take m) (dsF (reg.take m) ds b) s0.env, s0.om⟩ a → AL T E0.w.heap.size (reg.take m) ds s0.om b c listed E → E.n = E0.n → (∀ j, j < m → listed.getD j true = true) → wpAnyIn (fence r) 0 P .any ops Q fuel listed a E.w := by
  intro fuel listed E a b c hsz hcl ht hf hx hs hAL hn hall
  have : denv (fun j => listed.getD j true) 0 (reg.take m) (dsF (reg.take m) ds b) s0.env = denv (fun _ => true) 0 (reg.take m) (dsF (reg.take m) ds b) s0.env := denv_congr fun j hj => by
   rw [Nat.zero_add]
   exact hall j (by omega)
  rw [this] at hs
  refine hfin fuel listed E a b c hsz hcl (fun j hj => ?_) hf hx hs hAL hn
  constructor
  ·intro h
   rcases Nat.lt_or_ge j m with hlt | hge
   ·exact hlt
   ·rw [ht j hge hj] at h; cases h
  ·intro h; exact hall j h
 intro fuel
 induction fuel with
 | zero =>
  intro listed E a b c hsz hcl ht hf hx hs hAL hn
  refine full 0 listed E a b c hsz hcl ht hf hx hs hAL hn fun j hj => ?_
  cases hb : listed.getD j true with
  | true => rfl
  | false => have := unl_set hb; omega
 | succ fuel ih =>
  intro listed E a b c hsz hcl ht hf hx hs hAL hn
  by_cases hall : ∀ j, j < m → listed.getD j true = true
  ·exact full (fuel + 1) listed E a b c hsz hcl ht hf hx hs hAL hn hall
  refine ⟨fun hr => ?_, fun i hi => ?_⟩
  ·exact absurd (fun j hj => ready_nil hok.back hsz hr j (by have := hok.le; omega)) hall
  obtain ⟨hil, o, ho, _⟩ := mem_ready.1 hi
  have his := (Array.getElem?_eq_some_iff.1 ho).1
  have him : i < m := by
   rcases Nat.lt_or_ge i m with hlt | hge
   ·exact hlt
   ·exfalso
    apply hall
    intro j hj
    rcases hok.tail i j o hge (by simp; omega) ho with hp | hr
    ·simp at hp
    ·have := ready_reach hcl hi hr
     rwa [← getD_true_of (by have := hok.le; omega)] at this
  have hu := unl_set hil
  have ht' : ∀ j, m ≤ j → j < ops.size → (listed.setIfInBounds i true).getD j true = false := fun j hj1 hj2 => by
   rw [set_getD (by omega), if_neg (by omega)]
   exact ht j hj1 hj2
  have hro := hget i o ho him
  have hdi : i < ds.length := by rw [hds, hmr]; exact him
  have hstp := hstep i (lop o) ds[i] hro (List.getElem?_eq_getElem hdi)
  have setT : ∀ j, j ≠ i → (listed.setIfInBounds i true).getD j true = listed.getD j true := fun j hj => by rw [set_getD (by omega), if_neg hj]
  have getF : ∀ j, j < ops.size → listed.getD j false = listed.getD j true := fun j hj => (getD_true_of (by omega)).symm
  have stDep : ∀ (k j : Nat) (ok oj : LOp) (t t' u : Nat) (x : Operand), (reg.take m)[k]? = some ok → stOf ok = some (t', u, x) → (reg.take m)[j]? = some oj → alOf oj = some t → oj.dst = some u → hasEdgeL ops k j := by
   intro k j ok' oj t t' u x hk hst hj hal hd
   obtain ⟨o1, ho1, rfl, hkm⟩ := hget' k ok' hk
   obtain ⟨o2, ho2, rfl, hjm⟩ := hget' j oj hj
   have hop1 : o1.op = .store t' (.tmp u) x := (stOf_some hst).1
   have hu : u ∈ looked ops o1 := looked_mem (by rw [hop1]; simp [Op.operands])
   obtain ⟨_, he⟩ := hok.look k j o1 o2 u hkm hjm ho1 ho2 hu hd
   exact ⟨o1, ho1, he⟩
  have noTwo : ∀ {j : Nat} {l : LOp} {t t' u : Nat} {x : Operand}, alOf l = some t → stOf l = some (t', u, x) → False := fun h1 h2 => by rw [stOf_al h1] at h2; cases h2
  unfold wpOpIn
  simp only [ho]
  cases hao : alOf (lop o) with
  | some t =>
   obtain ⟨hop, ⟨dd, hdst⟩, hg⟩ := alOf_some hao
   have hop : o.op = .alloc t := hop
   have hg : o.guard = none := hg
   unfold StepA at hstp
   rw [hao] at hstp
   obtain ⟨zi, hzi⟩ := Option.isSome_iff_exists.1 hstp
   have hw : Region.wanted o (yielded ops a.tmps) = true := by unfold Region.wanted; rw [hg]
   rw [if_pos hw]
   refine alloc_pin hT hs hop hzi fun E' a' en eg eA hx' hs' hcells hsz' => ?_
   let b' : Nat → Nat := fun j => if j = i then E.w.heap.size else b j
   have hagree : ∀ j, listed.getD j true = true → (dsF (reg.take m) ds b)[j]? = (dsF (reg.take m) ds b')[j]? := by
    intro j hj
    have hji : j ≠ i := by rintro rfl; rw [hil] at hj; cases hj
    simp only [dsF, List.getElem?_mapIdx]
    have : b' j = b j := if_neg hji
    rw [this]
   have hsame : denv (fun j => listed.getD j true) 0 (reg.take m) (dsF (reg.take m) ds b) s0.env = denv (fun j => listed.getD j true) 0 (reg.take m) (dsF (reg.take m) ds b') s0.env :=
    denv_ds (by rw [dsF_len, dsF_len]) fun j hj => by rw [Nat.zero_add] at hj; exact hagree j hj
   obtain ⟨d, hd, _, hput⟩ := head_core (env0 := s0.env) (ds := dsF (reg.take m) ds b') hreg hok (by rw [dsF_len]; exact hds) hsz hi ho him
   have hdd : d = .v (.pointer (some ⟨E.w.heap.size, 0, none⟩)) := by
    have := dsF_al (b := b') hro hao hdi
    rw [hd] at this
    have e : b' i = E.w.heap.size := if_pos rfl
    rw [e] at this
    cases this; rfl
   subst hdd
   rw [hsame, put_eq, hput] at hs'
   let c' : Nat → List D := fun j => if j = i then zeroD zi else c j
   refine ih _ E' a' b' c' (by simp [hsz]) (closed_set hcl hi) ht' (by omega) (hx.trans hx') hs' ?_ (by rw [en, hn])
   have hnew : Blk T E0.w.heap.size s0.om E' t E.w.heap.size (zeroD zi) := by
    obtain ⟨cs, c1, c2, c3⟩ := hcells
    refine ⟨⟨zi, cs, hzi, c1, c2, by simp [zeroD], c3⟩, fun hA => ?_, fun hL => ?_, hx.size⟩
    ·rw [eA] at hA
     have := hs.rel.old _ hA
     omega
    ·rcases hx'.live _ hL with hl | hl
     ·have := (hs.rel.live_lt hl).1; omega
     ·obtain ⟨k, o1, q1, q2, q3⟩ := hL
      rw [eg] at q3
      have := (hs.rel.live_lt ⟨k, o1, q1, q2, q3⟩).1
      omega
   have hold : ∀ j o1 t1, (reg.take m)[j]? = some o1 → alOf o1 = some t1 → j ≠ i → listed.getD j true = true → b j < E.w.heap.size := by
    intro j o1 t1 h1 h2 h3 h4
    obtain ⟨_, cs, _, q, _⟩ := (hAL.1 j o1 t1 h1 h2 h4).cells
    exact (Array.getElem?_eq_some_iff.1 q).1
   refine ⟨fun j o1 t1 h1 h2 h3 => ?_, fun j j' o1 o2 t1 t2 h1 h1' h2 h2' h3 h3' he => ?_, fun j o1 t1 h1 h2 h3 => ?_⟩
   ·by_cases hji : j = i
    ·subst hji
     rw [hro] at h1
     cases h1
     rw [hao] at h2
     cases h2
     show Blk T _ _ E' t (b' j) (c' j)
     have e : b' j = E.w.heap.size := if_pos rfl
     have e2 : c' j = zeroD zi := if_pos rfl
     rw [e, e2]; exact hnew
    ·rw [setT j hji] at h3
     have e : b' j = b j := if_neg hji
     have e2 : c' j = c j := if_neg hji
     rw [e, e2]
     exact (hAL.1 j o1 t1 h1 h2 h3).ext hs.rel hx'
   ·by_cases hji : j = i
    ·by_cases hji' : j' = i
     ·rw [hji, hji']
     ·rw [setT j' hji'] at h3'
      have e1 : b' j = E.w.heap.size := if_pos hji
      have e2 : b' j' = b j' := if_neg hji'
      have := hold j' o2 t2 h1' h2' hji' h3'
      omega
    ·rw [setT j hji] at h3
     have e1 : b' j = b j := if_neg hji
     by_cases hji' : j' = i
     ·have e2 : b' j' = E.w.heap.size := if_pos hji'
      have := hold j o1 t1 h1 h2 hji h3
      omega
     ·rw [setT j' hji'] at h3'
      have e2 : b' j' = b j' := if_neg hji'
      exact hAL.2.1 j j' o1 o2 t1 t2 h1 h1' h2 h2' h3 h3' (by omega)
   ·have stk : ∀ k o' t' u x, (reg.take m)[k]? = some o' → stOf o' = some (t', u, x) → (listed.setIfInBounds i true).getD k true = listed.getD k true := by
     intro k o' t' u x hk hst
     refine setT k ?_
     rintro rfl
     rw [hro] at hk
     cases hk
     exact noTwo (j := 0) hao hst
    by_cases hji : j = i
    ·subst hji
     rw [hro] at h1
     cases h1
     rw [hao] at h2
     cases h2
     have e2 : c' j = zeroD zi := if_pos rfl
     refine ⟨fun zi' hz' _ => by rw [hzi] at hz'; cases hz'; exact e2, fun k o' t' u x d hk hst hu hl _ => ?_⟩
     rw [stk k o' t' u x hk hst] at hl
     have hed := stDep k j o' (lop o) t t' u x hk hst hro hao hu
     obtain ⟨_, _, _, hkm⟩ := hget' k o' hk
     have hks : k < ops.size := by have := hok.le; omega
     have := hed.listed hcl (by rw [getF k hks]; exact hl)
     rw [getF j his, hil] at this
     cases this
    ·rw [setT j hji] at h3
     have e2 : c' j = c j := if_neg hji
     rw [e2]
     obtain ⟨g1, g2⟩ := hAL.2.2 j o1 t1 h1 h2 h3
     refine ⟨fun zi' hz' hno => g1 zi' hz' fun k o' t' u x hk hst hu => ?_, fun k o' t' u x d hk hst hu hl hd => ?_⟩
     ·have := hno k o' t' u x hk hst hu
      rwa [stk k o' t' u x hk hst] at this
     ·rw [stk k o' t' u x hk hst] at hl
      exact g2 k o' t' u x d hk hst hu hl hd
  | none =>
   cases hst : stOf (lop o) with
   | some tux =>
    obtain ⟨t, u, x⟩ := tux
    unfold StepA at hstp
    rw [hao] at hstp
    dsimp only at hstp
    rw [hst] at hstp
    obtain ⟨hul, ⟨zi, cx, hzi, hcx, hcl'⟩, hev0⟩ := hstp
    rw [denv_length] at hul
    obtain ⟨hop, hdst, hg⟩ := stOf_some hst
    have hop : o.op = .store t (.tmp u) x := hop
    have hdst : o.dst = none := hdst
    have hg : o.guard = none := hg
    obtain ⟨⟨j, oj, hjm, hoj, haj, hdj⟩, huniq⟩ := alFree_st hal him ho hst
    have hjr := hget j oj hoj hjm
    have hjs : j < ops.size := (Array.getElem?_eq_some_iff.1 hoj).1
    have hed := stDep i j (lop o) (lop oj) t t u x hro hst hjr haj hdj
    obtain ⟨o1, ho1, hed1⟩ := hed
    have hlj : listed.getD j true = true := by
     rw [ho] at ho1
     cases ho1
     rw [← getF j hjs]
     exact hasEdge_listed ho hi hed1
    obtain ⟨d, hd, hlook, hput⟩ := head_core (env0 := s0.env) (ds := dsF (reg.take m) ds b) hreg hok (by rw [dsF_len]; exact hds) hsz hi ho him
    have hdd : d = ds[i] := by
     have := dsF_no (b := b) hro hao (List.getElem?_eq_getElem hdi)
     rw [hd] at this
     cases this; rfl
    subst hdd
    have hjd : j < ds.length := by rw [hds, hmr]; exact hjm
    have hptr : a.tmps.getD u undef = .pointer (some ⟨b j, 0, none⟩) := by
     have hr := hs.rd u
     have hnew := denv_new (L := fun j => listed.getD j true) (i := 0) (e := s0.env) hjr (dsF_al (b := b) hjr haj hjd) hdj (by rw [Nat.zero_add]; exact hlj) hul (fun j' o' hj' ho' => by
      obtain ⟨oj', hoj', rfl, hjm'⟩ := hget' j' o' hj'
      by_cases e : j' = j
      ·exact e
      ·rcases hok.dst j j' oj oj' hjm hjm' hoj hoj' e with h | h
       ·have : oj'.dst = some u := ho'
        rw [h] at this; cases this
       ·have h1 : oj'.dst = some u := ho'
        rw [h1, hdj] at h
        exact absurd rfl h)
     have hr : Rd E ((denv (fun j => listed.getD j true) 0 (reg.take m) (dsF (reg.take m) ds b) s0.env).getD u .any) (a.tmps.getD u undef) := hr
     rw [hnew] at hr
     exact hr.v_inv
    have hdx : Rd E ds[i] (a.eval x) := by
     have hx1 := hs.ev x
     have e : evD (denv (fun j => decide (j < i)) 0 (reg.take m) ds s0.env) x = evD (denv (fun j => listed.getD j true) 0 (reg.take m) (dsF (reg.take m) ds b) s0.env) x := by
      cases x with
      | tmp v =>
       have hvA : v ∈ lookA ops o := by unfold lookA; rw [hst]; simp
       have hvl : v ∈ looked ops o := looked_mem (by rw [hop]; simp [Op.operands])
       have h1 : (denv (fun j => decide (j < i)) 0 (reg.take m) ds s0.env).getD v .any = (denv (fun j => decide (j < i)) 0 (reg.take m) (dsF (reg.take m) ds b) s0.env).getD v .any := by
        refine denv_at (by rw [dsF_len]) rfl rfl fun j2 l hj2 hl2 => ?_
        obtain ⟨oj2, hoj2, rfl, hjm2⟩ := hget' j2 l hj2
        cases haj2 : alOf (lop oj2) with
        | some t2 => exact absurd hl2 (alFree_spec hal him hjm2 ho hoj2 haj2 hvA)
        | none => exact (dsF_no (b := b) hj2 haj2 (List.getElem?_eq_getElem (show j2 < ds.length by rw [hds, hmr]; exact hjm2))).symm ▸ List.getElem?_eq_getElem (show j2 < ds.length by rw [hds, hmr]; exact hjm2)
       exact h1.trans (hlook v hvl)
      | _ => rfl
     rw [← hev0, e]
     exact hx1
    have hw : Region.wanted o (yielded ops a.tmps) = true := by unfold Region.wanted; rw [hg]
    rw [if_pos hw]
    refine store_pin hT hs hop hdst (hAL.1 j (lop oj) t hjr haj hlj) hx rfl hptr hdx hcx ⟨zi, hzi, hcl'⟩ fun E' en hx' hs' hBj hBo => ?_
    let c' : Nat → List D := fun n => if n = j then cx else c n
    have hput' : denv (fun j => listed.getD j true) 0 (reg.take m) (dsF (reg.take m) ds b) s0.env = denv (fun j => (listed.setIfInBounds i true).getD j true) 0 (reg.take m) (dsF (reg.take m) ds b) s0.env := by
     rw [← hput, hdst]; rfl
    rw [hput'] at hs'
    have noi : ∀ j o1 t1, (reg.take m)[j]? = some o1 → alOf o1 = some t1 → j ≠ i := by
     rintro j o1 t1 h1 h2 rfl
     rw [hro] at h1
     cases h1
     rw [hao] at h2; cases h2
    refine ih _ E' a b c' (by simp [hsz]) (closed_set hcl hi) ht' (by omega) hx' hs' ?_ (by rw [en, hn])
    refine ⟨fun j1 o1 t1 h1 h2 h3 => ?_, fun j1 j' o1 o2 t1 t2 h1 h1' h2 h2' h3 h3' he => ?_, fun j1 o1 t1 h1 h2 h3 => ?_⟩
    ·rw [setT j1 (noi j1 o1 t1 h1 h2)] at h3
     by_cases hjj : j1 = j
     ·subst hjj
      rw [hjr] at h1
      cases h1
      rw [haj] at h2
      cases h2
      have e2 : c' j1 = cx := if_pos rfl
      rw [e2]; exact hBj
     ·have e2 : c' j1 = c j1 := if_neg hjj
      rw [e2]
      exact hBo t1 (b j1) (c j1) (fun e => hjj (hAL.2.1 j1 j o1 (lop oj) t1 t h1 hjr h2 haj h3 hlj e)) (hAL.1 j1 o1 t1 h1 h2 h3)
    ·rw [setT j1 (noi j1 o1 t1 h1 h2)] at h3
     rw [setT j' (noi j' o2 t2 h1' h2')] at h3'
     exact hAL.2.1 j1 j' o1 o2 t1 t2 h1 h1' h2 h2' h3 h3' he
    ·rw [setT j1 (noi j1 o1 t1 h1 h2)] at h3
     obtain ⟨g1, g2⟩ := hAL.2.2 j1 o1 t1 h1 h2 h3
     by_cases hjj : j1 = j
     ·subst hjj
      rw [hjr] at h1
      cases h1
      have e2 : c' j1 = cx := if_pos rfl
      rw [e2]
      refine ⟨fun zi' hz' hno => ?_, fun k o' t' u' x' d' hk hst' hu' hl hd' => ?_⟩
      ·have := hno i (lop o) t u x hro hst hdj
       rw [set_getD (by omega), if_pos rfl] at this
       cases this
      ·have hu2 : oj.dst = some u' := hu'
       rw [hdj] at hu2
       cases hu2
       obtain ⟨o3, ho3, rfl, hkm⟩ := hget' k o' hk
       obtain rfl := huniq k o3 t' x' hkm ho3 hst'
       rw [List.getElem?_eq_getElem hdi] at hd'
       cases hd'
       exact hcx
     ·have e2 : c' j1 = c j1 := if_neg hjj
      rw [e2]
      have nst : ∀ k o' t' u' x', (reg.take m)[k]? = some o' → stOf o' = some (t', u', x') → o1.dst = some u' → k ≠ i := by
       rintro k o' t' u' x' hk hst' hu' rfl
       rw [hro] at hk
       cases hk
       rw [hst] at hst'
       cases hst'
       obtain ⟨oo, hoo, rfl, hom⟩ := hget' j1 o1 h1
       rcases hok.dst j j1 oj oo hjm hom hoj hoo hjj with h | h
       ·have : oo.dst = some u := hu'
        rw [h] at this; cases this
       ·have h9 : oo.dst = some u := hu'
        rw [h9, hdj] at h
        exact absurd rfl h
      refine ⟨fun zi' hz' hno => g1 zi' hz' fun k o' t' u' x' hk hst' hu' => ?_, fun k o' t' u' x' d' hk hst' hu' hl hd' => ?_⟩
      ·have := hno k o' t' u' x' hk hst' hu'
       rwa [setT k (nst k o' t' u' x' hk hst' hu')] at this
      ·rw [setT k (nst k o' t' u' x' hk hst' hu')] at hl
       exact g2 k o' t' u' x' d' hk hst' hu' hl hd'
   | none =>
   unfold StepA at hstp
   rw [hao] at hstp
   dsimp only at hstp
   rw [hst] at hstp
   have hstp : StepOk P T reg s0.om (lop o) (denv (fun j => decide (j < i)) 0 (reg.take m) ds s0.env) ds[i] := hstp
   obtain ⟨d, hd, hlook, hput⟩ := head_core (env0 := s0.env) (ds := dsF (reg.take m) ds b) hreg hok (by rw [dsF_len]; exact hds) hsz hi ho him
   have hdd : d = ds[i] := by
    have := dsF_no (b := b) hro hao (List.getElem?_eq_getElem hdi)
    rw [hd] at this
    cases this; rfl
   subst hdd
   have hlA : lookA ops o = looked ops o := by unfold lookA; rw [hst]
   have hpin : ∀ u, u ∈ looked ops o → (denv (fun j => decide (j < i)) 0 (reg.take m) ds s0.env).getD u .any = (denv (fun j => decide (j < i)) 0 (reg.take m) (dsF (reg.take m) ds b) s0.env).getD u .any := by
    intro u hu
    refine denv_at (by rw [dsF_len]) rfl rfl fun j l hj hl => ?_
    obtain ⟨oj, hoj, rfl, hjm⟩ := hget' j l hj
    cases haj : alOf (lop oj) with
    | some t => exact absurd hl (alFree_spec hal him hjm ho hoj haj (by rw [hlA]; exact hu))
    | none => exact (dsF_no (b := b) hj haj (List.getElem?_eq_getElem (show j < ds.length by rw [hds, hmr]; exact hjm))).symm ▸ List.getElem?_eq_getElem (show j < ds.length by rw [hds, hmr]; exact hjm)
   have hev : ∀ x ∈ o.op.operands.toList, evD (denv (fun j => decide (j < i)) 0 (reg.take m) ds s0.env) x = evD (denv (fun j => listed.getD j true) 0 (reg.take m) (dsF (reg.take m) ds b) s0.env) x := by
    intro x hx'
    cases x with
    | tmp t => exact (hpin t (looked_mem hx')).trans (hlook t (looked_mem hx'))
    | _ => rfl
   have next : ∀ (E' : Env) (a' : Act), Ext E s0.om E' s0.om → Sat lo E' (St.put ⟨denv (fun j => listed.getD j true) 0 (reg.take m) (dsF (reg.take m) ds b) s0.env, s0.om⟩ o.dst ds[i]) a' → wpAnyIn (fence r) 0 P .any ops Q fuel (listed.setIfInBounds i true) a' E'.w := by
    intro E' a' hx' hs'
    have hn' : E'.n = E0.n := by
     have h1 := hs'.rel.len
     have h2 := hs.rel.len
     have e : (St.put ⟨denv (fun j => listed.getD j true) 0 (reg.take m) (dsF (reg.take m) ds b) s0.env, s0.om⟩ o.dst ds[i]).om = s0.om := by cases o.dst <;> rfl
     rw [e] at h1
     have h2 : s0.om.length = E.n := h2
     omega
    rw [put_eq, hput] at hs'
    refine ih _ E' a' b c (by simp [hsz]) (closed_set hcl hi) ht' (by omega) (hx.trans hx') hs' ?_ hn'
    have noi : ∀ j o1 t1, (reg.take m)[j]? = some o1 → alOf o1 = some t1 → j ≠ i := by
     rintro j o1 t1 h1 h2 rfl
     rw [hro] at h1
     cases h1
     rw [hao] at h2; cases h2
    have nst : ∀ k o' t' u' x', (reg.take m)[k]? = some o' → stOf o' = some (t', u', x') → k ≠ i := by
     rintro k o' t' u' x' hk hst' rfl
     rw [hro] at hk
     cases hk
     rw [hst] at hst'; cases hst'
    refine ⟨fun j o1 t1 h1 h2 h3 => ?_, fun j j' o1 o2 t1 t2 h1 h1' h2 h2' h3 h3' he => ?_, fun j o1 t1 h1 h2 h3 => ?_⟩
    ·rw [setT j (noi j o1 t1 h1 h2)] at h3
     exact (hAL.1 j o1 t1 h1 h2 h3).ext hs.rel hx'
    ·rw [setT j (noi j o1 t1 h1 h2)] at h3
     rw [setT j' (noi j' o2 t2 h1' h2')] at h3'
     exact hAL.2.1 j j' o1 o2 t1 t2 h1 h1' h2 h2' h3 h3' he
    ·rw [setT j (noi j o1 t1 h1 h2)] at h3
     obtain ⟨g1, g2⟩ := hAL.2.2 j o1 t1 h1 h2 h3
     refine ⟨fun zi' hz' hno => g1 zi' hz' fun k o' t' u' x' hk hst' hu' => ?_, fun k o' t' u' x' d' hk hst' hu' hl hd' => ?_⟩
     ·have := hno k o' t' u' x' hk hst' hu'
      rwa [setT k (nst k o' t' u' x' hk hst')] at this
     ·rw [setT k (nst k o' t' u' x' hk hst')] at hl
      exact g2 k o' t' u' x' d' hk hst' hu' hl hd'
   have run : aopQ P T o.op (evD (denv (fun j => decide (j < i)) 0 (reg.take m) ds s0.env)) s0.om (· = ds[i]) →
     o.wpIn (fence r) 0 P a E.w (wpAnyIn (fence r) 0 P .any ops Q fuel (listed.setIfInBounds i true)) Q := by
    intro h
    have h' := aopQ_congr hev h
    have h'' := aopQ_aop (s := ⟨denv (fun j => listed.getD j true) 0 (reg.take m) (dsF (reg.take m) ds b) s0.env, s0.om⟩) (dst := o.dst) (KP := fun _ _ => False) h'
    refine aop_ok hT false hs h'' r (aop_notDefer h'') (fun E' s' a' hk hx' hs' => ?_) (fun E' s' y d hk _ _ _ => hk.elim)
    subst hk
    refine next E' a' ?_ hs'
    cases hdst : o.dst <;> (rw [hdst] at hx'; exact hx')
   unfold StepOk at hstp
   split at hstp
   ·rename_i hg
    have : Region.wanted o (yielded ops a.tmps) = true := by
     unfold Region.wanted
     have hg : o.guard = none := hg
     rw [hg]
    rw [if_pos this]
    exact run hstp
   ·rename_i j want hg
    have hg : o.guard = some (j, want) := hg
    obtain ⟨t, b1, ht2, hb, hcase⟩ := hstp
    have htl : t ∈ looked ops o := by
     refine List.mem_append_right _ ?_
     have hd' : (ops[j]?).bind (·.dst) = some t := by
      rw [← hreg] at ht2
      simp only [List.getElem?_map] at ht2
      cases hoj : ops[j]? with
      | none => simp [hoj] at ht2
      | some oj => simpa [hoj, lop] using ht2
     rw [hg]
     simp [hd']
    rw [hpin t htl, hlook t htl] at hb
    have hw := wanted_ok hreg hs hg ht2 hb
    rcases hcase with ⟨hbw, h⟩ | ⟨hbw, hdu⟩
    ·rw [if_pos (by rw [hw]; exact hbw)]
     exact run h
    ·rw [if_neg (by rw [hw]; simp [hbw])]
     refine ⟨fun _ _ => trivial, next E _ (Ext.refl _ _) ?_⟩
     rw [hdu]
     exact hs.put (Ext.refl E s0.om) hs.rel (.v undef) _
theorem adopt1 {lo : Lo} {E0 E : Env} {om0 om : List Ob} {env : List D} {a : Act} {t b sz0 u : Nat} {c0 : List D} (hs : Sat lo E ⟨env, om⟩ a) (hx0 : Ext E0 om0 E om) (hsz0 : sz0 = E0.w.heap.size) (hB : Blk T sz0 om E t b c0) (hP : u < env.length → a.tmps.getD u undef = .pointer (some ⟨b, 0, none⟩)) :
  ∃ E' : Env, E'.w = E.w ∧ Ext E0 om0 E' (om ++ [.var t c0]) ∧ Sat lo E' ⟨putE env (some u) (.ref om.length 0), om ++ [.var t c0]⟩ a ∧
   ∀ t' b' c', b' ≠ b → Blk T sz0 om E t' b' c' → Blk T sz0 (om ++ [.var t c0]) E' t' b' c' := by
 let E' : Env := ⟨E.n + 1, fun k => if k = E.n then .pointer (some ⟨b, 0, none⟩) else E.g k, E.A, E.w⟩
 have hR := hs.rel
 have hR : Rel E om := hR
 have hlen : om.length = E.n := hR.len
 have hg : ∀ k, k < E.n → E'.g k = E.g k := fun k hk => if_neg (by omega)
 have hgn : E'.g E.n = .pointer (some ⟨b, 0, none⟩) := if_pos rfl
 have rd : ∀ d y, Rd E d y → Rd E' d y := fun d y h => Rd.gen (E := E) (E' := E') (Nat.le_succ _) hg (fun _ h => h) (fun _ _ => rfl) h
 have cells : ∀ c cs, CellsR E c cs → CellsR E' c cs := fun c cs h j d hj => let ⟨y, h1, h2, h3⟩ := h j d hj; ⟨y, h1, h2, rd d y h3⟩
 have liveOld : ∀ b1, Live E' om b1 → Live E om b1 := by
  rintro b1 ⟨k, o, h1, h2, h3⟩
  rw [hg k (by have := (List.getElem?_eq_some_iff.1 h1).1; omega)] at h3
  exact ⟨k, o, h1, h2, h3⟩
 have hx : Ext E om E' om := ⟨Nat.le_succ _, hg, fun _ h => h, Nat.le_refl _, rfl, rfl, rfl, fun _ _ _ => rfl, fun b1 h => .inl (liveOld b1 h), fun _ h => .inl h⟩
 obtain ⟨zi, cs, q1, q2, q3, q5, q4⟩ := hB.cells
 have get2 : ∀ {k : Nat} {o : Ob}, (om ++ [Ob.var t c0])[k]? = some o → (k < E.n ∧ om[k]? = some o) ∨ (k = E.n ∧ o = .var t c0) := by
  intro k o h
  rw [List.getElem?_append] at h
  split at h
  ·exact .inl ⟨by omega, h⟩
  ·have hk := (List.getElem?_eq_some_iff.1 h).1
   simp at hk
   have hk0 : k = om.length := by omega
   subst hk0
   simp at h
   exact .inr ⟨hlen, h.symm⟩
 have hbE : hb (E'.g E.n) = some b := by rw [hgn]; rfl
 have hR' : Rel E' (om ++ [.var t c0]) := by
  refine ⟨by simp [E', hlen], fun k o hk => ?_, fun k k' o o' b1 h1 h2 h3 h4 h5 h6 => ?_, hR.old, fun k hk => ?_, fun g c h => rd _ _ (hR.gt g c h)⟩
  ·rcases get2 hk with ⟨hk', ho⟩ | ⟨rfl, rfl⟩
   ·exact ObR.keep hR hx hk' (hR.ob k o ho) fun hl b1 hb1 => ⟨rfl, (hR.live_lt ⟨k, o, ho, hl, hb1⟩).2⟩
   ·exact ⟨b, cs, hgn, q2, hB.nA, q3, cells _ _ q4⟩
  ·rcases get2 h1 with ⟨hk, ho⟩ | ⟨rfl, rfl⟩ <;> rcases get2 h2 with ⟨hk', ho'⟩ | ⟨rfl, rfl⟩
   ·rw [hg k hk] at h5
    rw [hg k' hk'] at h6
    exact hR.inj k k' o o' b1 ho ho' h3 h4 h5 h6
   ·rw [hbE] at h6
    cases h6
    rw [hg k hk] at h5
    exact absurd ⟨k, o, ho, h3, h5⟩ hB.nL
   ·rw [hbE] at h5
    cases h5
    rw [hg k' hk'] at h6
    exact absurd ⟨k', o', ho', h4, h6⟩ hB.nL
   ·rfl
  ·have hk : k < E.n + 1 := hk
   by_cases e : k = E.n
   ·subst e; rw [hgn]; rfl
   ·rw [hg k (by omega)]; exact hR.one k (by omega)
 have hlive : ∀ b1, Live E' (om ++ [.var t c0]) b1 → Live E om b1 ∨ b1 = b := by
  rintro b1 ⟨k, o, h1, h2, h3⟩
  rcases get2 h1 with ⟨hk, ho⟩ | ⟨rfl, rfl⟩
  ·rw [hg k hk] at h3
   exact .inl ⟨k, o, ho, h2, h3⟩
  ·rw [hbE] at h3
   cases h3
   exact .inr rfl
 refine ⟨E', rfl, ?_, ⟨hR', hs.defs.ext hR hx, by rw [putE_length]; exact hs.size, fun u' => ?_⟩, fun t' b' c' hne hB' => ?_⟩
 ·refine ⟨Nat.le_trans hx0.n (Nat.le_succ _), fun k hk => ?_, hx0.A, hx0.size, hx0.os, hx0.tape, hx0.output, hx0.keep, fun b1 h => ?_, hx0.newA⟩
  ·rw [hg k (Nat.lt_of_lt_of_le hk hx0.n)]; exact hx0.g k hk
  ·rcases hlive b1 h with h | rfl
   ·exact hx0.live b1 h
   ·exact .inr (hsz0 ▸ hB.ge)
 ·by_cases e : u' = u
  ·subst e
   by_cases hul : u' < env.length
   ·show Rd E' ((putE env (some u') (.ref om.length 0)).getD u' .any) _
    rw [putE_getD_eq hul, hP hul]
    exact .ref (by show om.length < E.n + 1; omega) (by rw [hlen]; exact hbE)
   ·show Rd E' ((putE env (some u') (.ref om.length 0)).getD u' .any) _
    have : (putE env (some u') (.ref om.length 0)).getD u' .any = D.any := by
     rw [List.getD_eq_getElem?_getD, List.getElem?_eq_none (by rw [putE_length]; omega)]; rfl
    rw [this]; exact .any _
  ·show Rd E' ((putE env (some u) (.ref om.length 0)).getD u' .any) _
   rw [putE_getD_ne (by intro h; cases h; exact e rfl)]
   exact rd _ _ (hs.rd u')
 ·obtain ⟨zi2, cs2, r1, r2, r3, r5, r4⟩ := hB'.cells
  refine ⟨⟨zi2, cs2, r1, r2, r3, r5, cells _ _ r4⟩, hB'.nA, fun hL => ?_, hB'.ge⟩
  rcases hlive b' hL with h | h
  ·exact hB'.nL h
  ·exact hne h
theorem adopt_ok {lo : Lo} {E0 : Env} {om0 : List Ob} {a : Act} {sz0 : Nat} (hsz0 : sz0 = E0.w.heap.size) (full : List LOp) (env0 : List D) : ∀ (os : List LOp) (b : Nat → Nat) (c : Nat → List D) (E : Env) (env : List D) (om : List Ob), Sat lo E ⟨env, om⟩ a → Ext E0 om0 E om →
  (∀ i o t, os[i]? = some o → alOf o = some t → Blk T sz0 om E t (b i) (c i)) → (∀ i i' o o' t t', os[i]? = some o → os[i']? = some o' → alOf o = some t → alOf o' = some t' → b i = b i' → i = i') →
  (∀ i o t zi, os[i]? = some o → alOf o = some t → T t = some zi → contA env0 o.dst (zeroD zi) full = c i) →
  (∀ i o t u, os[i]? = some o → alOf o = some t → o.dst = some u → u < env.length → a.tmps.getD u undef = .pointer (some ⟨b i, 0, none⟩)) →
  ∃ E' : Env, E'.w = E.w ∧ Ext E0 om0 E' (adopt T full env0 os ⟨env, om⟩).om ∧ Sat lo E' (adopt T full env0 os ⟨env, om⟩) a := by
 intro os
 induction os with
 | nil => intro b c E env om hs hx _ _ _ _; exact ⟨E, rfl, hx, hs⟩
 | cons o os ih =>
  intro b c E env om hs hx hB hD hC hP
  unfold adopt
  split
  ·rename_i t ha
   obtain ⟨_, ⟨u, hu⟩, _⟩ := alOf_some ha
   have hB0 := hB 0 o t rfl ha
   obtain ⟨zi, _, hzi, _⟩ := hB0.cells
   rw [hzi]
   dsimp only
   obtain ⟨E', e1, e2, e3, e4⟩ := adopt1 hs hx hsz0 hB0 (hP 0 o t u rfl ha hu)
   rw [hC 0 o t zi rfl ha hzi]
   rw [hu]
   obtain ⟨E2, f1, f2, f3⟩ := ih (fun j => b (j + 1)) (fun j => c (j + 1)) E' _ _ e3 e2 (fun i o1 t1 h1 h2 => e4 t1 _ _ (fun he => by
    have := hD (i + 1) 0 o1 o t1 t (by simpa using h1) rfl h2 ha he
    omega) (hB (i + 1) o1 t1 (by simpa using h1) h2)) (fun i i' o1 o2 t1 t2 h1 h2 h3 h4 he => by
    have := hD (i + 1) (i' + 1) o1 o2 t1 t2 (by simpa using h1) (by simpa using h2) h3 h4 he
    omega) (fun i o1 t1 zi1 h1 h2 h3 => hC (i + 1) o1 t1 zi1 (by simpa using h1) h2 h3) (fun i o1 t1 u1 h1 h2 h3 h4 => hP (i + 1) o1 t1 u1 (by simpa using h1) h2 h3 (by rw [putE_length] at h4; exact h4))
   exact ⟨E2, f1.trans e1, f2, f3⟩
  ·exact ih (fun j => b (j + 1)) (fun j => c (j + 1)) E env om hs hx (fun i o1 t1 h1 h2 => hB (i + 1) o1 t1 (by simpa using h1) h2) (fun i i' o1 o2 t1 t2 h1 h2 h3 h4 he => by
    have := hD (i + 1) (i' + 1) o1 o2 t1 t2 (by simpa using h1) (by simpa using h2) h3 h4 he
    omega) (fun i o1 t1 zi1 h1 h2 h3 => hC (i + 1) o1 t1 zi1 (by simpa using h1) h2 h3) (fun i o1 t1 u1 h1 h2 h3 h4 => hP (i + 1) o1 t1 u1 (by simpa using h1) h2 h3 h4)
theorem contA_eq {env : List D} {dst : Option Nat} {z c : List D} : ∀ (os : List LOp), (∀ (k : Nat) (o' : LOp) (t' u : Nat) (x : Operand), os[k]? = some o' → stOf o' = some (t', u, x) → dst = some u → cellsOf (evD env x) = some c) → ((∀ (k : Nat) (o' : LOp) (t' u : Nat) (x : Operand), os[k]? = some o' → stOf o' = some (t', u, x) → dst = some u → False) → c = z) → contA env dst z os = c
 | [], _, h2 => (h2 fun k o' t' u x h => by simp at h).symm
 | o :: os, h1, h2 => by
  unfold contA
  split
  ·rename_i t u x hst
   split
   ·rename_i hd
    rw [h1 0 o t u x rfl hst hd]; rfl
   ·rename_i hd
    refine contA_eq os (fun k o' t' u' x' h3 h4 h5 => h1 (k + 1) o' t' u' x' (by simpa using h3) h4 h5) fun hno => h2 fun k o' t' u' x' h3 h4 h5 => ?_
    cases k with
    | zero =>
     simp only [List.getElem?_cons_zero, Option.some.injEq] at h3
     subst h3
     rw [hst] at h4
     cases h4
     exact hd h5
    | succ k => exact hno k o' t' u' x' (by simpa using h3) h4 h5
  ·rename_i hst
   refine contA_eq os (fun k o' t' u' x' h3 h4 h5 => h1 (k + 1) o' t' u' x' (by simpa using h3) h4 h5) fun hno => h2 fun k o' t' u' x' h3 h4 h5 => ?_
   cases k with
   | zero =>
    simp only [List.getElem?_cons_zero, Option.some.injEq] at h3
    subst h3
    rw [hst] at h4
    cases h4
   | succ k => exact hno k o' t' u' x' (by simpa using h3) h4 h5
theorem AW.regionA {base : Nat} (hT : TabOk P T) (hm : P.follows .mixedOrders = true) {id : Nat} {ops : Array Oper} {Q : AX → St → Prop} {s : St} (reg : List LOp) (own : List Nat) (m : Nat) (hreg : ops.toList.map lop = reg) (hok : drawOk ops [] m true = true) (hal : alFree ops m = true)
  (h : qopsA P T reg s.om (reg.take m) s.env fun env => aops P T reg own m (reg.drop m) (adopt T (reg.take m) env (reg.take m) ⟨env, s.om⟩) (Q .norm) (fun d => Q (.panic d))) : AW base P (.region id ops true) Q s := by
 intro r lo E a hr hb hs
 obtain ⟨ds, h1, h2, h3, h4⟩ := qopsA_facts h
 have hok' := drawOk_spec hok
 refine wpIn_region_any hm ?_
 have hrep : ∀ j, j < ops.size → (Array.replicate ops.size false).getD j true = false := by intro j hj; simp [Array.getD, hj]
 let E1 : Env := { E with w := { E.w with drawn := E.w.drawn + 1 } }
 have hx : Ext E s.om E1 s.om := ⟨Nat.le_refl _, fun _ _ => rfl, fun _ h => h, Nat.le_refl _, rfl, rfl, rfl, fun _ _ _ => rfl, fun b hl => .inl hl, fun b hA => .inl hA⟩
 have hlen : ops.size = reg.length := by rw [← hreg]; simp
 have hmr : (reg.take m).length = m := by have := hok'.le; simp; omega
 have hR1 : Rel E1 s.om := by
  refine ⟨hs.rel.len, fun k o hk => ?_, hs.rel.inj, hs.rel.old, hs.rel.one, fun g c h => (hs.rel.gt g c h).ext hs.rel hx⟩
  exact ObR.keep hs.rel hx (by rw [← hs.rel.len]; exact (List.getElem?_eq_some_iff.1 hk).1) (hs.rel.ob k o hk) fun hl b hb => ⟨rfl, (hs.rel.live_lt ⟨k, o, hk, hl, hb⟩).2⟩
 have hs1 : Sat lo E1 s a := ⟨hR1, hs.defs.ext hs.rel hx, hs.size, fun t => (hs.rd t).ext hs.rel hx⟩
 refine any_headA (lo := lo) hT hreg hok' hal (E0 := E) (s0 := s) (ds := ds) hs.rel h1 ?_ h3 ops.size _ E1 a (fun _ => 0) (fun _ => []) (by simp) closed_none (fun j _ hj => hrep j hj) ?_ hx ?_ ?_ rfl
 ·intro fuel listed E2 a2 b c q1 q2 q3 q4 q5 q6 q7 q8
  have hdl : ds.length = m := by rw [h1, hmr]
  have hgetO : ∀ (i : Nat) (l : LOp), (reg.take m)[i]? = some l → ∃ o, ops[i]? = some o ∧ l = lop o ∧ i < m := by
   intro i l h
   have hi := (List.getElem?_eq_some_iff.1 h).1
   rw [hmr] at hi
   rw [List.getElem?_take_of_lt hi, ← hreg] at h
   simp only [List.getElem?_map, Option.map_eq_some_iff, Array.getElem?_toList] at h
   obtain ⟨o, ho, rfl⟩ := h
   exact ⟨o, ho, rfl, hi⟩
  have uniq : ∀ (i j : Nat) (o o' : LOp) (u : Nat), (reg.take m)[i]? = some o → (reg.take m)[j]? = some o' → o.dst = some u → o'.dst = some u → j = i := by
   intro i j l l' u hi hj hu hu'
   obtain ⟨o, ho, rfl, hm1⟩ := hgetO i l hi
   obtain ⟨o', ho', rfl, hm2⟩ := hgetO j l' hj
   by_cases e : j = i
   ·exact e
   ·rcases hok'.dst i j o o' hm1 hm2 ho ho' e with h | h
    ·have : o'.dst = some u := hu'
     rw [h] at this; cases this
    ·have h1 : o'.dst = some u := hu'
     have h2 : o.dst = some u := hu
     rw [h1, h2] at h
     exact absurd rfl h
  have hlist : ∀ (i : Nat) (o : LOp), (reg.take m)[i]? = some o → listed.getD i true = true := by
   intro i l hi
   obtain ⟨o, ho, rfl, hm1⟩ := hgetO i l hi
   exact (q3 i (Array.getElem?_eq_some_iff.1 ho).1).2 hm1
  have hpins : ∀ (i : Nat) (o : LOp) (t u : Nat), (reg.take m)[i]? = some o → alOf o = some t → o.dst = some u → u < s.env.length → a2.tmps.getD u undef = .pointer (some ⟨b i, 0, none⟩) := by
   intro i o t u hi ha hu hul
   have hil : i < ds.length := by have := (List.getElem?_eq_some_iff.1 hi).1; omega
   have hr := q6.rd u
   have hnew := denv_new (L := fun _ => true) (i := 0) (e := s.env) hi (dsF_al (b := b) hi ha hil) hu rfl hul (fun j' o' hj' ho' => uniq i j' o o' u hi hj' hu ho')
   have hr : Rd E2 ((denv (fun _ => true) 0 (reg.take m) (dsF (reg.take m) ds b) s.env).getD u .any) (a2.tmps.getD u undef) := hr
   rw [hnew] at hr
   exact hr.v_inv
  have hweak : Sat lo E2 ⟨denv (fun _ => true) 0 (reg.take m) ds s.env, s.om⟩ a2 := by
   refine ⟨q6.rel, q6.defs, ?_, fun u => ?_⟩
   ·have := q6.size
    rw [denv_length] at this ⊢
    exact this
   ·by_cases hex : ∃ (i : Nat) (o : LOp) (t : Nat), (reg.take m)[i]? = some o ∧ alOf o = some t ∧ o.dst = some u
    ·obtain ⟨i, o, t, hi, ha, hu⟩ := hex
     show Rd E2 ((denv (fun _ => true) 0 (reg.take m) ds s.env).getD u .any) _
     have : (denv (fun _ => true) 0 (reg.take m) ds s.env).getD u .any = D.any := by
      by_cases hul : u < s.env.length
      ·exact denv_new (L := fun _ => true) (i := 0) (e := s.env) hi (h4 i o t hi ha) hu rfl hul (fun j' o' hj' ho' => uniq i j' o o' u hi hj' hu ho')
      ·rw [List.getD_eq_getElem?_getD, List.getElem?_eq_none (by rw [denv_length]; omega)]; rfl
     rw [this]; exact .any _
    ·show Rd E2 ((denv (fun _ => true) 0 (reg.take m) ds s.env).getD u .any) _
     have e : (denv (fun _ => true) 0 (reg.take m) ds s.env).getD u .any = (denv (fun _ => true) 0 (reg.take m) (dsF (reg.take m) ds b) s.env).getD u .any := by
      refine denv_at (by rw [dsF_len]) rfl rfl fun j o hj ho => ?_
      have hjl : j < ds.length := by have := (List.getElem?_eq_some_iff.1 hj).1; omega
      cases haj : alOf o with
      | some t => exact absurd ⟨j, o, t, hj, haj, ho⟩ hex
      | none => rw [dsF_no (b := b) hj haj (List.getElem?_eq_getElem hjl)]; exact List.getElem?_eq_getElem hjl
     rw [e]
     exact q6.rd u
  have hstv : ∀ (k : Nat) (o : LOp) (t u : Nat) (x : Operand) (d : D), (reg.take m)[k]? = some o → stOf o = some (t, u, x) → ds[k]? = some d → evD (denv (fun _ => true) 0 (reg.take m) ds s.env) x = d := by
   intro k l t u x d hk hst hd
   obtain ⟨o, ho, rfl, hkm⟩ := hgetO k l hk
   have h9 := h3 k (lop o) d hk hd
   have hao : alOf (lop o) = none := by
    cases hao : alOf (lop o) with
    | none => rfl
    | some t => rw [stOf_al hao] at hst; cases hst
   unfold StepA at h9
   rw [hao] at h9
   dsimp only at h9
   rw [hst] at h9
   rw [← h9.2.2]
   cases x with
   | tmp v =>
    have hop : o.op = .store t (.tmp u) (.tmp v) := (stOf_some hst).1
    have hv : v ∈ looked ops o := looked_mem (by rw [hop]; simp [Op.operands])
    show (denv (fun _ => true) 0 (reg.take m) ds s.env).getD v .any = (denv (fun j => decide (j < k)) 0 (reg.take m) ds s.env).getD v .any
    by_cases hex : ∃ (j : Nat) (l : LOp), (reg.take m)[j]? = some l ∧ l.dst = some v
    ·obtain ⟨j, l, hj, hl⟩ := hex
     obtain ⟨oj, hoj, rfl, hjm⟩ := hgetO j l hj
     obtain ⟨hjk, _⟩ := hok'.look k j o oj v hkm hjm ho hoj hv hl
     have hjl : j < ds.length := by omega
     have hdj := List.getElem?_eq_getElem hjl
     by_cases hul : v < s.env.length
     ·rw [denv_new (L := fun _ => true) hj hdj hl rfl hul (fun j' o' hj' ho' => uniq j j' (lop oj) o' v hj hj' hl ho'), denv_new (L := fun j => decide (j < k)) hj hdj hl (by simpa using hjk) hul (fun j' o' hj' ho' => uniq j j' (lop oj) o' v hj hj' hl ho')]
     ·rw [List.getD_eq_getElem?_getD, List.getD_eq_getElem?_getD, List.getElem?_eq_none (by rw [denv_length]; exact Nat.le_of_not_lt hul), List.getElem?_eq_none (by rw [denv_length]; exact Nat.le_of_not_lt hul)]
    ·rw [denv_old (fun j l hj hl => absurd ⟨j, l, hj, hl⟩ hex), denv_old (fun j l hj hl => absurd ⟨j, l, hj, hl⟩ hex)]
   | _ => rfl
  obtain ⟨E3, e1, e2, e3⟩ := adopt_ok (T := T) rfl (reg.take m) (denv (fun _ => true) 0 (reg.take m) ds s.env) (reg.take m) b c E2 _ s.om hweak q5 (fun i o t hi ha => q7.1 i o t hi ha (hlist i o hi)) (fun i i' o o' t t' hi hi' ha ha' he => q7.2.1 i i' o o' t t' hi hi' ha ha' (hlist i o hi) (hlist i' o' hi') he) (fun i o t zi hi ha hz => by
   obtain ⟨g1, g2⟩ := q7.2.2 i o t hi ha (hlist i o hi)
   refine contA_eq _ (fun k o' t' u x hk hst hu => ?_) (fun hno => g1 zi hz fun k o' t' u x hk hst hu => (hno k o' t' u x hk hst hu).elim)
   have hkl : k < ds.length := by have := (List.getElem?_eq_some_iff.1 hk).1; omega
   rw [hstv k o' t' u x _ hk hst (List.getElem?_eq_getElem hkl)]
   exact g2 k o' t' u x _ hk hst hu (hlist k o' hk) (List.getElem?_eq_getElem hkl)) (fun i o t u hi ha hu hul => hpins i o t u hi ha hu (by rw [denv_length] at hul; exact hul))
  rw [← e1]
  exact any_tail hT hreg hok' own hb fuel listed m _ E3 a2 q1 q2 (Nat.le_refl _) hok'.le q3 q4 e2 e3 h2
 ·unfold unl
  have := List.countP_le_length (p := fun b => !b) (l := (Array.replicate ops.size false).toList)
  simpa using this
 ·have : denv (fun j => (Array.replicate ops.size false).getD j true) 0 (reg.take m) (dsF (reg.take m) ds fun _ => 0) s.env = denv (fun _ => false) 0 (reg.take m) (dsF (reg.take m) ds fun _ => 0) s.env := denv_congr fun j hj => by
   rw [Nat.zero_add]
   exact hrep j (by simp at hj; omega)
  rw [this, denv_none _ (fun _ => rfl)]
  exact hs1
 ·refine ⟨fun i o t hi ha hl => ?_, fun i i' o o' t t' hi hi' ha ha' hl hl' he => ?_, fun i o t hi ha hl => ?_⟩
  ·have hi' := (List.getElem?_eq_some_iff.1 hi).1
   rw [hmr] at hi'
   rw [hrep i (by have := hok'.le; omega)] at hl; cases hl
  rotate_left
  ·have hi' := (List.getElem?_eq_some_iff.1 hi).1
   rw [hmr] at hi'
   rw [hrep i (by have := hok'.le; omega)] at hl; cases hl
  ·have hi2 := (List.getElem?_eq_some_iff.1 hi).1
   rw [hmr] at hi2
   rw [hrep i (by have := hok'.le; omega)] at hl; cases hl
end
end Go.Proofs.YtlejbkfefpfolaaGreatDoor.AWP
