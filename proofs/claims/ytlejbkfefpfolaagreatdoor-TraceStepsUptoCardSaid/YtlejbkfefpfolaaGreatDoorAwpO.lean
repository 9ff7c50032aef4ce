/- Part of a program logic over data: rules of the walk, each proved. -/
import Derived.Test.YtlejbkfefpfolaaGreatDoorAwpN
set_option linter.unusedVariables false
set_option linter.unusedSimpArgs false
set_option linter.unusedSectionVars false
namespace Go.Proofs.YtlejbkfefpfolaaGreatDoor.AWP
open Go
section
variable {P : Program} {T : Tab}
theorem ready_nil {ops : Array Oper} (hback : ∀ (i : Nat) (o : Oper) (e : Edge), ops[i]? = some o → e ∈ o.after → Region.binds .any e = true → e.on < i) {listed : Array Bool} (hs : listed.size = ops.size)
  (h : Region.ready .any ops listed = []) : ∀ i, i < ops.size → listed.getD i true = true := by
 intro i
 induction i using Nat.strongRecOn with
 | _ i ih =>
  intro hi
  cases hb : listed.getD i true with
  | true => rfl
  | false =>
   exfalso
   have : i ∈ Region.ready .any ops listed := by
    rw [mem_ready]
    refine ⟨hb, ops[i], Array.getElem?_eq_getElem hi, fun e he hbd => ?_⟩
    have hlt := hback i _ e (Array.getElem?_eq_getElem hi) he hbd
    have := ih e.on hlt (by omega)
    have hl : e.on < listed.size := by omega
    simp [Array.getD, hl] at this ⊢
    exact this
   rw [h] at this
   simp at this
def unl (listed : Array Bool) : Nat := listed.toList.countP fun b => !b
theorem unl_set {listed : Array Bool} {i : Nat} (h : listed.getD i true = false) : unl (listed.setIfInBounds i true) + 1 = unl listed := by
 have hl : i < listed.size := by
  by_cases hl : i < listed.size
  ·exact hl
  ·simp [Array.getD, hl] at h
 have hv : listed.toList[i]'(by simpa using hl) = false := by simpa [Array.getD, hl] using h
 unfold unl
 rw [Array.toList_setIfInBounds, List.countP_set (by simpa using hl)]
 have hpos : 0 < listed.toList.countP fun b => !b := by
  rw [List.countP_pos_iff]
  exact ⟨_, List.getElem_mem (by simpa using hl), by simp [hv]⟩
 simp only [hv, Bool.not_false, if_true, Bool.not_true, Bool.false_eq_true, if_false]
 omega
theorem getD_true_of {listed : Array Bool} {j : Nat} (h : j < listed.size) : listed.getD j true = listed.getD j false := by simp [Array.getD, h]
theorem set_getD {listed : Array Bool} {i j : Nat} (hi : i < listed.size) : (listed.setIfInBounds i true).getD j true = if j = i then true else listed.getD j true := by
 by_cases e : j = i
 ·subst e; simp [Array.getD_eq_getD_getElem?, Array.getElem?_setIfInBounds, hi]
 ·rw [if_neg e]
  have : i ≠ j := fun h => e h.symm
  simp [Array.getD_eq_getD_getElem?, Array.getElem?_setIfInBounds, this]
theorem any_tail {lo : Lo} {base : Nat} {r : Option Nat} (hT : TabOk P T) {ops : Array Oper} {reg : List LOp} (hreg : ops.toList.map lop = reg) {pre : List Nat} {m : Nat} (hok : DrawOk ops pre m true) (own : List Nat) {Q : AX → St → Prop} {E0 : Env} {om0 : List Ob} (hb0 : base ≤ E0.n) :
  ∀ (fuel : Nat) (listed : Array Bool) (i : Nat) (s : St) (E : Env) (a : Act), listed.size = ops.size → Closed ops listed → m ≤ i → i ≤ ops.size → (∀ j, j < ops.size → (listed.getD j true = true ↔ j < i)) → unl listed ≤ fuel →
   Ext E0 om0 E s.om → Sat lo E s a → aops P T reg own i (reg.drop i) s (Q .norm) (fun d => Q (.panic d)) → wpAnyIn (fence r) 0 P .any ops (Post lo base Q E0 om0) fuel listed a E.w := by
 have hlen : ops.size = reg.length := by rw [← hreg]; simp
 have stop : ∀ (listed : Array Bool) (i : Nat) (s : St) (E : Env) (a : Act), listed.size = ops.size → i ≤ ops.size → (∀ j, j < ops.size → (listed.getD j true = true ↔ j < i)) → Region.ready .any ops listed = [] →
   Ext E0 om0 E s.om → Sat lo E s a → aops P T reg own i (reg.drop i) s (Q .norm) (fun d => Q (.panic d)) → Post lo base Q E0 om0 .normal a E.w := by
  intro listed i s E a hsz hi hL hr hx hs h
  have hall := ready_nil hok.back hsz hr
  have : i = ops.size := by
   rcases Nat.lt_or_ge i ops.size with hlt | hge
   ·have := (hL i hlt).1 (hall i hlt)
    omega
   ·omega
  rw [List.drop_eq_nil_of_le (by omega)] at h
  simp only [aops] at h
  exact ⟨E, .norm, s, h, trivial, rfl, hx.toB hb0, hs⟩
 intro fuel
 induction fuel with
 | zero =>
  intro listed i s E a hsz hcl hm hi hL hf hx hs h
  have hr : Region.ready .any ops listed = [] := by
   cases hr : Region.ready .any ops listed with
   | nil => rfl
   | cons j l =>
    have : j ∈ Region.ready .any ops listed := by rw [hr]; simp
    have := (mem_ready.1 this).1
    have := unl_set this
    omega
  exact ⟨hr, stop listed i s E a hsz hi hL hr hx hs h⟩
 | succ fuel ih =>
  intro listed i s E a hsz hcl hm hi hL hf hx hs h
  refine ⟨fun hr => stop listed i s E a hsz hi hL hr hx hs h, fun j hj => ?_⟩
  obtain ⟨hjl, o, ho, _⟩ := mem_ready.1 hj
  have hjs := (Array.getElem?_eq_some_iff.1 ho).1
  have hji : j = i := by
   have h1 : ¬ j < i := fun hlt => by have := (hL j hjs).2 hlt; rw [this] at hjl; cases hjl
   rcases Nat.lt_or_ge i j with hlt | hge
   ·have := (hok.tail j i o (by omega) (by simpa using hlt) ho).elim (fun hp => absurd (hok.prem i hp) (by omega)) fun h => ready_reach hcl hj h
    have hi' : i < ops.size := by omega
    rw [← getD_true_of (by omega)] at this
    have := (hL i hi').1 this
    omega
   ·omega
  subst hji
  have hlt : j < reg.length := by omega
  rw [List.drop_eq_getElem_cons hlt] at h
  have hl : reg[j] = lop o := by
   have : reg[j]? = some (lop o) := by rw [← hreg]; simp [ho]
   rw [List.getElem?_eq_getElem hlt] at this
   simpa using this
  simp only [aops, hl, lop] at h
  have hL' : ∀ j', j' < ops.size → ((listed.setIfInBounds j true).getD j' true = true ↔ j' < j + 1) := by
   intro j' hj'
   rw [set_getD (by omega)]
   by_cases e : j' = j
   ·subst e; simp
   ·rw [if_neg e, hL j' hj']; omega
  have hu := unl_set hjl
  have next : ∀ (E' : Env) (s' : St) (a' : Act), aops P T reg own (j + 1) (reg.drop (j + 1)) s' (Q .norm) (fun d => Q (.panic d)) → Ext E s.om E' s'.om → Sat lo E' s' a' → wpAnyIn (fence r) 0 P .any ops (Post lo base Q E0 om0) fuel (listed.setIfInBounds j true) a' E'.w :=
   fun E' s' a' hk hx' hs' => ih _ (j + 1) s' E' a' (by simp [hsz]) (closed_set hcl hj) (by omega) (by omega) hL' (by omega) (hx.trans hx') hs' hk
  have run : aop P T (own.contains j) o.op o.dst s (fun s' => aops P T reg own (j + 1) (reg.drop (j + 1)) s' (Q .norm) (fun d => Q (.panic d))) (fun d => Q (.panic d)) →
    o.wpIn (fence r) 0 P a E.w (wpAnyIn (fence r) 0 P .any ops (Post lo base Q E0 om0) fuel (listed.setIfInBounds j true)) (Post lo base Q E0 om0) := by
   intro h
   refine aop_ok hT (own.contains j) hs h r (aop_notDefer h) (fun E' s' a' hk hx' hs' => next E' s' a' hk hx' hs') ?_
   intro E' s' y d hk hx' hs' hd
   exact ⟨E', .panic d, s', hk, ⟨y, rfl, hd⟩, rfl, (hx.trans hx').toB hb0, hs'⟩
  unfold wpOpIn
  simp only [ho]
  split at h
  ·rename_i hg
   have : Region.wanted o (yielded ops a.tmps) = true := by unfold Region.wanted; rw [hg]
   rw [if_pos this]
   exact run h
  ·rename_i j' want hg
   split at h
   ·rename_i t ht
    split at h
    ·rename_i hb
     have hw := wanted_ok hreg hs hg ht hb
     rw [if_pos hw]
     exact run h
    ·rename_i hb
     have hw := wanted_ok hreg hs hg ht hb
     rw [if_neg (by rw [hw]; simp)]
     refine ⟨fun _ _ => trivial, ?_⟩
     refine next E _ _ h ?_ (hs.put (Ext.refl E s.om) hs.rel (.v undef) _)
     cases o.dst <;> exact Ext.refl _ _
    ·exact h.elim
   ·exact h.elim
theorem looked_mem {ops : Array Oper} {o : Oper} {t : Tmp} (h : Operand.tmp t ∈ o.op.operands.toList) : t ∈ looked ops o := by
 refine List.mem_append_left _ ?_
 unfold opTmps
 exact List.mem_filterMap.2 ⟨.tmp t, h, rfl⟩
inductive OT where
 | done
 | op (i : Nat) (t : OT)
 | both (a b : OT)
def otL : List OT → OT
 | [] => .done
 | [t] => t
 | t :: l => .both t (otL l)
def mkTree (ops : Array Oper) : Nat → Array Bool → OT
 | 0, _ => .done
 | f + 1, listed => otL ((Region.ready .any ops listed).map fun i => .op i (mkTree ops f (listed.setIfInBounds i true)))
def treeP (P : Program) (T : Tab) (reg : List LOp) (own : List Nat) : OT → St → (St → Prop) → (D → St → Prop) → Prop
 | .done, s, K, _ => K s
 | .op i t, s, K, KP =>
  match reg[i]? with
  | some o => aop P T (own.contains i) o.op o.dst s (fun s' => treeP P T reg own t s' K KP) KP
  | none => False
 | .both a b, s, K, KP => treeP P T reg own a s K KP ∧ treeP P T reg own b s K KP
theorem treeP_otL {reg : List LOp} {own : List Nat} {s : St} {K : St → Prop} {KP : D → St → Prop} : ∀ {l : List OT}, treeP P T reg own (otL l) s K KP → ∀ t ∈ l, treeP P T reg own t s K KP
 | [], _, t, h => by simp at h
 | [t0], h, t, ht => by
  simp only [List.mem_singleton] at ht
  subst ht
  exact h
 | t0 :: t1 :: l, h, t, ht => by
  rcases List.mem_cons.1 ht with rfl | ht
  ·exact h.1
  ·exact treeP_otL (l := t1 :: l) h.2 t ht
theorem any_tree {lo : Lo} {base : Nat} {r : Option Nat} (hT : TabOk P T) {ops : Array Oper} {reg : List LOp} (hreg : ops.toList.map lop = reg) {pre : List Nat} {m : Nat} (hok : DrawOk ops pre m false) (own : List Nat) {Q : AX → St → Prop} {E0 : Env} {om0 : List Ob} (hb0 : base ≤ E0.n) :
  ∀ (tf fuel : Nat) (listed : Array Bool) (s : St) (E : Env) (a : Act), listed.size = ops.size → Closed ops listed → (∀ j, j < m → j < ops.size → listed.getD j true = true) → unl listed ≤ fuel → unl listed ≤ tf →
   Ext E0 om0 E s.om → Sat lo E s a → treeP P T reg own (mkTree ops tf listed) s (Q .norm) (fun d => Q (.panic d)) → wpAnyIn (fence r) 0 P .any ops (Post lo base Q E0 om0) fuel listed a E.w := by
 have hzero : ∀ (listed : Array Bool), unl listed ≤ 0 → Region.ready .any ops listed = [] := by
  intro listed hf
  cases hr : Region.ready .any ops listed with
  | nil => rfl
  | cons j l =>
   have : j ∈ Region.ready .any ops listed := by rw [hr]; simp
   have := (mem_ready.1 this).1
   have := unl_set this
   omega
 intro tf
 induction tf with
 | zero =>
  intro fuel listed s E a hsz hcl hL hf htf hx hs h
  simp only [mkTree, treeP] at h
  exact wpAnyIn_done (hzero listed htf) ⟨E, .norm, s, h, trivial, rfl, hx.toB hb0, hs⟩ fuel
 | succ tf ih =>
  intro fuel listed s E a hsz hcl hL hf htf hx hs h
  cases fuel with
  | zero =>
   have hr := hzero listed hf
   simp only [mkTree, hr, List.map_nil, otL, treeP] at h
   exact wpAnyIn_done hr ⟨E, .norm, s, h, trivial, rfl, hx.toB hb0, hs⟩ 0
  | succ fuel =>
   refine ⟨fun hr => ?_, fun j hj => ?_⟩
   ·simp only [mkTree, hr, List.map_nil, otL, treeP] at h
    exact ⟨E, .norm, s, h, trivial, rfl, hx.toB hb0, hs⟩
   ·obtain ⟨hjl, o, ho, _⟩ := mem_ready.1 hj
    have hjs := (Array.getElem?_eq_some_iff.1 ho).1
    have hm : m ≤ j := by
     rcases Nat.lt_or_ge j m with hlt | hge
     ·have := hL j hlt hjs; rw [this] at hjl; cases hjl
     ·exact hge
    have hg := hok.grd j o hm rfl ho
    simp only [mkTree] at h
    have h1 := treeP_otL h _ (List.mem_map.2 ⟨j, hj, rfl⟩)
    have hl : reg[j]? = some (lop o) := by rw [← hreg]; simp [ho]
    simp only [treeP, hl, lop] at h1
    have hu := unl_set hjl
    unfold wpOpIn
    simp only [ho]
    have hw : Region.wanted o (yielded ops a.tmps) = true := by unfold Region.wanted; rw [hg]
    rw [if_pos hw]
    refine aop_ok hT (own.contains j) hs h1 r (aop_notDefer h1) (fun E' s' a' hk hx' hs' => ?_) (fun E' s' y d hk hx' hs' hd => ?_)
    ·refine ih fuel _ s' E' a' (by simp [hsz]) (closed_set hcl hj) (fun k hk1 hk2 => ?_) (by omega) (by omega) (hx.trans hx') hs' hk
     rw [set_getD (by omega)]
     split
     ·rfl
     ·exact hL k hk1 hk2
    ·exact ⟨E', .panic d, s', hk, ⟨y, rfl, hd⟩, rfl, (hx.trans hx').toB hb0, hs'⟩
def headMask (n m : Nat) : Array Bool := ((List.range n).map fun j => decide (j < m)).toArray
theorem closed_none {ops : Array Oper} {n : Nat} : Closed ops (Array.replicate n false) := by
 intro i o e ho hl he hb
 exfalso
 simp [Array.getD_eq_getD_getElem?, Array.getElem?_replicate] at hl
 split at hl <;> simp at hl
theorem mask_eq {listed : Array Bool} {n m : Nat} (hsz : listed.size = n) (h : ∀ j, j < n → (listed.getD j true = true ↔ j < m)) : listed = headMask n m := by
 refine Array.ext (by simp [headMask, hsz]) fun j h1 h2 => ?_
 have hj : j < n := by omega
 have := h j hj
 have e1 : listed.getD j true = listed[j] := by simp [Array.getD, h1]
 rw [e1] at this
 simp only [headMask, List.getElem_toArray, List.getElem_map, List.getElem_range]
 cases hb : listed[j] with
 | true => rw [hb] at this; simp [this.1 rfl]
 | false =>
  rw [hb] at this
  have : ¬ j < m := fun h => by have := this.2 h; cases this
  simp [this]
theorem qBin_plain {op : BinOp} {t : Nat} {x y d : D} (h : qBin T op t x y = some d) (h1 : op ≠ .eql) (h2 : op ≠ .neq) : ∃ a b z, x = .v a ∧ y = .v b ∧ d = .v z := by
 unfold qBin at h
 split at h
 ·split at h
  ·split at h
   ·simp only [Option.some.injEq] at h; exact ⟨_, _, _, rfl, rfl, h.symm⟩
   ·simp at h
  ·split at h
   ·simp only [Option.some.injEq] at h; exact ⟨_, _, _, rfl, rfl, h.symm⟩
   ·simp at h
  ·split at h
   ·simp only [Option.map_eq_some_iff] at h; obtain ⟨v, _, rfl⟩ := h; exact ⟨_, _, _, rfl, rfl, rfl⟩
   ·simp at h
 ·simp only [Option.map_eq_some_iff] at h; obtain ⟨v, _, rfl⟩ := h; exact ⟨_, _, _, rfl, rfl, rfl⟩
 ·split at h
  ·simp only [Option.some.injEq] at h; exact ⟨_, _, _, rfl, rfl, h.symm⟩
  ·simp only [Option.some.injEq] at h; exact ⟨_, _, _, rfl, rfl, h.symm⟩
  ·simp at h
 ·exfalso
  split at h
  ·split at h
   ·split at h
    ·split at h
     ·exact h1 rfl
     ·exact h2 rfl
     ·simp at h
    ·simp at h
   ·simp at h
  ·simp at h
 ·simp at h
def pureOp (o : Oper) : Bool :=
 o.guard.isNone && match o.op with
  | .move _ => true
  | .binOp op _ _ _ _ => match op with
   | .add | .sub | .mul => true
   | _ => false
  | _ => false
theorem yields_of {lo : Lo} (hT : TabOk P T) {ops : Array Oper} {o : Oper} {E : Env} {s : St} {a : Act} {d : D} (hp : pureOp o = true) (hs : Sat lo E s a) (h : aopQ P T o.op (evD s.env) s.om (· = d)) : ∃ v, YieldsFenced P ops o v a ∧ Rd E d v := by
 have hdep : 4 ≤ P.depth := by simp only [Program.depth, Made.depth]; omega
 unfold pureOp at hp
 simp only [Bool.and_eq_true, Option.isNone_iff_eq_none] at hp
 obtain ⟨hg, hp⟩ := hp
 have hw : ∀ tmps, Region.wanted o tmps = true := by intro tmps; unfold Region.wanted; rw [hg]
 split at hp
 ·rename_i x hop
  rw [hop] at h
  simp only [aopQ] at h
  subst h
  exact ⟨a.eval x, ⟨.inl ⟨hw _, fun w => by simp [execOp, hop]⟩, fun w => by unfold Oper.about; rw [hop]⟩, hs.ev x⟩
 ·rename_i op t x y yt hop
  rw [hop] at h
  simp only [aopQ] at h
  obtain ⟨d', hd', rfl⟩ := opt_elim h
  have hne : op ≠ .eql ∧ op ≠ .neq := by
   split at hp <;> simp_all
  obtain ⟨va, vb, z, e1, e2, rfl⟩ := qBin_plain hd' hne.1 hne.2
  have ea : a.eval x = va := by have := hs.ev x; rw [e1] at this; exact this.v_inv
  have eb : a.eval y = vb := by have := hs.ev y; rw [e2] at this; exact this.v_inv
  refine ⟨z, ⟨.inl ⟨hw _, fun w => ?_⟩, fun w => by unfold Oper.about; rw [hop]⟩, .v z⟩
  obtain ⟨z', hz, hzd⟩ := qBin_ok hT hdep (E := { E with w := w }) x y hd' (a := a.eval x) (b := a.eval y) (by rw [e1, ea]; exact .v _) (by rw [e2, eb]; exact .v _)
  have := hzd.v_inv
  subst this
  have e : execOp a.eval o = (do pure (.value (← (do eqGuard op t x y (a.eval x) (a.eval y); binOp op t (a.eval x) (a.eval y) : Sem Value))) : Sem Next) := by simp [execOp, hop]
  rw [e]
  simp only [Sem.run_bind, hz, Result.andThen_ok, Sem.run_pure]
 ·cases hp
def preOk (ops : Array Oper) : Array Bool → List Nat → Bool
 | _, [] => true
 | l, i :: r => Region.noSelect ops && Region.free .any ops l i && (Region.ready .any ops l).contains i && (match ops[i]? with | some o => pureOp o | none => false) && preOk ops (l.setIfInBounds i true) r
theorem any_head {lo : Lo} {base : Nat} {r : Option Nat} (hT : TabOk P T) {ops : Array Oper} {reg : List LOp} (hreg : ops.toList.map lop = reg) {pre : List Nat} {m : Nat} {lin : Bool} (hok : DrawOk ops pre m lin) {Q : AX → St → Prop} {E0 : Env} {s0 : St} {ds : List D} (hb0 : base ≤ E0.n) (hrp : pre ≠ [] → r = none) (hQp : pre ≠ [] → ∀ d s env, Q (.panic d) s → Q (.panic d) ⟨env, s.om⟩)
  (hds : ds.length = (reg.take m).length)
  (hfin : ∀ (fuel : Nat) (listed : Array Bool) (E : Env) (a : Act), listed.size = ops.size → Closed ops listed → (∀ j, j < ops.size → (listed.getD j true = true ↔ j < m)) → unl listed ≤ fuel →
   Ext E0 s0.om E s0.om → Sat lo E ⟨denv (fun _ => true) 0 (reg.take m) ds s0.env, s0.om⟩ a → wpAnyIn (fence r) 0 P .any ops (Post lo base Q E0 s0.om) fuel listed a E.w)
  (hstep : ∀ i o d, (reg.take m)[i]? = some o → ds[i]? = some d → StepOk P T reg s0.om o (denv (fun j => decide (j < i)) 0 (reg.take m) ds s0.env) d) :
  ∀ (fuel : Nat) (listed : Array Bool) (todo : List Nat) (E : Env) (a : Act), listed.size = ops.size → Closed ops listed → (∀ j ∈ pre, listed.getD j true = true ∨ j ∈ todo) → (∀ j ∈ todo, j ∈ pre) → preOk ops listed todo = true → (∀ j, m ≤ j → j < ops.size → listed.getD j true = false) → unl listed ≤ fuel →
   Ext E0 s0.om E s0.om → Sat lo E ⟨denv (fun j => listed.getD j true) 0 (reg.take m) ds s0.env, s0.om⟩ a → wpAnyIn (fence r) 0 P .any ops (Post lo base Q E0 s0.om) fuel listed a E.w := by
 have hlen : ops.size = reg.length := by rw [← hreg]; simp
 have hmr : (reg.take m).length = m := by have := hok.le; simp; omega
 have hget : ∀ (i : Nat) (o : Oper), ops[i]? = some o → i < m → (reg.take m)[i]? = some (lop o) := by
  intro i o ho hi
  rw [List.getElem?_take_of_lt hi, ← hreg]
  simp [ho]
 have hget' : ∀ (i : Nat) (l : LOp), (reg.take m)[i]? = some l → ∃ o, ops[i]? = some o ∧ l = lop o ∧ i < m := by
  intro i l h
  have hi := (List.getElem?_eq_some_iff.1 h).1
  rw [hmr] at hi
  rw [List.getElem?_take_of_lt hi, ← hreg] at h
  simp only [List.getElem?_map, Option.map_eq_some_iff, Array.getElem?_toList] at h
  obtain ⟨o, ho, rfl⟩ := h
  exact ⟨o, ho, rfl, hi⟩
 have full : ∀ (fuel : Nat) (listed : Array Bool) (E : Env) (a : Act), listed.size = ops.size → Closed ops listed → (∀ j, m ≤ j → j < ops.size → listed.getD j true = false) → unl listed ≤ fuel →
   Ext E0 s0.om E s0.om → Sat lo E ⟨denv (fun j => listed.getD j true) 0 (reg.take m) ds s0.env, s0.om⟩ a → (∀ j, j < m → listed.getD j true = true) → wpAnyIn (fence r) 0 P .any ops (Post lo base Q E0 s0.om) fuel listed a E.w := by
  intro fuel listed E a hsz hcl ht hf hx hs hall
  have : denv (fun j => listed.getD j true) 0 (reg.take m) ds s0.env = denv (fun _ => true) 0 (reg.take m) ds s0.env := denv_congr fun j hj => by
   rw [Nat.zero_add]
   exact hall j (by omega)
  rw [this] at hs
  refine hfin fuel listed E a hsz hcl (fun j hj => ?_) hf hx hs
  constructor
  ·intro h
   rcases Nat.lt_or_ge j m with hlt | hge
   ·exact hlt
   ·rw [ht j hge hj] at h; cases h
  ·intro h; exact hall j h
 have core : ∀ (listed : Array Bool) (i : Nat) (o : Oper), listed.size = ops.size → i ∈ Region.ready .any ops listed → ops[i]? = some o → i < m → ∃ d, ds[i]? = some d ∧ StepOk P T reg s0.om (lop o) (denv (fun j => decide (j < i)) 0 (reg.take m) ds s0.env) d ∧
   (∀ u, u ∈ looked ops o → (denv (fun j => decide (j < i)) 0 (reg.take m) ds s0.env).getD u .any = (denv (fun j => listed.getD j true) 0 (reg.take m) ds s0.env).getD u .any) ∧
   putE (denv (fun j => listed.getD j true) 0 (reg.take m) ds s0.env) o.dst d = denv (fun j => (listed.setIfInBounds i true).getD j true) 0 (reg.take m) ds s0.env := by
  intro listed i o hsz hi ho him
  have hro := hget i o ho him
  obtain ⟨d, hd⟩ : ∃ d, ds[i]? = some d := ⟨ds[i]'(by rw [hds, hmr]; exact him), List.getElem?_eq_getElem (by rw [hds, hmr]; exact him)⟩
  have hst := hstep i (lop o) d hro hd
  have his := (Array.getElem?_eq_some_iff.1 ho).1
  have hil := (mem_ready.1 hi).1
  have hlook : ∀ u, u ∈ looked ops o → (denv (fun j => decide (j < i)) 0 (reg.take m) ds s0.env).getD u .any = (denv (fun j => listed.getD j true) 0 (reg.take m) ds s0.env).getD u .any := by
   intro u hu
   by_cases hex : ∃ (j : Nat) (l : LOp), (reg.take m)[j]? = some l ∧ l.dst = some u
   ·obtain ⟨j, l, hj, hl⟩ := hex
    obtain ⟨oj, hoj, rfl, hjm⟩ := hget' j l hj
    obtain ⟨hji, hedge⟩ := hok.look i j o oj u him hjm ho hoj hu hl
    have hlj := hasEdge_listed ho hi hedge
    rw [← getD_true_of (by have := hok.le; omega)] at hlj
    obtain ⟨dj, hdj⟩ : ∃ d, ds[j]? = some d := ⟨ds[j]'(by rw [hds, hmr]; exact hjm), List.getElem?_eq_getElem (by rw [hds, hmr]; exact hjm)⟩
    have huniq : ∀ j' o', (reg.take m)[j']? = some o' → o'.dst = some u → j' = j := by
     intro j' l' hj' hl'
     obtain ⟨oj', hoj', rfl, hjm'⟩ := hget' j' l' hj'
     by_cases e : j' = j
     ·exact e
     ·rcases hok.dst j j' oj oj' hjm hjm' hoj hoj' e with h | h
      ·have : oj'.dst = some u := hl'
       rw [h] at this; cases this
      ·have h1 : oj'.dst = some u := hl'
       have h2 : oj.dst = some u := hl
       rw [h1, h2] at h
       exact absurd rfl h
    by_cases hul : u < s0.env.length
    ·rw [denv_new (L := fun j => decide (j < i)) hj hdj hl (by simpa using hji) hul huniq, denv_new (L := fun j => listed.getD j true) hj hdj hl (by rw [Nat.zero_add]; exact hlj) hul huniq]
    ·have h1 : (denv (fun j => decide (j < i)) 0 (reg.take m) ds s0.env).length ≤ u := by rw [denv_length]; exact Nat.le_of_not_lt hul
     have h2 : (denv (fun j => listed.getD j true) 0 (reg.take m) ds s0.env).length ≤ u := by rw [denv_length]; exact Nat.le_of_not_lt hul
     rw [List.getD_eq_getElem?_getD, List.getD_eq_getElem?_getD, List.getElem?_eq_none h1, List.getElem?_eq_none h2]
   ·rw [denv_old (fun j l hj hl => absurd ⟨j, l, hj, hl⟩ hex), denv_old (fun j l hj hl => absurd ⟨j, l, hj, hl⟩ hex)]
  have hput : putE (denv (fun j => listed.getD j true) 0 (reg.take m) ds s0.env) o.dst d = denv (fun j => (listed.setIfInBounds i true).getD j true) 0 (reg.take m) ds s0.env := by
   apply List.ext_getElem?
   intro u
   have getE : ∀ (l : List D), l.length = s0.env.length → l[u]? = if u < s0.env.length then some (l.getD u .any) else none := by
    intro l hl
    split
    ·rename_i h; simp [List.getD_eq_getElem?_getD, List.getElem?_eq_getElem (show u < l.length by omega)]
    ·rename_i h; exact List.getElem?_eq_none (by omega)
   rw [getE _ (by rw [putE_length, denv_length]), getE _ (by rw [denv_length])]
   split
   ·rename_i hul
    congr 1
    by_cases hdu : o.dst = some u
    ·have huniq : ∀ j' o', (reg.take m)[j']? = some o' → o'.dst = some u → j' = i := by
      intro j' l' hj' hl'
      obtain ⟨oj', hoj', rfl, hjm'⟩ := hget' j' l' hj'
      by_cases e : j' = i
      ·exact e
      ·rcases hok.dst i j' o oj' him hjm' ho hoj' e with h | h
       ·have : oj'.dst = some u := hl'
        rw [h] at this; cases this
       ·have h1 : oj'.dst = some u := hl'
        rw [h1, hdu] at h
        exact absurd rfl h
     rw [hdu, putE_getD_eq (by rw [denv_length]; exact hul)]
     rw [denv_new (L := fun j => (listed.setIfInBounds i true).getD j true) hro hd (by exact hdu) (by rw [Nat.zero_add, set_getD (by omega), if_pos rfl]) hul huniq]
    ·rw [putE_getD_ne hdu]
     by_cases hex : ∃ (j : Nat) (l : LOp), (reg.take m)[j]? = some l ∧ l.dst = some u
     ·obtain ⟨j, l, hj, hl⟩ := hex
      obtain ⟨oj, hoj, rfl, hjm⟩ := hget' j l hj
      have hji : j ≠ i := by
       rintro rfl
       rw [ho] at hoj
       injection hoj with hoj
       subst hoj
       exact hdu hl
      obtain ⟨dj, hdj⟩ : ∃ d, ds[j]? = some d := ⟨ds[j]'(by rw [hds, hmr]; exact hjm), List.getElem?_eq_getElem (by rw [hds, hmr]; exact hjm)⟩
      have huniq : ∀ j' o', (reg.take m)[j']? = some o' → o'.dst = some u → j' = j := by
       intro j' l' hj' hl'
       obtain ⟨oj', hoj', rfl, hjm'⟩ := hget' j' l' hj'
       by_cases e : j' = j
       ·exact e
       ·rcases hok.dst j j' oj oj' hjm hjm' hoj hoj' e with h | h
        ·have : oj'.dst = some u := hl'
         rw [h] at this; cases this
        ·have h1 : oj'.dst = some u := hl'
         have h2 : oj.dst = some u := hl
         rw [h1, h2] at h
         exact absurd rfl h
      cases hlj : listed.getD j true with
      | true =>
       rw [denv_new (L := fun j => listed.getD j true) hj hdj hl (by rw [Nat.zero_add]; exact hlj) hul huniq, denv_new (L := fun j => (listed.setIfInBounds i true).getD j true) hj hdj hl (by rw [Nat.zero_add, set_getD (by omega), if_neg hji]; exact hlj) hul huniq]
      | false =>
       have hno : ∀ (L : Nat → Bool), L j = false → ∀ j' o', (reg.take m)[j']? = some o' → o'.dst = some u → L (0 + j') = false := by
        intro L hL j' o' h1 h2
        rw [huniq j' o' h1 h2, Nat.zero_add]
        exact hL
       rw [denv_old (hno (fun j => listed.getD j true) hlj), denv_old (hno (fun j => (listed.setIfInBounds i true).getD j true) (by rw [set_getD (by omega), if_neg hji]; exact hlj))]
     ·rw [denv_old (fun j l hj hl => absurd ⟨j, l, hj, hl⟩ hex), denv_old (fun j l hj hl => absurd ⟨j, l, hj, hl⟩ hex)]
   ·rfl
  exact ⟨d, hd, hst, hlook, hput⟩
 intro fuel
 induction fuel with
 | zero =>
  intro listed todo E a hsz hcl hpl htd hpo ht hf hx hs
  refine full 0 listed E a hsz hcl ht hf hx hs fun j hj => ?_
  cases hb : listed.getD j true with
  | true => rfl
  | false => have := unl_set hb; omega
 | succ fuel ih =>
  intro listed todo E a hsz hcl hpl htd hpo ht hf hx hs
  cases todo with
  | cons i r =>
   have hpre : pre ≠ [] := by
    have := htd i (by simp)
    intro e
    rw [e] at this
    simp at this
   obtain rfl := hrp hpre
   have hro : (fence none).round = none := rfl
   have him := hok.prem i (htd i (by simp))
   simp only [preOk, Bool.and_eq_true] at hpo
   obtain ⟨⟨⟨⟨p1, p2⟩, p3⟩, p4⟩, p5⟩ := hpo
   have hi : i ∈ Region.ready .any ops listed := by simpa using p3
   obtain ⟨hil, o, ho, _⟩ := mem_ready.1 hi
   simp only [ho] at p4
   have his := (Array.getElem?_eq_some_iff.1 ho).1
   obtain ⟨d, hd, hst, hlook, hput⟩ := core listed i o hsz hi ho him
   have hev : ∀ x ∈ o.op.operands.toList, evD (denv (fun j => decide (j < i)) 0 (reg.take m) ds s0.env) x = evD (denv (fun j => listed.getD j true) 0 (reg.take m) ds s0.env) x := by
    intro x hx'
    cases x with
    | tmp t => exact hlook t (looked_mem hx')
    | _ => rfl
   have hg : o.guard = none := by
    unfold pureOp at p4
    simp only [Bool.and_eq_true, Option.isNone_iff_eq_none] at p4
    exact p4.1
   have hst' : aopQ P T o.op (evD (denv (fun j => decide (j < i)) 0 (reg.take m) ds s0.env)) s0.om (· = d) := by
    unfold StepOk at hst
    split at hst
    ·exact hst
    ·rename_i j want hg'
     have hg' : o.guard = some (j, want) := hg'
     rw [hg] at hg'
     cases hg'
   obtain ⟨v, hy, hvd⟩ := yields_of (ops := ops) hT p4 hs (aopQ_congr hev hst')
   have hu := unl_set hil
   refine wpAnyIn_take hro ho p1 p2 p3 ?_ hy ?_
   ·rintro c a1 w ⟨E', x, s', hq, hcx, hw, hext, hsat⟩
    cases x <;> simp only [cx] at hcx
    rename_i dp
    exact ⟨E', .panic dp, ⟨List.replicate a1.tmps.size .any, s'.om⟩, hQp hpre _ _ _ hq, hcx, hw, hext, hsat.rel, by cases ho' : o.dst <;> (have := hsat.defs; rw [ho'] at this; exact this), by simp, fun t => by
     have : (List.replicate a1.tmps.size D.any).getD t .any = .any := by
      simp only [List.getD_eq_getElem?_getD, List.getElem?_replicate]
      split <;> rfl
     show Rd E' ((List.replicate a1.tmps.size D.any).getD t .any) _
     rw [this]
     exact .any _⟩
   ·have hs' := hs.put (Ext.refl E s0.om) hs.rel hvd o.dst
    rw [put_eq, hput] at hs'
    refine ih _ r E _ (by simp [hsz]) (closed_set hcl hi) (fun j hj => ?_) (fun j hj => htd j (by simp [hj])) p5 (fun j hj1 hj2 => ?_) (by omega) hx hs'
    ·rw [set_getD (by omega)]
     rcases hpl j hj with h | h
     ·exact .inl (by split <;> simp_all)
     ·rcases List.mem_cons.1 h with h | h
      ·exact .inl (by rw [if_pos h])
      ·exact .inr h
    ·rw [set_getD (by omega), if_neg (by omega)]
     exact ht j hj1 hj2
  | nil =>
   have hpl : ∀ j ∈ pre, listed.getD j true = true := fun j hj => (hpl j hj).elim id fun h => by simp at h
   by_cases hall : ∀ j, j < m → listed.getD j true = true
   ·exact full (fuel + 1) listed E a hsz hcl ht hf hx hs hall
   ·refine ⟨fun hr => ?_, fun i hi => ?_⟩
    ·exact absurd (fun j hj => ready_nil hok.back hsz hr j (by have := hok.le; omega)) hall
    ·obtain ⟨hil, o, ho, _⟩ := mem_ready.1 hi
     have his := (Array.getElem?_eq_some_iff.1 ho).1
     have him : i < m := by
      rcases Nat.lt_or_ge i m with hlt | hge
      ·exact hlt
      ·exfalso
       apply hall
       intro j hj
       rcases hok.tail i j o hge (by split <;> omega) ho with hp | hr
       ·exact hpl j hp
       ·have := ready_reach hcl hi hr
        rwa [← getD_true_of (by have := hok.le; omega)] at this
     obtain ⟨d, hd, hst, hlook, hput⟩ := core listed i o hsz hi ho him
     have hev : ∀ x ∈ o.op.operands.toList, evD (denv (fun j => decide (j < i)) 0 (reg.take m) ds s0.env) x = evD (denv (fun j => listed.getD j true) 0 (reg.take m) ds s0.env) x := by
      intro x hx'
      cases x with
      | tmp t => exact hlook t (looked_mem hx')
      | _ => rfl
     have hu := unl_set hil
     have next : ∀ (E' : Env) (a' : Act), Ext E s0.om E' s0.om → Sat lo E' (St.put ⟨denv (fun j => listed.getD j true) 0 (reg.take m) ds s0.env, s0.om⟩ o.dst d) a' → wpAnyIn (fence r) 0 P .any ops (Post lo base Q E0 s0.om) fuel (listed.setIfInBounds i true) a' E'.w := by
      intro E' a' hx' hs'
      rw [put_eq, hput] at hs'
      refine ih _ [] E' a' (by simp [hsz]) (closed_set hcl hi) (fun j hj => .inl ?_) (fun j hj => by simp at hj) rfl (fun j hj1 hj2 => ?_) (by omega) (hx.trans hx') hs'
      ·rw [set_getD (by omega)]
       split
       ·rfl
       ·exact hpl j hj
      ·rw [set_getD (by omega), if_neg (by omega)]
       exact ht j hj1 hj2
     have run : aopQ P T o.op (evD (denv (fun j => decide (j < i)) 0 (reg.take m) ds s0.env)) s0.om (· = d) →
       o.wpIn (fence r) 0 P a E.w (wpAnyIn (fence r) 0 P .any ops (Post lo base Q E0 s0.om) fuel (listed.setIfInBounds i true)) (Post lo base Q E0 s0.om) := by
      intro h
      have h' := aopQ_congr hev h
      have h'' := aopQ_aop (s := ⟨denv (fun j => listed.getD j true) 0 (reg.take m) ds s0.env, s0.om⟩) (dst := o.dst) (KP := fun _ _ => False) h'
      refine aop_ok hT false hs h'' r (aop_notDefer h'') (fun E' s' a' hk hx' hs' => ?_) (fun E' s' y d hk _ _ _ => hk.elim)
      subst hk
      refine next E' a' ?_ hs'
      cases hdst : o.dst <;> (rw [hdst] at hx'; exact hx')
     unfold wpOpIn
     simp only [ho]
     unfold StepOk at hst
     split at hst
     ·rename_i hg
      have : Region.wanted o (yielded ops a.tmps) = true := by
       unfold Region.wanted
       have hg : o.guard = none := hg
       rw [hg]
      rw [if_pos this]
      exact run hst
     ·rename_i j want hg
      have hg : o.guard = some (j, want) := hg
      obtain ⟨t, b, ht', hb, hcase⟩ := hst
      have htl : t ∈ looked ops o := by
       refine List.mem_append_right _ ?_
       have hd' : (ops[j]?).bind (·.dst) = some t := by
        rw [← hreg] at ht'
        simp only [List.getElem?_map] at ht'
        cases hoj : ops[j]? with
        | none => simp [hoj] at ht'
        | some oj => simpa [hoj, lop] using ht'
       rw [hg]
       simp [hd']
      rw [hlook t htl] at hb
      have hw := wanted_ok hreg hs hg ht' hb
      rcases hcase with ⟨hbw, h⟩ | ⟨hbw, rfl⟩
      ·rw [if_pos (by rw [hw]; exact hbw)]
       exact run h
      ·rw [if_neg (by rw [hw]; simp [hbw])]
       exact ⟨fun _ _ => trivial, next E _ (Ext.refl _ _) (hs.put (Ext.refl E s0.om) hs.rel (.v undef) _)⟩
theorem AW.regionD {base : Nat} (hT : TabOk P T) (hm : P.follows .mixedOrders = true) {id : Nat} {ops : Array Oper} {Q : AX → St → Prop} {s : St} (reg : List LOp) (own : List Nat) (m : Nat) (hreg : ops.toList.map lop = reg) (hok : drawOk ops [] m true = true)
  (h : qops P T reg s.om (reg.take m) s.env fun env => aops P T reg own m (reg.drop m) ⟨env, s.om⟩ (Q .norm) (fun d => Q (.panic d))) : AW base P (.region id ops true) Q s := by
 intro r lo E a hr hb hs
 obtain ⟨ds, h1, h2, h3⟩ := qops_facts h
 refine wpIn_region_any hm ?_
 have hrep : ∀ j, j < ops.size → (Array.replicate ops.size false).getD j true = false := by intro j hj; simp [Array.getD, hj]
 let E1 : Env := { E with w := { E.w with drawn := E.w.drawn + 1 } }
 have hx : Ext E s.om E1 s.om := ⟨Nat.le_refl _, fun _ _ => rfl, fun _ h => h, Nat.le_refl _, rfl, rfl, rfl, fun _ _ _ => rfl, fun b hl => .inl hl, fun b hA => .inl hA⟩
 have hlen : ops.size = reg.length := by rw [← hreg]; simp
 have hR1 : Rel E1 s.om := by
  refine ⟨hs.rel.len, fun k o hk => ?_, hs.rel.inj, hs.rel.old, hs.rel.one, fun g c h => (hs.rel.gt g c h).ext hs.rel hx⟩
  exact ObR.keep hs.rel hx (by rw [← hs.rel.len]; exact (List.getElem?_eq_some_iff.1 hk).1) (hs.rel.ob k o hk) fun hl b hb => ⟨rfl, (hs.rel.live_lt ⟨k, o, hk, hl, hb⟩).2⟩
 have hs1 : Sat lo E1 s a := ⟨hR1, hs.defs.ext hs.rel hx, hs.size, fun t => (hs.rd t).ext hs.rel hx⟩
 refine any_head hT hreg (drawOk_spec hok) (E0 := E) (s0 := s) hb (fun h => absurd rfl h) (fun h => absurd rfl h) h1 (fun fuel listed E2 a2 q1 q2 q3 q4 q5 q6 => any_tail hT hreg (drawOk_spec hok) own hb fuel listed m ⟨denv (fun _ => true) 0 (reg.take m) ds s.env, s.om⟩ E2 a2 q1 q2 (Nat.le_refl _) (drawOk_spec hok).le q3 q4 q5 q6 h2) h3 ops.size _ [] E1 a (by simp) closed_none (fun j hj => by simp at hj) (fun j hj => by simp at hj) rfl (fun j _ hj => hrep j hj) ?_ hx ?_
 ·unfold unl
  have := List.countP_le_length (p := fun b => !b) (l := (Array.replicate ops.size false).toList)
  simpa using this
 ·have : denv (fun j => (Array.replicate ops.size false).getD j true) 0 (reg.take m) ds s.env = denv (fun _ => false) 0 (reg.take m) ds s.env := denv_congr fun j hj => by
   rw [Nat.zero_add]
   exact hrep j (by simp at hj; omega)
  rw [this]
  have hnone : ∀ (i : Nat) (os : List LOp) (ds e : List D), denv (fun _ => false) i os ds e = e := by
   intro i os
   induction os generalizing i with
   | nil => intro ds e; simp [denv]
   | cons o os ih =>
    intro ds e
    cases ds with
    | nil => simp [denv]
    | cons d ds => simp only [denv]; rw [ih]; simp
  rw [hnone]
  exact hs1
theorem AW.regionT {base : Nat} (hT : TabOk P T) (hm : P.follows .mixedOrders = true) {id : Nat} {ops : Array Oper} {Q : AX → St → Prop} {s : St} (reg : List LOp) (own : List Nat) (m : Nat) (hreg : ops.toList.map lop = reg) (hok : drawOk ops [] m false = true)
  (h : qops P T reg s.om (reg.take m) s.env fun env => treeP P T reg own (mkTree ops ops.size (headMask ops.size m)) ⟨env, s.om⟩ (Q .norm) (fun d => Q (.panic d))) : AW base P (.region id ops true) Q s := by
 intro r lo E a hr hb hs
 obtain ⟨ds, h1, h2, h3⟩ := qops_facts h
 refine wpIn_region_any hm ?_
 have hrep : ∀ j, j < ops.size → (Array.replicate ops.size false).getD j true = false := by intro j hj; simp [Array.getD, hj]
 let E1 : Env := { E with w := { E.w with drawn := E.w.drawn + 1 } }
 have hx : Ext E s.om E1 s.om := ⟨Nat.le_refl _, fun _ _ => rfl, fun _ h => h, Nat.le_refl _, rfl, rfl, rfl, fun _ _ _ => rfl, fun b hl => .inl hl, fun b hA => .inl hA⟩
 have hlen : ops.size = reg.length := by rw [← hreg]; simp
 have hR1 : Rel E1 s.om := by
  refine ⟨hs.rel.len, fun k o hk => ?_, hs.rel.inj, hs.rel.old, hs.rel.one, fun g c h => (hs.rel.gt g c h).ext hs.rel hx⟩
  exact ObR.keep hs.rel hx (by rw [← hs.rel.len]; exact (List.getElem?_eq_some_iff.1 hk).1) (hs.rel.ob k o hk) fun hl b hb => ⟨rfl, (hs.rel.live_lt ⟨k, o, hk, hl, hb⟩).2⟩
 have hs1 : Sat lo E1 s a := ⟨hR1, hs.defs.ext hs.rel hx, hs.size, fun t => (hs.rd t).ext hs.rel hx⟩
 refine any_head hT hreg (drawOk_spec hok) (E0 := E) (s0 := s) hb (fun h => absurd rfl h) (fun h => absurd rfl h) h1 (fun fuel listed E2 a2 q1 q2 q3 q4 q5 q6 => any_tree hT hreg (drawOk_spec hok) own hb ops.size fuel listed ⟨denv (fun _ => true) 0 (reg.take m) ds s.env, s.om⟩ E2 a2 q1 q2 (fun j h1 h2 => (q3 j h2).2 h1) q4 (by
   have := List.countP_le_length (p := fun b => !b) (l := listed.toList)
   unfold unl
   simp only [Array.length_toList] at this
   omega) q5 q6 (by rw [mask_eq q1 q3]; exact h2)) h3 ops.size _ [] E1 a (by simp) closed_none (fun j hj => by simp at hj) (fun j hj => by simp at hj) rfl (fun j _ hj => hrep j hj) ?_ hx ?_
 ·unfold unl
  have := List.countP_le_length (p := fun b => !b) (l := (Array.replicate ops.size false).toList)
  simpa using this
 ·have : denv (fun j => (Array.replicate ops.size false).getD j true) 0 (reg.take m) ds s.env = denv (fun _ => false) 0 (reg.take m) ds s.env := denv_congr fun j hj => by
   rw [Nat.zero_add]
   exact hrep j (by simp at hj; omega)
  rw [this]
  have hnone : ∀ (i : Nat) (os : List LOp) (ds e : List D), denv (fun _ => false) i os ds e = e := by
   intro i os
   induction os generalizing i with
   | nil => intro ds e; simp [denv]
   | cons o os ih =>
    intro ds e
    cases ds with
    | nil => simp [denv]
    | cons d ds => simp only [denv]; rw [ih]; simp
  rw [hnone]
  exact hs1
def npan (Q : AX → St → Prop) : AX → St → Prop
 | .panic d, s => ∀ env, Q (.panic d) ⟨env, s.om⟩
 | x, s => Q x s
theorem AW.regionP0 {base : Nat} (hT : TabOk P T) (hm : P.follows .mixedOrders = true) {id : Nat} {ops : Array Oper} {Q : AX → St → Prop} {s : St} (reg : List LOp) (own pre : List Nat) (m : Nat) (hreg : ops.toList.map lop = reg) (hok : drawOk ops pre m true = true) (hpo : preOk ops (Array.replicate ops.size false) pre = true) (hrr : ∀ r : Option Nat, (r = none ∨ noRange (.region id ops true) = true) → pre ≠ [] → r = none) (hQp : pre ≠ [] → ∀ d s env, Q (.panic d) s → Q (.panic d) ⟨env, s.om⟩)
  (h : qops P T reg s.om (reg.take m) s.env fun env => aops P T reg own m (reg.drop m) ⟨env, s.om⟩ (Q .norm) (fun d => Q (.panic d))) : AW base P (.region id ops true) Q s := by
 intro r lo E a hr hb hs
 obtain ⟨ds, h1, h2, h3⟩ := qops_facts h
 refine wpIn_region_any hm ?_
 have hrep : ∀ j, j < ops.size → (Array.replicate ops.size false).getD j true = false := by intro j hj; simp [Array.getD, hj]
 let E1 : Env := { E with w := { E.w with drawn := E.w.drawn + 1 } }
 have hx : Ext E s.om E1 s.om := ⟨Nat.le_refl _, fun _ _ => rfl, fun _ h => h, Nat.le_refl _, rfl, rfl, rfl, fun _ _ _ => rfl, fun b hl => .inl hl, fun b hA => .inl hA⟩
 have hlen : ops.size = reg.length := by rw [← hreg]; simp
 have hR1 : Rel E1 s.om := by
  refine ⟨hs.rel.len, fun k o hk => ?_, hs.rel.inj, hs.rel.old, hs.rel.one, fun g c h => (hs.rel.gt g c h).ext hs.rel hx⟩
  exact ObR.keep hs.rel hx (by rw [← hs.rel.len]; exact (List.getElem?_eq_some_iff.1 hk).1) (hs.rel.ob k o hk) fun hl b hb => ⟨rfl, (hs.rel.live_lt ⟨k, o, hk, hl, hb⟩).2⟩
 have hs1 : Sat lo E1 s a := ⟨hR1, hs.defs.ext hs.rel hx, hs.size, fun t => (hs.rd t).ext hs.rel hx⟩
 refine any_head hT hreg (drawOk_spec hok) (E0 := E) (s0 := s) hb (hrr r hr.1) hQp h1 (fun fuel listed E2 a2 q1 q2 q3 q4 q5 q6 => any_tail hT hreg (drawOk_spec hok) own hb fuel listed m ⟨denv (fun _ => true) 0 (reg.take m) ds s.env, s.om⟩ E2 a2 q1 q2 (Nat.le_refl _) (drawOk_spec hok).le q3 q4 q5 q6 h2) h3 ops.size _ pre E1 a (by simp) closed_none (fun j hj => .inr hj) (fun _ h => h) hpo (fun j _ hj => hrep j hj) ?_ hx ?_
 ·unfold unl
  have := List.countP_le_length (p := fun b => !b) (l := (Array.replicate ops.size false).toList)
  simpa using this
 ·have : denv (fun j => (Array.replicate ops.size false).getD j true) 0 (reg.take m) ds s.env = denv (fun _ => false) 0 (reg.take m) ds s.env := denv_congr fun j hj => by
   rw [Nat.zero_add]
   exact hrep j (by simp at hj; omega)
  rw [this]
  have hnone : ∀ (i : Nat) (os : List LOp) (ds e : List D), denv (fun _ => false) i os ds e = e := by
   intro i os
   induction os generalizing i with
   | nil => intro ds e; simp [denv]
   | cons o os ih =>
    intro ds e
    cases ds with
    | nil => simp [denv]
    | cons d ds => simp only [denv]; rw [ih]; simp
  rw [hnone]
  exact hs1
theorem AW.regionP {base : Nat} (hT : TabOk P T) (hm : P.follows .mixedOrders = true) {id : Nat} {ops : Array Oper} {Q : AX → St → Prop} {s : St} (reg : List LOp) (own pre : List Nat) (m : Nat) (hreg : ops.toList.map lop = reg) (hok : drawOk ops pre m true = true) (hpo : preOk ops (Array.replicate ops.size false) pre = true) (hrr : noRange (.region id ops true) = false)
  (h : qops P T reg s.om (reg.take m) s.env fun env => aops P T reg own m (reg.drop m) ⟨env, s.om⟩ (Q .norm) (fun d s => ∀ env, Q (.panic d) ⟨env, s.om⟩)) : AW base P (.region id ops true) Q s := by
 have : AW base P (.region id ops true) (npan Q) s := AW.regionP0 hT hm reg own pre m hreg hok hpo (fun r hr _ => hr.elim (fun h => h) fun h => by rw [hrr] at h; cases h) (fun _ d s env hq => hq) h
 refine this.mono fun x s hq => ?_
 cases x
 ·exact hq
 ·exact hq
 ·exact hq
 ·exact hq s.env
end
end Go.Proofs.YtlejbkfefpfolaaGreatDoor.AWP
