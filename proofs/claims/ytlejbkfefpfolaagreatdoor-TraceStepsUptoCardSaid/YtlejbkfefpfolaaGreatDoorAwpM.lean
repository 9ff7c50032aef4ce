/- Part of a program logic over data: rules of the walk, each proved. -/
import Derived.Test.YtlejbkfefpfolaaGreatDoorAwpL
import Derived.Orders
set_option linter.unusedVariables false
set_option linter.unusedSimpArgs false
set_option linter.unusedSectionVars false
namespace Go.Proofs.YtlejbkfefpfolaaGreatDoor.AWP
open Go
def gB (d : D) (want : Bool) : Option Bool :=
 match d with
 | .v (.bool b) => some (decide (b = want))
 | .v (.tuple _) => some false
 | _ => none
def aops (P : Program) (T : Tab) (reg : List LOp) (own : List Nat) : Nat → List LOp → St → (St → Prop) → (D → St → Prop) → Prop
 | _, [], s, K, _ => K s
 | i, o :: rest, s, K, KP =>
  match o.guard with
  | none => aop P T (own.contains i) o.op o.dst s (fun s' => aops P T reg own (i + 1) rest s' K KP) KP
  | some (j, want) =>
   match (reg[j]?).bind (·.dst) with
   | some t =>
    match gB (s.env.getD t .any) want with
    | some true => aop P T (own.contains i) o.op o.dst s (fun s' => aops P T reg own (i + 1) rest s' K KP) KP
    | some false => aops P T reg own (i + 1) rest (s.put o.dst (.v undef)) K KP
    | none => False
   | none => False
section
variable {P : Program} {T : Tab}
theorem wanted_ok {lo : Lo} {ops : Array Oper} {reg : List LOp} (hreg : ops.toList.map lop = reg) {E : Env} {s : St} {a : Act} (hs : Sat lo E s a) {o : Oper} {j : Nat} {want : Bool} (hg : o.guard = some (j, want)) {t : Tmp} (ht : (reg[j]?).bind (·.dst) = some t)
  {w : Bool} (hb : gB (s.env.getD t .any) want = some w) : Region.wanted o (yielded ops a.tmps) = w := by
 have hv := hs.rd t
 have hlt : t < s.env.length := by
  by_cases h : t < s.env.length
  ·exact h
  ·simp [List.getD_eq_getElem?_getD, h, gB] at hb
 have hlt' : t < a.tmps.size := by rw [hs.size]; exact hlt
 have hd : (ops[j]?).bind (·.dst) = some t := by
  rw [← hreg] at ht
  simp only [List.getElem?_map] at ht
  cases ho : ops[j]? with
  | none => simp [ho] at ht
  | some oj => simpa [ho, lop] using ht
 unfold gB at hb
 split at hb
 ·rename_i b hb'
  rw [hb'] at hv
  have hv := hv.v_inv
  have hy : a.tmps[t]? = some (.bool b) := by
   simp [Array.getD, hlt'] at hv
   simp [hlt', hv]
  unfold Region.wanted yielded
  rw [hg]
  simp only [hd, Option.bind_some, hy]
  cases hb
  cases b <;> cases want <;> rfl
 ·rename_i c hb'
  rw [hb'] at hv
  have hv := hv.v_inv
  have hy : a.tmps[t]? = some (.tuple c) := by
   simp [Array.getD, hlt'] at hv
   simp [hlt', hv]
  unfold Region.wanted yielded
  rw [hg]
  simp only [hd, Option.bind_some, hy]
  cases hb
  cases want <;> rfl
 ·cases hb
theorem aops_ok {lo : Lo} {base : Nat} {r : Option Nat} (hT : TabOk P T) {ops : Array Oper} {reg : List LOp} (hreg : ops.toList.map lop = reg) (own : List Nat) {Q : AX → St → Prop} {E0 : Env} {om0 : List Ob} (hb0 : base ≤ E0.n) :
  ∀ (m i : Nat) (s : St) (E : Env) (a : Act), i + m = reg.length → Ext E0 om0 E s.om → Sat lo E s a → aops P T reg own i (reg.drop i) s (Q .norm) (fun d => Q (.panic d)) →
   wpOpsIn (fence r) 0 P ops (Post lo base Q E0 om0) (List.range' i m) a E.w := by
 have hlen : ops.size = reg.length := by rw [← hreg]; simp
 intro m
 induction m with
 | zero =>
  intro i s E a hi hx hs h
  rw [List.drop_eq_nil_of_le (by omega)] at h
  simp only [aops] at h
  simp only [List.range'_zero, wpOpsIn]
  exact ⟨E, .norm, s, h, trivial, rfl, hx.toB hb0, hs⟩
 | succ m ih =>
  intro i s E a hi hx hs h
  have hlt : i < reg.length := by omega
  have hlt' : i < ops.size := by omega
  rw [List.drop_eq_getElem_cons hlt] at h
  have ho : ops[i]? = some ops[i] := Array.getElem?_eq_getElem hlt'
  have hl : reg[i] = lop ops[i] := by
   have : reg[i]? = some (lop ops[i]) := by rw [← hreg]; simp [ho]
   rw [List.getElem?_eq_getElem hlt] at this
   simpa using this
  rw [List.range'_succ]
  simp only [wpOpsIn, ho]
  simp only [aops, hl, lop] at h
  have run : aop P T (own.contains i) ops[i].op ops[i].dst s (fun s' => aops P T reg own (i + 1) (reg.drop (i + 1)) s' (Q .norm) (fun d => Q (.panic d))) (fun d => Q (.panic d)) →
    ops[i].wpIn (fence r) 0 P a E.w (wpOpsIn (fence r) 0 P ops (Post lo base Q E0 om0) (List.range' (i + 1) m)) (Post lo base Q E0 om0) := by
   intro h
   refine aop_ok hT (own.contains i) hs h r (aop_notDefer h) ?_ ?_
   ·intro E' s' a' hk hx' hs'
    exact ih (i + 1) s' E' a' (by omega) (hx.trans hx') hs' hk
   ·intro E' s' y d hk hx' hs' hd
    exact ⟨E', .panic d, s', hk, ⟨y, rfl, hd⟩, rfl, (hx.trans hx').toB hb0, hs'⟩
  split at h
  ·rename_i hg
   have : Region.wanted ops[i] (yielded ops a.tmps) = true := by unfold Region.wanted; rw [hg]
   rw [if_pos this]
   exact run h
  ·rename_i j want hg
   split at h
   ·rename_i t ht
    split at h
    ·rename_i hb
     have hw := wanted_ok hreg hs hg ht hb
     rw [if_pos hw]
     exact run h
    ·rename_i hb
     have hw := wanted_ok hreg hs hg ht hb
     rw [if_neg (by rw [hw]; simp)]
     refine ⟨fun _ _ => trivial, ?_⟩
     refine ih (i + 1) _ E _ (by omega) ?_ (hs.put (Ext.refl E s.om) hs.rel (.v undef) _) h
     cases ops[i].dst <;> exact hx
    ·exact h.elim
   ·exact h.elim
theorem AW.region {base : Nat} (hT : TabOk P T) {id : Nat} {ops : Array Oper} {Q : AX → St → Prop} {s : St} (reg : List LOp) (own : List Nat) (hreg : ops.toList.map lop = reg)
  (h : aops P T reg own 0 reg s (Q .norm) (fun d => Q (.panic d))) : AW base P (.region id ops false) Q s := by
 intro r lo E a hr hb hs
 have hlen : ops.size = reg.length := by rw [← hreg]; simp
 refine wpIn_region ?_
 rw [List.range_eq_range', hlen]
 exact aops_ok hT hreg own hb reg.length 0 s E a (by omega) (Ext.refl _ _) hs (by simpa using h)
def QCall (P : Program) (f : FuncId) (ds : List D) (om : List Ob) (K : D → Prop) : Prop := ∃ d, AC P f ds om (retP d om) ∧ K d
def aopQ (P : Program) (T : Tab) (o : Op) (ρ : Operand → D) (om : List Ob) (K : D → Prop) : Prop :=
 match o with
 | .move x => K (ρ x)
 | .assign x => K (ρ x)
 | .pick c a b =>
  match ρ c with
  | .v (.bool t) => K (if t then ρ a else ρ b)
  | _ => False
 | .load t x => opt (qLoad T om t (ρ x)) K
 | .fieldAddr t x f => opt (qFieldAddr T t (ρ x) f) K
 | .indexAddr t x i => opt (qIndexAddr T om t (ρ x) (ρ i)) K
 | .field t x f => opt (qField T t (ρ x) f) K
 | .index t x i => opt (qIndex T t (ρ x) (ρ i)) K
 | .slice t x lo hi none => opt (qSlice T om t (ρ x) (lo.map ρ) (hi.map ρ)) K
 | .binOp op t x y _ => opt (qBin T op t (ρ x) (ρ y)) K
 | .unOp op _ x => opt (qUn op (ρ x)) K
 | .convert a b x => opt (qConvO T om a b (ρ x)) K
 | .extract x i =>
  match ρ x with
  | .tup c => opt (c[i]?) K
  | _ => False
 | .nilCheck x =>
  match ρ x with
  | .pel r => K (.pel r)
  | .ref k o => K (.ref k o)
  | .rel k z i j => K (.rel k z i j)
  | _ => False
 | .makeFunc (.func f) first cap => if first.size = 0 then K (.fn f (cap.toList.map ρ)) else False
 | .makeInterface t x => P.concrete t = true ∧ K (.ifc t (ρ x))
 | .build t parts => opt (qBuild T t (parts.toList.map fun p => (p.1, ρ p.2))) K
 | .buildSlice t len parts => opt (qRows T t len (parts.toList.map fun p => (p.1, ρ p.2))) fun r => K (.sl r.2.1 r.2.2)
 | .makeSlice t l c =>
  match T t, ρ l, ρ c with
  | some ⟨.slice e, _, _, _⟩, .v (.int _ n), .v (.int _ m) =>
   match T e with
   | some ei => 0 < ei.size ∧ 0 ≤ n ∧ n ≤ m ∧ ei.bytes * m ≤ 281474976710656 ∧ m ≤ 281474976710656 ∧ K (.sl ei.size (List.replicate n.toNat (zeroD ei)))
   | none => False
  | _, _, _ => False
 | .call c =>
  match c.callee with
  | .value f =>
   match ρ f with
   | .fn g cap => QCall P g (c.args.toList.map ρ ++ cap) om K
   | _ => False
  | .builtin .len =>
   match c.args.toList, c.argTypes.toList with
   | [x], [t] => opt (qLen T om t (ρ x)) K
   | _, _ => False
  | _ => False
 | _ => False
theorem opt_det {α : Type} {x : Option α} {K : α → Prop} (h : opt x K) : ∃ d, opt x (· = d) ∧ K d := by
 obtain ⟨a, rfl, h⟩ := opt_elim h
 exact ⟨a, rfl, h⟩
theorem aopQ_det {o : Op} {ρ : Operand → D} {om : List Ob} {K : D → Prop} (h : aopQ P T o ρ om K) : ∃ d, aopQ P T o ρ om (· = d) ∧ K d := by
 cases o <;> simp only [aopQ] at h ⊢
 all_goals try exact h.elim
 all_goals try exact opt_det h
 case move => exact ⟨_, rfl, h⟩
 case assign => exact ⟨_, rfl, h⟩
 case pick =>
  split at h
  ·exact ⟨_, rfl, h⟩
  ·exact h.elim
 case slice t x lo hi mx =>
  cases mx with
  | some m => exact h.elim
  | none => exact opt_det h
 case extract =>
  split at h
  ·exact opt_det h
  ·exact h.elim
 case nilCheck =>
  split at h
  ·exact ⟨_, rfl, h⟩
  ·exact ⟨_, rfl, h⟩
  ·exact ⟨_, rfl, h⟩
  ·exact h.elim
 case makeFunc fn first cap =>
  cases fn <;> simp only at h ⊢ <;> try exact h.elim
  split at h
  ·rename_i h0; simp only [h0, if_true]; exact ⟨_, rfl, h⟩
  ·exact h.elim
 case makeInterface => exact ⟨_, ⟨h.1, rfl⟩, h.2⟩
 case buildSlice =>
  obtain ⟨r, hr, hk⟩ := opt_elim h
  rw [hr]
  exact ⟨_, rfl, hk⟩
 case makeSlice t l c =>
  split at h
  ·rename_i e _ _ _ k n k' m ht hl hc
   split at h
   ·rename_i ei he
    obtain ⟨h0, h1, h2, h3, h4, hk⟩ := h
    exact ⟨_, ⟨h0, h1, h2, h3, h4, rfl⟩, hk⟩
   ·exact h.elim
  ·exact h.elim
 case call c =>
  split at h
  ·rename_i f hc
   split at h
   ·rename_i g cap hf
    obtain ⟨d, h1, h2⟩ := h
    exact ⟨d, ⟨d, h1, rfl⟩, h2⟩
   ·exact h.elim
  ·split at h
   ·exact opt_det h
   ·exact h.elim
  ·exact h.elim
theorem aopQ_aop {o : Op} {dst : Option Tmp} {s : St} {KP : D → St → Prop} {d : D} (h : aopQ P T o (evD s.env) s.om (· = d)) : aop P T false o dst s (fun s' => s' = s.put dst d) KP := by
 have ho : ∀ {x : Option D}, opt x (· = d) → opt x fun d' => s.put dst d' = s.put dst d := by
  intro x hx
  obtain ⟨a, rfl, e⟩ := opt_elim hx
  simp only [opt_some]
  rw [e]
 cases o <;> simp only [aopQ] at h <;> simp only [aop]
 all_goals try exact h.elim
 all_goals try exact ho h
 case move => rw [h]
 case assign => rw [h]
 case pick =>
  split at h
  ·rename_i hc; simp only [hc]; rw [h]
  ·exact h.elim
 case slice t x lo hi mx =>
  cases mx with
  | some m => exact h.elim
  | none => exact ho h
 case extract =>
  split at h
  ·rename_i hc; simp only [hc]; exact ho h
  ·exact h.elim
 case nilCheck =>
  split at h
  ·rename_i hc; simp only [hc]; rw [h]
  ·rename_i hc; simp only [hc]; rw [h]
  ·rename_i hc; simp only [hc]; rw [h]
  ·exact h.elim
 case makeFunc fn first cap =>
  cases fn <;> simp only at h ⊢ <;> try exact h.elim
  split at h
  ·rename_i h0; rw [if_pos h0, h]
  ·exact h.elim
 case makeInterface => exact ⟨h.1, by rw [h.2]⟩
 case buildSlice =>
  obtain ⟨r, hr, hk⟩ := opt_elim h
  rw [hr]
  simp only [opt_some, Bool.false_eq_true, if_false]
  rw [hk]
 case makeSlice t l c =>
  split at h
  ·rename_i e _ _ _ k n k' m ht hl hc
   split at h
   ·rename_i ei he
    obtain ⟨h0, h1, h2, h3, h4, hk⟩ := h
    simp only [ht, hl, hc, he, Bool.false_eq_true, if_false]
    exact ⟨h0, h1, h2, h3, h4, by rw [hk]⟩
   ·exact h.elim
  ·exact h.elim
 case call c =>
  unfold aCall
  split at h
  ·rename_i f hc
   simp only [hc]
   split at h
   ·rename_i g cap hf
    obtain ⟨d', h1, rfl⟩ := h
    simp only [hf]
    refine ⟨_, h1, ?_⟩
    rintro o om' ⟨rfl, rfl⟩
    rfl
   ·exact h.elim
  ·rename_i hc
   simp only [hc]
   split at h
   ·rename_i hx ht; simp only [hx, ht]; exact ho h
   ·exact h.elim
  ·exact h.elim
theorem map_congr_ops {ρ ρ' : Operand → D} {l : List Operand} (h : ∀ x ∈ l, ρ x = ρ' x) : l.map ρ = l.map ρ' := List.map_congr_left h
theorem aopQ_congr {o : Op} {ρ ρ' : Operand → D} {om : List Ob} {K : D → Prop} (hc : ∀ x ∈ o.operands.toList, ρ x = ρ' x) (h : aopQ P T o ρ om K) : aopQ P T o ρ' om K := by
 cases o <;> simp only [aopQ] at h ⊢
 all_goals try exact h.elim
 case move x => rw [← hc x (by simp [Op.operands])]; exact h
 case assign x => rw [← hc x (by simp [Op.operands])]; exact h
 case pick c a b =>
  rw [← hc c (by simp [Op.operands]), ← hc a (by simp [Op.operands]), ← hc b (by simp [Op.operands])]; exact h
 case load t x => rw [← hc x (by simp [Op.operands])]; exact h
 case fieldAddr t x f => rw [← hc x (by simp [Op.operands])]; exact h
 case indexAddr t x i => rw [← hc x (by simp [Op.operands]), ← hc i (by simp [Op.operands])]; exact h
 case field t x f => rw [← hc x (by simp [Op.operands])]; exact h
 case index t x i => rw [← hc x (by simp [Op.operands]), ← hc i (by simp [Op.operands])]; exact h
 case slice t x lo hi mx =>
  cases mx with
  | some m => exact h.elim
  | none =>
   have h1 : lo.map ρ = lo.map ρ' := by
    cases lo with
    | none => rfl
    | some y => simp only [Option.map_some]; rw [hc y (by simp [Op.operands])]
   have h2 : hi.map ρ = hi.map ρ' := by
    cases hi with
    | none => rfl
    | some y => simp only [Option.map_some]; rw [hc y (by simp [Op.operands])]
   change opt (qSlice T om t (ρ' x) (lo.map ρ') (hi.map ρ')) K
   rw [← hc x (by simp [Op.operands]), ← h1, ← h2]
   exact h
 case binOp op t x y yt => rw [← hc x (by simp [Op.operands]), ← hc y (by simp [Op.operands])]; exact h
 case unOp op t x => rw [← hc x (by simp [Op.operands])]; exact h
 case convert t u x => rw [← hc x (by simp [Op.operands])]; exact h
 case extract x i => rw [← hc x (by simp [Op.operands])]; exact h
 case nilCheck x => rw [← hc x (by simp [Op.operands])]; exact h
 case makeFunc fn first cap =>
  cases fn <;> simp only at h ⊢ <;> try exact h.elim
  have : cap.toList.map ρ = cap.toList.map ρ' := map_congr_ops fun x hx => hc x (by simp [Op.operands]; exact .inr (by simpa using hx))
  rw [← this]
  exact h
 case makeInterface t x => rw [← hc x (by simp [Op.operands])]; exact h
 case build t parts =>
  have : parts.toList.map (fun p => (p.1, ρ p.2)) = parts.toList.map fun p => (p.1, ρ' p.2) := List.map_congr_left fun p hp => by
   rw [hc p.2 (by simp [Op.operands]; exact ⟨p.1, by simpa using hp⟩)]
  rw [← this]
  exact h
 case makeSlice t l c => rw [← hc l (by simp [Op.operands]), ← hc c (by simp [Op.operands])]; exact h
 case buildSlice t len parts =>
  have : parts.toList.map (fun p => (p.1, ρ p.2)) = parts.toList.map fun p => (p.1, ρ' p.2) := List.map_congr_left fun p hp => by
   rw [hc p.2 (by simp [Op.operands]; exact ⟨p.1, by simpa using hp⟩)]
  rw [← this]
  exact h
 case call c =>
  have hargs : ∀ x ∈ c.args.toList, ρ x = ρ' x := fun x hx => hc x (by simp [Op.operands, Call.operands]; exact .inr (by simpa using hx))
  have hargs' : c.args.toList.map ρ = c.args.toList.map ρ' := map_congr_ops hargs
  split at h
  ·rename_i f hcc
   have hf : ρ f = ρ' f := hc f (by simp [Op.operands, Call.operands, hcc])
   rw [hf, hargs'] at h
   exact h
  ·rename_i hcc
   split at h
   ·rename_i x t hx ht
    rw [← hargs x (by rw [hx]; simp)]
    exact h
   ·exact h.elim
  ·exact h.elim
end
end Go.Proofs.YtlejbkfefpfolaaGreatDoor.AWP
