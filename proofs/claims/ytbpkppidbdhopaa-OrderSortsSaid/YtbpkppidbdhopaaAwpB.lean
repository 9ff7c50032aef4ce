/- Part of a program logic over data: rules of the walk, each proved. -/
import Derived.Test.YtbpkppidbdhopaaAwpA
set_option linter.unusedSectionVars false
set_option linter.unusedVariables false
set_option linter.unusedSimpArgs false
namespace Go.Proofs.Ytbpkppidbdhopaa.AWP
open Go

theorem Rd.v_inv {E : Env} {x y : Value} (h : Rd E (.v x) y) : y = x := by cases h; rfl

/-- A constant of the text. -/
def ofConst : Value → D
  | .agg cs => if cs.all Value.oneCell' then .agg (cs.toList.map .v) else .v (.agg cs)
  | x => .v x

theorem Rd.ofConst (E : Env) (x : Value) : Rd E (ofConst x) x := by
  unfold AWP.ofConst
  split
  · rename_i cs
    split
    · rename_i h
      refine .agg cs (by simp) (fun j hj => ?_) (fun j d hd => ?_)
      · have := (Array.all_eq_true.1 h) j hj
        simpa [Array.getD, hj] using this
      · simp only [List.getElem?_map, Option.map_eq_some_iff, Array.getElem?_toList] at hd
        obtain ⟨y, hy, rfl⟩ := hd
        have : cs.getD j undef = y := by simp [Array.getD_eq_getD_getElem?, hy]
        rw [this]
        exact .v y
    · exact .v _
  · exact .v _

def evD (env : List D) : Operand → D
  | .tmp t => env.getD t .any
  | .const v => ofConst v
  | .global g => .v (.pointer (some ⟨g, 0, none⟩))
  | .func f => .fn f []

structure St where
  env : List D
  om : List Ob

/-- The marks of loops over functions among the deferred calls: their blocks hold nothing. -/
def mark (b : Nat) : Deferred := { target := .collected b, args := #[] }
def Marks (lo : Nat) (E : Env) (ds : List Deferred) : Prop := lo ≤ E.w.heap.size ∧ ∃ bs : List Nat, bs.Nodup ∧ ds = bs.map mark ∧ ∀ b ∈ bs, lo ≤ b ∧ E.w.heap[b]? = some (.deferred (some []))

theorem Marks.nil {lo : Nat} {E : Env} (h : lo ≤ E.w.heap.size) : Marks lo E [] := ⟨h, [], List.nodup_nil, rfl, by simp⟩

theorem Rel.no_df {E : Env} {om : List Ob} (h : Rel E om) {b : Nat} (hd : E.w.heap[b]? = some (.deferred (some []))) : ¬ Live E om b := by
  rintro ⟨k, o, ho, hl, hg⟩
  have hob := h.ob k o ho
  cases o with
  | var ty c =>
    obtain ⟨b', cs, h1, h2, _⟩ := hob
    rw [h1] at hg
    simp only [hb, Option.some.injEq] at hg
    subst hg
    rw [hd] at h2; cases h2
  | slc ty sz rows =>
    obtain ⟨_, _, h1 | ⟨b', cs, cap, h1, h2, _⟩⟩ := hob
    · rw [h1.1] at hg; simp [hb] at hg
    · rw [h1] at hg
      simp only [hb, Option.some.injEq] at hg
      subst hg
      rw [hd] at h2; cases h2
  | lp ps as bo st pe env =>
    obtain ⟨b', r, h1, h2, _⟩ := hob
    rw [h1] at hg
    simp only [hb, Option.some.injEq] at hg
    subst hg
    rw [hd] at h2; cases h2
  | frz sz rows => simp [Ob.live] at hl
  | frv c => simp [Ob.live] at hl
  | dead => simp [Ob.live] at hl

theorem Marks.extB {lo base : Nat} {E E' : Env} {om om' : List Ob} {ds : List Deferred} (h : Marks lo E ds) (hR : Rel E om) (hx : ExtB base E om E' om') : Marks lo E' ds := by
  obtain ⟨h0, bs, h1, h2, h3⟩ := h
  refine ⟨Nat.le_trans h0 hx.size, bs, h1, h2, fun b hb => ⟨(h3 b hb).1, ?_⟩⟩
  have hd := (h3 b hb).2
  rw [hx.keep b (Array.getElem?_eq_some_iff.1 hd).1 (hR.no_df hd)]
  exact hd
theorem Marks.ext {lo : Nat} {E E' : Env} {om om' : List Ob} {ds : List Deferred} (h : Marks lo E ds) (hR : Rel E om) (hx : Ext E om E' om') : Marks lo E' ds := h.extB hR (hx.toB (Nat.le_refl _))

structure Sat (lo : Nat) (E : Env) (s : St) (a : Act) : Prop where
  rel : Rel E s.om
  defs : Marks lo E a.defers
  size : a.tmps.size = s.env.length
  rd : ∀ t, Rd E (s.env.getD t .any) (a.tmps.getD t undef)

theorem Sat.ev {lo : Nat} {E : Env} {s : St} {a : Act} (h : Sat lo E s a) (x : Operand) : Rd E (evD s.env x) (a.eval x) := by
  cases x with
  | tmp t => exact h.rd t
  | const v => exact Rd.ofConst E v
  | global g => exact .v _
  | func f => exact .fn #[] rfl (fun j d hd => by simp at hd)

def St.put (s : St) (dst : Option Tmp) (d : D) : St :=
  match dst with
  | some t => { s with env := s.env.set t d }
  | none => s

/-- A slot is written in a world that goes on. -/
theorem Sat.put {lo : Nat} {E E' : Env} {s : St} {om' : List Ob} {a : Act} (h : Sat lo E s a) (hx : Ext E s.om E' om') (hr : Rel E' om') {d : D} {y : Value} (hd : Rd E' d y) (dst : Option Tmp) :
    Sat lo E' (St.put ⟨s.env, om'⟩ dst d) (a.put dst y) := by
  cases dst with
  | none => exact ⟨hr, h.defs.ext h.rel hx, h.size, fun t => (h.rd t).ext h.rel hx⟩
  | some t =>
    refine ⟨hr, h.defs.ext h.rel hx, by simp [St.put, Act.put, h.size], fun u => ?_⟩
    show Rd E' ((s.env.set t d).getD u .any) ((a.tmps.setIfInBounds t y).getD u undef)
    by_cases hu : u = t
    · subst hu
      by_cases hl : u < s.env.length
      · have hl' : u < a.tmps.size := by rw [h.size]; exact hl
        simp [List.getD_eq_getElem?_getD, Array.getD_eq_getD_getElem?, List.getElem?_set, Array.getElem?_setIfInBounds, hl, hl']
        exact hd
      · have : s.env.length ≤ u := by omega
        simp only [List.getD_eq_getElem?_getD, List.getElem?_set]
        simp [hl]
        exact .any _
    · have e1 : (s.env.set t d).getD u .any = s.env.getD u .any := by
        simp [List.getD_eq_getElem?_getD, List.getElem?_set, Ne.symm hu]
      have e2 : (a.tmps.setIfInBounds t y).getD u undef = a.tmps.getD u undef := by
        simp [Array.getD_eq_getD_getElem?, Array.getElem?_setIfInBounds, Ne.symm hu]
      rw [e1, e2]
      exact (h.rd u).ext h.rel hx

/-! ### Ways out -/
inductive AX where
  | norm
  | exit (id : Nat)
  | ret
  | panic (d : D)

def cx (E : Env) : AX → Exit → Prop
  | .norm, .normal => True
  | .exit i, .exit j => i = j
  | .ret, .ret => True
  | .panic d, .panic ch => ∃ y, ch = [{ v := y, recovered := false }] ∧ Rd E d y
  | _, _ => False

/-- The concrete post of an abstract one. -/
def Post (lo base : Nat) (Q : AX → St → Prop) (E : Env) (om : List Ob) (e : Exit) (a' : Act) (w' : World) : Prop :=
  ∃ E' x s', Q x s' ∧ cx E' x e ∧ E'.w = w' ∧ ExtB base E om E' s'.om ∧ Sat lo E' s' a'

/-- In a round of a loop over a function, or not. -/
abbrev fence (r : Option Nat) : Fence := { Fence.wide with round := r }
theorem calls_fence {r : Option Nat} {n : Nat} {P : Program} {f : FuncId} {args : Array Value} {w : World} {R : Ending → World → Prop} (h : Calls P f args w R) : CallsIn (fence r) n P f args w R := callsIn_wide.2 h

/-- Regions that are walked in a round too. -/
def roundOkB (ops : Array Oper) : Bool :=
  (ops.any fun o => match o.op with
    | .call c => match c.callee with | .builtin .append => true | _ => false
    | _ => false) || ops.all fun o => o.after.all fun e => Region.binds .any e

def noRange : Code → Bool
  | .skip => true
  | .region _ ops d => !d || roundOkB ops
  | .seq a b => noRange a && noRange b
  | .cond _ a b => noRange a && noRange b
  | .block _ a => noRange a
  | .loop a => noRange a
  | .exit _ => true
  | .label _ => true
  | .ret => true
  | _ => false

def AW (base : Nat) (P : Program) (c : Code) (Q : AX → St → Prop) (s : St) : Prop :=
  ∀ (r : Option Nat) (lo : Nat) (E : Env) (a : Act), (r = none ∨ noRange c = true) → base ≤ E.n → Sat lo E s a → c.wpIn (fence r) 0 P (Post lo base Q E s.om) a E.w

section
variable {base : Nat} {P : Program} {Q Q' : AX → St → Prop} {s : St}

theorem Post.mono {lo : Nat} {E : Env} {om : List Ob} (hq : ∀ x s, Q x s → Q' x s) : ∀ e a w, Post lo base Q E om e a w → Post lo base Q' E om e a w :=
  fun e a w ⟨E', x, s', h1, h2⟩ => ⟨E', x, s', hq _ _ h1, h2⟩

theorem Post.trans {lo : Nat} {E E1 : Env} {om om1 : List Ob} (hx : ExtB base E om E1 om1) : ∀ e a w, Post lo base Q E1 om1 e a w → Post lo base Q E om e a w :=
  fun e a w ⟨E', x, s', h1, h2, h3, h4, h5⟩ => ⟨E', x, s', h1, h2, h3, hx.trans h4, h5⟩

theorem AW.mono {c : Code} (h : AW base P c Q s) (hq : ∀ x s, Q x s → Q' x s) : AW base P c Q' s :=
  fun r lo E a hr hb hs => wpIn_mono (h r lo E a hr hb hs) (Post.mono hq)

def thenQ (N : St → Prop) (Q : AX → St → Prop) : AX → St → Prop
  | .norm, s => N s
  | x, s => Q x s

theorem AW.seq {c1 c2 : Code} (h : AW base P c1 (thenQ (AW base P c2 Q) Q) s) : AW base P (.seq c1 c2) Q s := by
  intro r lo E a hr hb hs
  have hr1 := hr.imp id fun h => (Bool.and_eq_true _ _ ▸ h : noRange c1 = true ∧ noRange c2 = true).1
  have hr2 := hr.imp id fun h => (Bool.and_eq_true _ _ ▸ h : noRange c1 = true ∧ noRange c2 = true).2
  refine wpIn_seq (wpIn_mono (h r lo E a hr1 hb hs) ?_)
  rintro e a' w' ⟨E', x, s', hq, hx, rfl, hext, hsat⟩
  cases x <;> cases e <;> simp only [cx] at hx
  · exact wpIn_mono (hq r lo E' a' hr2 hext.n hsat) (Post.trans hext)
  · subst hx; exact ⟨E', .exit _, s', hq, rfl, rfl, hext, hsat⟩
  · exact ⟨E', .ret, s', hq, trivial, rfl, hext, hsat⟩
  · exact ⟨E', .panic _, s', hq, hx, rfl, hext, hsat⟩

theorem AW.skip (h : Q .norm s) : AW base P .skip Q s := fun r lo E a hr hb hs => wpIn_skip ⟨E, .norm, s, h, trivial, rfl, (Ext.refl _ _).toB hb, hs⟩
theorem AW.label {l : Nat} (h : Q .norm s) : AW base P (.label l) Q s := fun r lo E a hr hb hs => wpIn_label ⟨E, .norm, s, h, trivial, rfl, (Ext.refl _ _).toB hb, hs⟩
theorem AW.ret (h : Q .ret s) : AW base P .ret Q s := fun r lo E a hr hb hs => wpIn_ret ⟨E, .ret, s, h, trivial, rfl, (Ext.refl _ _).toB hb, hs⟩
theorem AW.exit {id : Nat} (h : Q (.exit id) s) : AW base P (.exit id) Q s := fun r lo E a hr hb hs => wpIn_exit ⟨E, .exit id, s, h, rfl, rfl, (Ext.refl _ _).toB hb, hs⟩

theorem AW.cond {c : Operand} {x y : Code} {t : Bool} (hc : evD s.env c = .v (.bool t)) (h : if t then AW base P x Q s else AW base P y Q s) : AW base P (.cond c x y) Q s := by
  intro r lo E a hr hb hs
  have hr1 := hr.imp id fun h => (Bool.and_eq_true _ _ ▸ h : noRange x = true ∧ noRange y = true).1
  have hr2 := hr.imp id fun h => (Bool.and_eq_true _ _ ▸ h : noRange x = true ∧ noRange y = true).2
  have he : a.eval c = .bool t := by
    have := hs.ev c
    rw [hc] at this
    exact this.v_inv
  refine wpIn_cond he ?_
  cases t
  · exact h r lo E a hr2 hb hs
  · exact h r lo E a hr1 hb hs

def blockQ (id : Nat) (Q : AX → St → Prop) : AX → St → Prop
  | .exit i, s => if i = id then Q .norm s else Q (.exit i) s
  | x, s => Q x s

theorem AW.block {id : Nat} {c : Code} (h : AW base P c (blockQ id Q) s) : AW base P (.block id c) Q s := by
  intro r lo E a hr hb hs
  refine wpIn_block (wpIn_mono (h r lo E a hr hb hs) ?_)
  rintro e a' w' ⟨E', x, s', hq, hx, rfl, hext, hsat⟩
  cases x <;> cases e <;> simp only [cx] at hx
  · exact ⟨E', .norm, s', hq, trivial, rfl, hext, hsat⟩
  · subst hx
    simp only [blockQ] at hq
    simp only [Exit.inBlock]
    split
    · rename_i h; rw [if_pos h] at hq; exact ⟨E', .norm, s', hq, trivial, rfl, hext, hsat⟩
    · rename_i h; rw [if_neg h] at hq; exact ⟨E', .exit _, s', hq, rfl, rfl, hext, hsat⟩
  · exact ⟨E', .ret, s', hq, trivial, rfl, hext, hsat⟩
  · exact ⟨E', .panic _, s', hq, hx, rfl, hext, hsat⟩

/-- A loop: an invariant with a measure that each round lowers. -/
theorem AW.loop {c : Code} (I : Nat → St → Prop) (h0 : ∃ n, I n s) (round : ∀ n s, I n s → AW base P c (thenQ (fun s' => ∃ m, m < n ∧ I m s') Q) s) : AW base P (.loop c) Q s := by
  intro r lo E a hr hb hs b k cs hro hbf hroom
  have key : ∀ n E1 a1 s1, I n s1 → Sat lo E1 s1 a1 → ExtB base E s.om E1 s1.om →
      ∃ e a' w', Post lo base Q E s.om e a' w' ∧ ArrivesIn (Machine.fenced P (fence r)) P (lone (b.atR a1 (.code c :: .inLoop c :: k)) cs E1.w) b k cs e a' w' := by
    intro n
    induction n using Nat.strongRecOn with
    | _ n ih =>
      intro E1 a1 s1 hI hsat hext
      obtain ⟨e, a2, w2, ⟨E2, x, s2, hq, hx, rfl, hext2, hsat2⟩, harr⟩ := round n s1 hI r lo E1 a1 hr hext.n hsat b (.inLoop c :: k) cs hro hbf hroom
      cases x <;> cases e <;> simp only [cx] at hx
      · obtain ⟨m, hm, hI2⟩ := hq
        obtain ⟨e, a', w', h1, h2⟩ := ih m hm E2 a2 s2 hI2 hsat2 (hext.trans hext2)
        exact ⟨e, a', w', h1, .of_steps (StepsIn.trans harr (.one (fenced_calm hbf hroom rfl) stepR_inLoop)) h2⟩
      · subst hx
        exact ⟨.exit _, a2, E2.w, ⟨E2, .exit _, s2, hq, rfl, rfl, hext.trans hext2, hsat2⟩, .pass (x := .inLoop c) rfl (fun _ _ => .inl (by simp)) harr⟩
      · exact ⟨.ret, a2, E2.w, ⟨E2, .ret, s2, hq, trivial, rfl, hext.trans hext2, hsat2⟩, .pass (x := .inLoop c) rfl (fun _ _ => .inl (by simp)) harr⟩
      · exact ⟨.panic _, a2, E2.w, ⟨E2, .panic _, s2, hq, hx, rfl, hext.trans hext2, hsat2⟩, .pass (x := .inLoop c) rfl (fun _ _ => .inl (by simp)) harr⟩
  obtain ⟨n, hI⟩ := h0
  obtain ⟨e, a', w', h1, h2⟩ := key n E a s hI hs ((Ext.refl _ _).toB hb)
  exact ⟨e, a', w', h1, .of_steps (.one (fenced_calm hbf hroom rfl) stepR_loop) h2⟩
end

/-! ### A mark's block is shut -/
structure Turn (lo : Nat) (E E' : Env) (om : List Ob) : Prop where
  n : E'.n = E.n
  g : E'.g = E.g
  A : E'.A = E.A
  size : E'.w.heap.size = E.w.heap.size
  os : E'.w.os = E.w.os
  tape : E'.w.tape = E.w.tape
  output : E'.w.output = E.w.output
  low : ∀ b, b < lo → E'.w.heap[b]? = E.w.heap[b]?
  rel : Rel E' om
  rd : ∀ d y, Rd E d y → Rd E' d y

theorem Turn.refl {lo : Nat} {E : Env} {om : List Ob} (h : Rel E om) : Turn lo E E om := ⟨rfl, rfl, rfl, rfl, rfl, rfl, rfl, fun _ _ => rfl, h, fun _ _ h => h⟩
theorem Turn.trans {lo : Nat} {E E1 E2 : Env} {om : List Ob} (h : Turn lo E E1 om) (k : Turn lo E1 E2 om) : Turn lo E E2 om :=
  ⟨k.n.trans h.n, k.g.trans h.g, k.A.trans h.A, k.size.trans h.size, k.os.trans h.os, k.tape.trans h.tape, k.output.trans h.output, fun b hb => (k.low b hb).trans (h.low b hb), k.rel, fun d y hd => k.rd d y (h.rd d y hd)⟩

theorem Turn.shut {lo b : Nat} {E : Env} {om : List Ob} (hR : Rel E om) (hd : E.w.heap[b]? = some (.deferred (some []))) (hb' : lo ≤ b) : Turn lo E { E with w := E.w.putObj b (.deferred none) } om := by
  have hlt := (Array.getElem?_eq_some_iff.1 hd).1
  have same : ∀ k, k ≠ b → (E.w.putObj b (.deferred none)).heap[k]? = E.w.heap[k]? := fun k hk => World.putObj_heap_other hk
  have hcell : ∀ a : Addr, (E.w.putObj b (.deferred none)).cell? a = E.w.cell? a := by
    intro a
    by_cases e : a.block = b
    · unfold World.cell?
      rw [e, hd, World.putObj_heap_same hlt]
    · exact World.cell?_of_block (same _ e)
  have hrd : ∀ d y, Rd E d y → Rd { E with w := E.w.putObj b (.deferred none) } d y := fun d y h => Rd.gen (E := E) (E' := { E with w := E.w.putObj b (.deferred none) }) (Nat.le_refl _) (fun _ _ => rfl) (fun _ h => h) (fun a _ => hcell a) h
  have hcs : ∀ c cs, CellsR E c cs → CellsR { E with w := E.w.putObj b (.deferred none) } c cs := fun c cs h j d hj => let ⟨y, h1, h2, h3⟩ := h j d hj; ⟨y, h1, h2, hrd d y h3⟩
  refine ⟨rfl, rfl, rfl, World.putObj_size, rfl, rfl, rfl, fun k hk => same k (by omega), ⟨hR.len, fun k o hk => ?_, hR.inj, fun k hA => by show k < (E.w.putObj b _).heap.size; rw [World.putObj_size]; exact hR.old k hA, hR.one⟩, hrd⟩
  have hob := hR.ob k o hk
  cases o with
  | var ty c =>
    obtain ⟨b', cs, h1, h2, h3, h4, h5⟩ := hob
    exact ⟨b', cs, h1, (same b' (fun e => by rw [e, hd] at h2; cases h2)).trans h2, h3, h4, hcs _ _ h5⟩
  | slc ty sz rows =>
    obtain ⟨h0, hs, h | ⟨b', cs, cap, h1, h2, h3, h4, h5, h6, h7⟩⟩ := hob
    · exact ⟨h0, hs, .inl h⟩
    · exact ⟨h0, hs, .inr ⟨b', cs, cap, h1, (same b' (fun e => by rw [e, hd] at h2; cases h2)).trans h2, h3, h4, h5, h6, hcs _ _ h7⟩⟩
  | frz sz rows => exact ⟨hrd _ _ hob.1, hob.2⟩
  | frv c => exact ⟨hrd _ _ hob.1, hob.2⟩
  | lp ps as bo st pe env =>
    obtain ⟨b', r, h1, h2, h3, h4, h5, h6, h7, h8, h9, h10⟩ := hob
    exact ⟨b', r, h1, (same b' (fun e => by rw [e, hd] at h2; cases h2)).trans h2, h3, h4, h5, h6, h7, h8, h9, fun t => hrd _ _ (h10 t)⟩
  | dead => trivial

theorem Ext.turn {E E1 E2 : Env} {om om1 : List Ob} (h : Ext E om E1 om1) (k : Turn E.w.heap.size E1 E2 om1) : Ext E om E2 om1 :=
  ⟨by rw [k.n]; exact h.n, fun i hi => by rw [k.g]; exact h.g i hi, fun b hb => by rw [k.A]; exact h.A b hb, by rw [k.size]; exact h.size, k.os.trans h.os, k.tape.trans h.tape, k.output.trans h.output,
    fun b hb hn => (k.low b hb).trans (h.keep b hb hn), fun b ⟨i, o, h1, h2, h3⟩ => h.live b ⟨i, o, h1, h2, by rw [← k.g]; exact h3⟩, fun b hA => h.newA b (by rw [← k.A]; exact hA)⟩

/-- The marks are come to, one behind the other. -/
theorem leave_marks {P : Program} {fn : Func} {tmps : Array Value} {R : Ending → World → Prop} {u : FrameMode} (hu : u ≠ .run) {lo : Nat} {om : List Ob} : ∀ (bs : List Nat) (E : Env), Rel E om → bs.Nodup → (∀ b ∈ bs, lo ≤ b ∧ E.w.heap[b]? = some (.deferred (some []))) →
    (∀ E', Turn lo E E' om → LeavesIn Fence.wide 0 P fn tmps R [] u E'.w) → LeavesInM Fence.wide 0 P fn tmps R (bs.map mark) u E.w
  | [], E, hR, _, _, h => h E (Turn.refl hR)
  | b :: bs, E, hR, hnd, hbs, h => by
    have hb := hbs b (by simp)
    have ht := Turn.shut hR hb.2 hb.1
    refine ⟨hu, .inl ⟨b, _, rfl, run_takeDeferred hb.2, leave_marks hu bs { E with w := E.w.putObj b (.deferred none) } ht.rel (List.nodup_cons.1 hnd).2 (fun c hc => ?_) fun E' h' => h E' (ht.trans h')⟩⟩
    refine ⟨(hbs c (by simp [hc])).1, ?_⟩
    have hne : c ≠ b := fun e => (List.nodup_cons.1 hnd).1 (e ▸ hc)
    exact (World.putObj_heap_other hne).trans (hbs c (by simp [hc])).2

/-! ### Contracts -/
inductive Out where
  | ret (d : D)
  | panic (d : D)

def OutR (E : Env) : Out → Ending → Prop
  | .ret d, .returned y => Rd E d y
  | .panic d, .panicked ch => ∃ y, ch = [{ v := y, recovered := false }] ∧ Rd E d y
  | _, _ => False

def RdA (E : Env) (ds : List D) (vs : Array Value) : Prop := vs.size = ds.length ∧ ∀ (j : Nat) (d : D), ds[j]? = some d → Rd E d (vs.getD j undef)

def callOk (P : Program) (f : FuncId) : Bool :=
  match P.funcs[f]? with
  | some fn => fn.body.isSome && !(fn.name == "runtime.NumGoroutine")
  | none => false

def AC (P : Program) (f : FuncId) (ds : List D) (om : List Ob) (R : Out → List Ob → Prop) : Prop :=
  callOk P f = true ∧ ∀ E vs, Rel E om → RdA E ds vs → Calls P f vs E.w fun e w' => ∃ E' o om', R o om' ∧ E'.w = w' ∧ Ext E om E' om' ∧ Rel E' om' ∧ OutR E' o e

theorem AC.mono {P : Program} {f : FuncId} {ds : List D} {om : List Ob} {R R' : Out → List Ob → Prop} (h : AC P f ds om R) (hr : ∀ o om', R o om' → R' o om') : AC P f ds om R' :=
  ⟨h.1, fun E vs h1 h2 => (h.2 E vs h1 h2).mono fun e w' ⟨E', o, om', h3, h4⟩ => ⟨E', o, om', hr _ _ h3, h4⟩⟩

/-- It hands back d, and touches nothing that was there. -/
def retP (d : D) (om : List Ob) : Out → List Ob → Prop := fun o om' => o = .ret d ∧ om' = om

end Go.Proofs.Ytbpkppidbdhopaa.AWP
