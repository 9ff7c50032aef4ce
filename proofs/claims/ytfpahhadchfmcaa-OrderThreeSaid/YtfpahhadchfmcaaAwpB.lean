/- Part of a program logic over data: rules of the walk, each proved. -/
import Derived.Test.YtfpahhadchfmcaaAwpA
set_option linter.unusedVariables false
set_option linter.unusedSimpArgs false
namespace Go.Proofs.Ytfpahhadchfmcaa.AWP
open Go

theorem Rd.v_inv {E : Env} {x y : Value} (h : Rd E (.v x) y) : y = x := by cases h; rfl

/-- A constant of the text. -/
def ofConst : Value → D
  | .agg cs => if cs.all Value.oneCell' then .agg (cs.toList.map .v) else .v (.agg cs)
  | x => .v x

theorem Rd.ofConst (E : Env) (x : Value) : Rd E (ofConst x) x := by
  unfold AWP.ofConst
  split
  · rename_i cs
    split
    · rename_i h
      refine .agg cs (by simp) (fun j hj => ?_) (fun j d hd => ?_)
      · have := (Array.all_eq_true.1 h) j hj
        simpa [Array.getD, hj] using this
      · simp only [List.getElem?_map, Option.map_eq_some_iff, Array.getElem?_toList] at hd
        obtain ⟨y, hy, rfl⟩ := hd
        have : cs.getD j undef = y := by simp [Array.getD_eq_getD_getElem?, hy]
        rw [this]
        exact .v y
    · exact .v _
  · exact .v _

def evD (env : List D) : Operand → D
  | .tmp t => env.getD t .any
  | .const v => ofConst v
  | .global g => .v (.pointer (some ⟨g, 0, none⟩))
  | .func f => .fn f []

structure St where
  env : List D
  om : List Ob

structure Sat (E : Env) (s : St) (a : Act) : Prop where
  rel : Rel E s.om
  defs : a.defers = []
  size : a.tmps.size = s.env.length
  rd : ∀ t, Rd E (s.env.getD t .any) (a.tmps.getD t undef)

theorem Sat.ev {E : Env} {s : St} {a : Act} (h : Sat E s a) (x : Operand) : Rd E (evD s.env x) (a.eval x) := by
  cases x with
  | tmp t => exact h.rd t
  | const v => exact Rd.ofConst E v
  | global g => exact .v _
  | func f => exact .fn #[] rfl (fun j d hd => by simp at hd)

def St.put (s : St) (dst : Option Tmp) (d : D) : St :=
  match dst with
  | some t => { s with env := s.env.set t d }
  | none => s

/-- A slot is written in a world that goes on. -/
theorem Sat.put {E E' : Env} {s : St} {om' : List Ob} {a : Act} (h : Sat E s a) (hx : Ext E s.om E' om') (hr : Rel E' om') {d : D} {y : Value} (hd : Rd E' d y) (dst : Option Tmp) :
    Sat E' (St.put ⟨s.env, om'⟩ dst d) (a.put dst y) := by
  cases dst with
  | none => exact ⟨hr, h.defs, h.size, fun t => (h.rd t).ext h.rel hx⟩
  | some t =>
    refine ⟨hr, h.defs, by simp [St.put, Act.put, h.size], fun u => ?_⟩
    show Rd E' ((s.env.set t d).getD u .any) ((a.tmps.setIfInBounds t y).getD u undef)
    by_cases hu : u = t
    · subst hu
      by_cases hl : u < s.env.length
      · have hl' : u < a.tmps.size := by rw [h.size]; exact hl
        simp [List.getD_eq_getElem?_getD, Array.getD_eq_getD_getElem?, List.getElem?_set, Array.getElem?_setIfInBounds, hl, hl']
        exact hd
      · have : s.env.length ≤ u := by omega
        simp only [List.getD_eq_getElem?_getD, List.getElem?_set]
        simp [hl]
        exact .any _
    · have e1 : (s.env.set t d).getD u .any = s.env.getD u .any := by
        simp [List.getD_eq_getElem?_getD, List.getElem?_set, Ne.symm hu]
      have e2 : (a.tmps.setIfInBounds t y).getD u undef = a.tmps.getD u undef := by
        simp [Array.getD_eq_getD_getElem?, Array.getElem?_setIfInBounds, Ne.symm hu]
      rw [e1, e2]
      exact (h.rd u).ext h.rel hx

/-! ### Ways out -/
inductive AX where
  | norm
  | exit (id : Nat)
  | ret
  | panic (d : D)

def cx (E : Env) : AX → Exit → Prop
  | .norm, .normal => True
  | .exit i, .exit j => i = j
  | .ret, .ret => True
  | .panic d, .panic ch => ∃ y, ch = [{ v := y, recovered := false }] ∧ Rd E d y
  | _, _ => False

/-- The concrete post of an abstract one. -/
def Post (base : Nat) (Q : AX → St → Prop) (E : Env) (om : List Ob) (e : Exit) (a' : Act) (w' : World) : Prop :=
  ∃ E' x s', Q x s' ∧ cx E' x e ∧ E'.w = w' ∧ ExtB base E om E' s'.om ∧ Sat E' s' a'

def AW (base : Nat) (P : Program) (c : Code) (Q : AX → St → Prop) (s : St) : Prop := ∀ E a, base ≤ E.n → Sat E s a → c.wp P (Post base Q E s.om) a E.w

section
variable {base : Nat} {P : Program} {Q Q' : AX → St → Prop} {s : St}

theorem Post.mono {E : Env} {om : List Ob} (hq : ∀ x s, Q x s → Q' x s) : ∀ e a w, Post base Q E om e a w → Post base Q' E om e a w :=
  fun e a w ⟨E', x, s', h1, h2⟩ => ⟨E', x, s', hq _ _ h1, h2⟩

theorem Post.trans {E E1 : Env} {om om1 : List Ob} (hx : ExtB base E om E1 om1) : ∀ e a w, Post base Q E1 om1 e a w → Post base Q E om e a w :=
  fun e a w ⟨E', x, s', h1, h2, h3, h4, h5⟩ => ⟨E', x, s', h1, h2, h3, hx.trans h4, h5⟩

theorem AW.mono {c : Code} (h : AW base P c Q s) (hq : ∀ x s, Q x s → Q' x s) : AW base P c Q' s :=
  fun E a hb hs => wp_mono (h E a hb hs) (Post.mono hq)

def thenQ (N : St → Prop) (Q : AX → St → Prop) : AX → St → Prop
  | .norm, s => N s
  | x, s => Q x s

theorem AW.seq {c1 c2 : Code} (h : AW base P c1 (thenQ (AW base P c2 Q) Q) s) : AW base P (.seq c1 c2) Q s := by
  intro E a hb hs
  refine wp_seq (wp_mono (h E a hb hs) ?_)
  rintro e a' w' ⟨E', x, s', hq, hx, rfl, hext, hsat⟩
  cases x <;> cases e <;> simp only [cx] at hx
  · exact wp_mono (hq E' a' hext.n hsat) (Post.trans hext)
  · subst hx; exact ⟨E', .exit _, s', hq, rfl, rfl, hext, hsat⟩
  · exact ⟨E', .ret, s', hq, trivial, rfl, hext, hsat⟩
  · exact ⟨E', .panic _, s', hq, hx, rfl, hext, hsat⟩

theorem AW.skip (h : Q .norm s) : AW base P .skip Q s := fun E a hb hs => wp_skip ⟨E, .norm, s, h, trivial, rfl, (Ext.refl _ _).toB hb, hs⟩
theorem AW.label {l : Nat} (h : Q .norm s) : AW base P (.label l) Q s := fun E a hb hs => wp_label ⟨E, .norm, s, h, trivial, rfl, (Ext.refl _ _).toB hb, hs⟩
theorem AW.ret (h : Q .ret s) : AW base P .ret Q s := fun E a hb hs => wp_ret ⟨E, .ret, s, h, trivial, rfl, (Ext.refl _ _).toB hb, hs⟩
theorem AW.exit {id : Nat} (h : Q (.exit id) s) : AW base P (.exit id) Q s := fun E a hb hs => wp_exit ⟨E, .exit id, s, h, rfl, rfl, (Ext.refl _ _).toB hb, hs⟩

theorem AW.cond {c : Operand} {x y : Code} {t : Bool} (hc : evD s.env c = .v (.bool t)) (h : if t then AW base P x Q s else AW base P y Q s) : AW base P (.cond c x y) Q s := by
  intro E a hb hs
  have he : a.eval c = .bool t := by
    have := hs.ev c
    rw [hc] at this
    exact this.v_inv
  refine wp_cond he ?_
  cases t
  · exact h E a hb hs
  · exact h E a hb hs

def blockQ (id : Nat) (Q : AX → St → Prop) : AX → St → Prop
  | .exit i, s => if i = id then Q .norm s else Q (.exit i) s
  | x, s => Q x s

theorem AW.block {id : Nat} {c : Code} (h : AW base P c (blockQ id Q) s) : AW base P (.block id c) Q s := by
  intro E a hb hs
  refine wp_block (wp_mono (h E a hb hs) ?_)
  rintro e a' w' ⟨E', x, s', hq, hx, rfl, hext, hsat⟩
  cases x <;> cases e <;> simp only [cx] at hx
  · exact ⟨E', .norm, s', hq, trivial, rfl, hext, hsat⟩
  · subst hx
    simp only [blockQ] at hq
    simp only [Exit.inBlock]
    split
    · rename_i h; rw [if_pos h] at hq; exact ⟨E', .norm, s', hq, trivial, rfl, hext, hsat⟩
    · rename_i h; rw [if_neg h] at hq; exact ⟨E', .exit _, s', hq, rfl, rfl, hext, hsat⟩
  · exact ⟨E', .ret, s', hq, trivial, rfl, hext, hsat⟩
  · exact ⟨E', .panic _, s', hq, hx, rfl, hext, hsat⟩

/-- A loop: an invariant with a measure that each round lowers. -/
theorem AW.loop {c : Code} (I : Nat → St → Prop) (h0 : ∃ n, I n s) (round : ∀ n s, I n s → AW base P c (thenQ (fun s' => ∃ m, m < n ∧ I m s') Q) s) : AW base P (.loop c) Q s := by
  intro E a hb hs b k cs
  have key : ∀ n E1 a1 s1, I n s1 → Sat E1 s1 a1 → ExtB base E s.om E1 s1.om →
      ∃ e a' w', Post base Q E s.om e a' w' ∧ Arrives P (lone (b.at a1 (.code c :: .inLoop c :: k)) cs E1.w) b k cs e a' w' := by
    intro n
    induction n using Nat.strongRecOn with
    | _ n ih =>
      intro E1 a1 s1 hI hsat hext
      obtain ⟨e, a2, w2, ⟨E2, x, s2, hq, hx, rfl, hext2, hsat2⟩, harr⟩ := round n s1 hI E1 a1 hext.n hsat b (.inLoop c :: k) cs
      cases x <;> cases e <;> simp only [cx] at hx
      · obtain ⟨m, hm, hI2⟩ := hq
        obtain ⟨e, a', w', h1, h2⟩ := ih m hm E2 a2 s2 hI2 hsat2 (hext.trans hext2)
        exact ⟨e, a', w', h1, .of_steps (Steps.trans harr (.one step_inLoop)) h2⟩
      · subst hx
        exact ⟨.exit _, a2, E2.w, ⟨E2, .exit _, s2, hq, rfl, rfl, hext.trans hext2, hsat2⟩, .pass (x := .inLoop c) rfl (fun _ _ => .inl (by simp)) harr⟩
      · exact ⟨.ret, a2, E2.w, ⟨E2, .ret, s2, hq, trivial, rfl, hext.trans hext2, hsat2⟩, .pass (x := .inLoop c) rfl (fun _ _ => .inl (by simp)) harr⟩
      · exact ⟨.panic _, a2, E2.w, ⟨E2, .panic _, s2, hq, hx, rfl, hext.trans hext2, hsat2⟩, .pass (x := .inLoop c) rfl (fun _ _ => .inl (by simp)) harr⟩
  obtain ⟨n, hI⟩ := h0
  obtain ⟨e, a', w', h1, h2⟩ := key n E a s hI hs ((Ext.refl _ _).toB hb)
  exact ⟨e, a', w', h1, .of_steps (.one step_loop) h2⟩
end

/-! ### Contracts -/
inductive Out where
  | ret (d : D)
  | panic (d : D)

def OutR (E : Env) : Out → Ending → Prop
  | .ret d, .returned y => Rd E d y
  | .panic d, .panicked ch => ∃ y, ch = [{ v := y, recovered := false }] ∧ Rd E d y
  | _, _ => False

def RdA (E : Env) (ds : List D) (vs : Array Value) : Prop := vs.size = ds.length ∧ ∀ (j : Nat) (d : D), ds[j]? = some d → Rd E d (vs.getD j undef)

def callOk (P : Program) (f : FuncId) : Bool :=
  match P.funcs[f]? with
  | some fn => fn.body.isSome && !(fn.name == "runtime.NumGoroutine")
  | none => false

def AC (P : Program) (f : FuncId) (ds : List D) (om : List Ob) (R : Out → List Ob → Prop) : Prop :=
  callOk P f = true ∧ ∀ E vs, Rel E om → RdA E ds vs → Calls P f vs E.w fun e w' => ∃ E' o om', R o om' ∧ E'.w = w' ∧ Ext E om E' om' ∧ Rel E' om' ∧ OutR E' o e

theorem AC.mono {P : Program} {f : FuncId} {ds : List D} {om : List Ob} {R R' : Out → List Ob → Prop} (h : AC P f ds om R) (hr : ∀ o om', R o om' → R' o om') : AC P f ds om R' :=
  ⟨h.1, fun E vs h1 h2 => (h.2 E vs h1 h2).mono fun e w' ⟨E', o, om', h3, h4⟩ => ⟨E', o, om', hr _ _ h3, h4⟩⟩

/-- It hands back d, and touches nothing that was there. -/
def retP (d : D) (om : List Ob) : Out → List Ob → Prop := fun o om' => o = .ret d ∧ om' = om

end Go.Proofs.Ytfpahhadchfmcaa.AWP
