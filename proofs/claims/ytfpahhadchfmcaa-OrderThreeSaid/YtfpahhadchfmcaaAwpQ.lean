/- Part of a program logic over data: rules of the walk, each proved. -/
import Derived.Test.YtfpahhadchfmcaaAwpP
set_option linter.unusedVariables false
set_option linter.unusedSimpArgs false
namespace Go.Proofs.Ytfpahhadchfmcaa.AWP
open Go

/-! ### Code without what the walk doesn't look at -/
inductive LC where
  | skip
  | reg (ops : List LOp) (own : List Nat) (m : Option Nat)
  | seq (a b : LC)
  | cond (c : Operand) (a b : LC)
  | block (id : Nat) (a : LC)
  | loop (a : LC)
  | exit (id : Nat)
  | label (l : Nat)
  | ret
  | other

def tailed (ops : Array Oper) (i : Nat) : Bool :=
  match ops[i]? with
  | some o => (List.range i).all fun j => hasEdge o j
  | none => false
def tailAt (ops : Array Oper) : Nat → Nat
  | 0 => 0
  | i + 1 => if tailed ops i then tailAt ops i else i + 1

def lc : Code → LC
  | .skip => .skip
  | .region _ ops d => if d then (if drawOk ops (tailAt ops ops.size) then .reg (ops.toList.map lop) [] (some (tailAt ops ops.size)) else .other) else .reg (ops.toList.map lop) [] none
  | .seq a b => .seq (lc a) (lc b)
  | .cond c a b => .cond c (lc a) (lc b)
  | .block id a => .block id (lc a)
  | .loop a => .loop (lc a)
  | .exit id => .exit id
  | .label l => .label l
  | .ret => .ret
  | _ => .other

/-- Without the marks on what is laid as one's own. -/
def LC.st : LC → LC
  | .reg ops _ m => .reg ops [] m
  | .seq a b => .seq a.st b.st
  | .cond c a b => .cond c a.st b.st
  | .block id a => .block id a.st
  | .loop a => .loop a.st
  | l => l

theorem lc_region (id : Nat) (ops : Array Oper) (d : Bool) : lc (.region id ops d) = .other ∨ ∃ r m, lc (.region id ops d) = .reg r [] m := by
  simp only [lc]
  split
  · split
    · exact .inr ⟨_, _, rfl⟩
    · exact .inl rfl
  · exact .inr ⟨_, _, rfl⟩

def ALW (base : Nat) (P : Program) (l : LC) (Q : AX → St → Prop) (s : St) : Prop := ∀ c, lc c = l.st → AW base P c Q s

theorem regNo {id : Nat} {ops : Array Oper} {d : Bool} {l : LC} (h : lc (.region id ops d) = l) (h1 : ∀ r m, l ≠ .reg r [] m) (h2 : l ≠ .other) : False := by
  rcases lc_region id ops d with e | ⟨r, m, e⟩
  · exact h2 (h.symm.trans e)
  · exact h1 r m (h.symm.trans e)

theorem lc_inv {c : Code} : (∀ a b, lc c = .seq a b → ∃ x y, c = .seq x y ∧ lc x = a ∧ lc y = b) ∧ (lc c = .skip → c = .skip) ∧ (lc c = .ret → c = .ret) ∧ (∀ i, lc c = .exit i → c = .exit i) ∧ (∀ i, lc c = .label i → c = .label i) ∧
    (∀ i a, lc c = .block i a → ∃ x, c = .block i x ∧ lc x = a) ∧ (∀ o a b, lc c = .cond o a b → ∃ x y, c = .cond o x y ∧ lc x = a ∧ lc y = b) ∧ (∀ a, lc c = .loop a → ∃ x, c = .loop x ∧ lc x = a) ∧
    (∀ r o m, lc c = .reg r o m → ∃ id ops d, c = .region id ops d) := by
  cases c with
  | region id ops d =>
    refine ⟨fun a b h => (regNo h (by simp) (by simp)).elim, fun h => (regNo h (by simp) (by simp)).elim, fun h => (regNo h (by simp) (by simp)).elim, fun i h => (regNo h (by simp) (by simp)).elim, fun i h => (regNo h (by simp) (by simp)).elim,
      fun i a h => (regNo h (by simp) (by simp)).elim, fun o a b h => (regNo h (by simp) (by simp)).elim, fun a h => (regNo h (by simp) (by simp)).elim, fun r o m _ => ⟨_, _, _, rfl⟩⟩
  | seq a b => simp only [lc, reduceCtorEq, LC.seq.injEq, false_imp_iff, imp_false, forall_const, and_true, true_and, not_false_eq_true, implies_true]; exact fun _ _ h => ⟨a, b, rfl, h⟩
  | cond o a b => simp only [lc, reduceCtorEq, LC.cond.injEq, false_imp_iff, imp_false, forall_const, and_true, true_and, not_false_eq_true, implies_true]; rintro _ _ _ ⟨rfl, h⟩; exact ⟨a, b, rfl, h⟩
  | _ => simp [lc]

section
variable {base : Nat} {P : Program} {T : Tab} {Q Q' : AX → St → Prop} {s : St}

theorem ALW.mono {l : LC} (h : ALW base P l Q s) (hq : ∀ x s, Q x s → Q' x s) : ALW base P l Q' s := fun c hc => (h c hc).mono hq

theorem ALW.seq {a b : LC} (h : ALW base P a (thenQ (ALW base P b Q) Q) s) : ALW base P (.seq a b) Q s := by
  intro c hc
  obtain ⟨x, y, rfl, hx, hy⟩ := lc_inv.1 _ _ hc
  refine AW.seq ((h _ hx).mono ?_)
  intro z s' hq
  cases z
  · exact hq _ hy
  · exact hq
  · exact hq
  · exact hq
theorem ALW.skip (h : Q .norm s) : ALW base P .skip Q s := by
  intro c hc
  obtain rfl := lc_inv.2.1 hc
  exact AW.skip h
theorem ALW.ret (h : Q .ret s) : ALW base P .ret Q s := by
  intro c hc
  obtain rfl := lc_inv.2.2.1 hc
  exact AW.ret h
theorem ALW.exit {id : Nat} (h : Q (.exit id) s) : ALW base P (.exit id) Q s := by
  intro c hc
  obtain rfl := lc_inv.2.2.2.1 _ hc
  exact AW.exit h
theorem ALW.label {l : Nat} (h : Q .norm s) : ALW base P (.label l) Q s := by
  intro c hc
  obtain rfl := lc_inv.2.2.2.2.1 _ hc
  exact AW.label h
theorem ALW.block {id : Nat} {a : LC} (h : ALW base P a (blockQ id Q) s) : ALW base P (.block id a) Q s := by
  intro c hc
  obtain ⟨x, rfl, hx⟩ := lc_inv.2.2.2.2.2.1 _ _ hc
  exact AW.block (h _ hx)
theorem ALW.cond {o : Operand} {a b : LC} {t : Bool} (ht : evD s.env o = .v (.bool t)) (h : if t then ALW base P a Q s else ALW base P b Q s) : ALW base P (.cond o a b) Q s := by
  intro c hc
  obtain ⟨x, y, rfl, hx, hy⟩ := lc_inv.2.2.2.2.2.2.1 _ _ _ hc
  refine AW.cond ht ?_
  cases t
  · exact h _ hy
  · exact h _ hx
theorem ALW.loop {a : LC} (I : Nat → St → Prop) (h0 : ∃ n, I n s) (round : ∀ n s, I n s → ALW base P a (thenQ (fun s' => ∃ m, m < n ∧ I m s') Q) s) : ALW base P (.loop a) Q s := by
  intro c hc
  obtain ⟨x, rfl, hx⟩ := lc_inv.2.2.2.2.2.2.2.1 _ hc
  exact AW.loop I h0 fun n s hI => round n s hI _ hx

/-- What a region comes to. -/
def regP (P : Program) (T : Tab) (reg : List LOp) (own : List Nat) (m : Option Nat) (s : St) (K : St → Prop) (KP : D → St → Prop) : Prop :=
  match m with
  | none => aops P T reg own 0 reg s K KP
  | some m => qops P T reg s.om (reg.take m) s.env fun env => aops P T reg own m (reg.drop m) ⟨env, s.om⟩ K KP

theorem ALW.reg (hT : TabOk P T) (hm : P.follows .mixedOrders = true) {reg : List LOp} {m : Option Nat} {own : List Nat} (h : regP P T reg own m s (Q .norm) (fun d => Q (.panic d))) : ALW base P (.reg reg own m) Q s := by
  intro c hc
  obtain ⟨id, ops, draw, rfl⟩ := lc_inv.2.2.2.2.2.2.2.2 _ _ _ hc
  cases draw with
  | false =>
    simp only [lc, LC.st, Bool.false_eq_true, if_false, LC.reg.injEq, true_and] at hc
    obtain ⟨hreg, rfl⟩ := hc
    exact AW.region hT reg own hreg h
  | true =>
    simp only [lc, LC.st, if_true] at hc
    split at hc
    · rename_i hok
      simp only [LC.reg.injEq, true_and] at hc
      obtain ⟨hreg, rfl⟩ := hc
      exact AW.regionD hT hm reg own _ hreg hok h
    · simp at hc

/-- The walk: as far as a loop, a call. -/
def xl (base : Nat) (P : Program) (T : Tab) : LC → (AX → St → Prop) → St → Prop
  | .skip, Q, s => Q .norm s
  | .reg r own m, Q, s => regP P T r own m s (Q .norm) (fun d => Q (.panic d))
  | .seq a b, Q, s => xl base P T a (thenQ (xl base P T b Q) Q) s
  | .cond o a b, Q, s =>
    match evD s.env o with
    | .v (.bool t) => if t then xl base P T a Q s else xl base P T b Q s
    | _ => False
  | .block id a, Q, s => xl base P T a (blockQ id Q) s
  | .exit id, Q, s => Q (.exit id) s
  | .label _, Q, s => Q .norm s
  | .ret, Q, s => Q .ret s
  | .loop a, Q, s => ALW base P (.loop a) Q s
  | .other, _, _ => False

theorem xl_ok (hT : TabOk P T) (hm : P.follows .mixedOrders = true) : ∀ {l : LC} {Q : AX → St → Prop} {s : St}, xl base P T l Q s → ALW base P l Q s := by
  intro l
  induction l with
  | skip => intro Q s h; exact ALW.skip h
  | reg r own m => intro Q s h; exact ALW.reg hT hm h
  | seq a b iha ihb =>
    intro Q s h
    refine ALW.seq ((iha h).mono ?_)
    intro x s' hq
    cases x
    · exact ihb hq
    · exact hq
    · exact hq
    · exact hq
  | cond o a b iha ihb =>
    intro Q s h
    simp only [xl] at h
    split at h
    · rename_i t ht
      refine ALW.cond ht ?_
      cases t
      · exact ihb h
      · exact iha h
    · exact h.elim
  | block id a ih => intro Q s h; exact ALW.block (ih h)
  | exit id => intro Q s h; exact ALW.exit h
  | label l => intro Q s h; exact ALW.label h
  | ret => intro Q s h; exact ALW.ret h
  | loop a ih => intro Q s h; exact h
  | other => intro Q s h; exact h.elim

theorem AC.lbody (hT : TabOk P T) (hm : P.follows .mixedOrders = true) {f : FuncId} {fn : Func} (hf : P.funcs[f]? = some fn) (hn : (fn.name == "runtime.NumGoroutine") = false) {l : LC} (hb : fn.body.map lc = some l.st) {rs : List ResultVar} (hrs : fn.results.toList = rs) {n : Nat} (hnt : fn.ntmps = n) {ds : List D} {om : List Ob} {R : Out → List Ob → Prop}
    (h : xl om.length P T l (finQ T rs om R) ⟨ds ++ List.replicate (n - ds.length) D.any, om⟩) : AC P f ds om R := by
  simp only [Option.map_eq_some_iff] at hb
  obtain ⟨c, hc, hl⟩ := hb
  exact AC.body hT hf hc hn hrs hnt (xl_ok hT hm h c hl)

theorem xl_loop (hT : TabOk P T) (hm : P.follows .mixedOrders = true) {a : LC} (I : Nat → St → Prop) (h0 : ∃ n, I n s) (round : ∀ n s, I n s → xl base P T a (thenQ (fun s' => ∃ m, m < n ∧ I m s') Q) s) : ALW base P (.loop a) Q s :=
  ALW.loop I h0 fun n s hI => xl_ok hT hm (round n s hI)

theorem ACall.ret {f : FuncId} {ds : List D} {om : List Ob} {d : D} {K : Out → List Ob → Prop} (h : AC P f ds om (retP d om)) (hk : K (.ret d) om) : ACall P f ds om K :=
  ⟨_, h, by rintro o om' ⟨rfl, rfl⟩; exact hk⟩
end

/-! ### The table, checked -/
def vEq : Value → Value → Bool
  | .bool a, .bool b => a == b
  | .int k a, .int k' b => decide (k = k') && decide (a = b)
  | .string a, .string b => a.size == 0 && b.size == 0
  | .pointer none, .pointer none => true
  | .slice none a b, .slice none c d => a == c && b == d
  | .map none, .map none => true
  | .nilFunc, .nilFunc => true
  | .nilIface, .nilIface => true
  | _, _ => false
theorem vEq_ok {a b : Value} (h : vEq a b = true) : a = b ∧ a.oneCell' = true := by
  unfold vEq at h
  split at h <;> simp_all [Value.oneCell']
def vsEq : List Value → List Value → Bool
  | [], [] => true
  | a :: x, b :: y => vEq a b && vsEq x y
  | _, _ => false
theorem vsEq_ok : ∀ {x y : List Value}, vsEq x y = true → x = y ∧ ∀ v ∈ x, v.oneCell' = true
  | [], [], _ => ⟨rfl, by simp⟩
  | a :: x, b :: y, h => by
    simp only [vsEq, Bool.and_eq_true] at h
    obtain ⟨h1, h2⟩ := vEq_ok h.1
    obtain ⟨h3, h4⟩ := vsEq_ok h.2
    exact ⟨by rw [h1, h3], by simp [h2]; exact h4⟩
  | [], _ :: _, h => by simp [vsEq] at h
  | _ :: _, [], h => by simp [vsEq] at h

def kdB : TypeDesc → TK → Bool
  | .int k, .int k' => decide (k = k')
  | .bool, .bool => true
  | .string, .str => true
  | .slice e, .slice e' => e == e'
  | .array n e, .arr n' e' => n == n' && e == e'
  | .struct l, .struct fs => decide (l.toList.map (fun f => (f.offset, f.type)) = fs)
  | .pointer _, .other | .map .., .other | .chan .., .other | .func .., .other | .interface _, .other | .unsafePointer, .other => true
  | _, _ => false
theorem kdB_ok {d : TypeDesc} {k : TK} (h : kdB d k = true) : KdR d k := by
  unfold kdB at h
  split at h <;> simp_all [KdR]

def tabB (P : Program) : List (Nat × TI) → Bool
  | [] => true
  | (t, i) :: r =>
    (match P.info? t, P.underlying t with
     | some inf, some d =>
       inf.size == i.size && inf.bytes == i.bytes && i.zero.length == i.size && kdB d i.kd &&
       (match inf.zero with
        | some (.agg cs) => vsEq i.zero cs.toList
        | some z => !i.kd.agg && vsEq i.zero [z]
        | none => false)
     | _, _ => false) && tabB P r

theorem tabB_ok {P : Program} : ∀ {l : List (Nat × TI)}, tabB P l = true → ∀ t i, (t, i) ∈ l → TIok P t i
  | [], _, t, i, h => by simp at h
  | (t0, i0) :: r, h, t, i, hm => by
    simp only [tabB, Bool.and_eq_true] at h
    rcases List.mem_cons.1 hm with e | hm
    · simp only [Prod.mk.injEq] at e
      obtain ⟨rfl, rfl⟩ := e
      have h := h.1
      split at h
      · rename_i inf d hi hd
        simp only [Bool.and_eq_true, beq_iff_eq] at h
        obtain ⟨⟨⟨⟨h1, h2⟩, h3⟩, h4⟩, h5⟩ := h
        split at h5
        · rename_i cs hz
          obtain ⟨h6, h7⟩ := vsEq_ok h5
          exact ⟨⟨inf, _, hi, h1, h2, hz, by simp [Value.cells, h6], fun _ => by rw [h6]⟩, h7, h3, d, hd, kdB_ok h4⟩
        · rename_i z hne hz
          simp only [Bool.and_eq_true, Bool.not_eq_true'] at h5
          obtain ⟨h6, h7⟩ := vsEq_ok h5.2
          have hc : z.cells = #[z] := by cases z <;> first | rfl | exact absurd rfl (hne _)
          exact ⟨⟨inf, _, hi, h1, h2, hz, by rw [hc, h6], fun ha => by rw [h5.1] at ha; cases ha⟩, h7, h3, d, hd, kdB_ok h4⟩
        · simp at h5
      · simp at h
    · exact tabB_ok h.2 t i hm

end Go.Proofs.Ytfpahhadchfmcaa.AWP
