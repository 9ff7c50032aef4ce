/- Part of a program logic over data: rules of the walk, each proved. -/
import Derived.WalkKit
import Derived.ProofKit
import Derived.OrdersIn
import Derived.RangeFuncRecord
import Derived.RangeFuncSeq
set_option linter.unusedSectionVars false
set_option linter.unusedVariables false
set_option linter.unusedSimpArgs false
namespace Go.Proofs.Ytbpkppidbdhopaa.AWP
open Go

/-! ### Data: what a value reads as -/
inductive D where
  | v (x : Value)
  | sl (sz : Nat) (rows : List (List D))
  | pel (row : List D)
  | agg (c : List D)
  | tup (c : List D)
  | ref (k off : Nat)
  | rel (k sz i j : Nat)
  | own (k : Nat)
  | fn (f : FuncId) (cap : List D)
  | ifc (t : TypeId) (d : D)
  | yld (k : Nat)
  | any
instance : Inhabited D := ⟨.any⟩

abbrev D.i (n : Int) : D := .v (.int .i64 n)
abbrev D.b (b : Bool) : D := .v (.bool b)
abbrev D.s (s : ByteArray) : D := .v (.string s)

/-- Where we stand: how many objects of one's own, their handles, the blocks that nobody writes, the world. -/
structure Env where
  n : Nat
  g : Nat → Value
  A : Nat → Prop
  w : World

def hb : Value → Option Nat
  | .pointer (some a) => some a.block
  | .slice (some a) _ _ => some a.block
  | .map (some r) => some r
  | _ => none

inductive Rd (E : Env) : D → Value → Prop where
  | v (x : Value) : Rd E (.v x) x
  | any (y : Value) : Rd E .any y
  | sl {sz : Nat} {rows : List (List D)} {a : Option Addr} {cap : Nat} (ad : Addr) (u : Nat → Value)
      (hr : ∀ r ∈ rows, r.length = sz) (hl : rows.length ≤ cap) (hm : cap ≤ maxLen)
      (ha : rows = [] ∨ (a = some ad ∧ E.A ad.block))
      (hc : ∀ (i : Nat) (r : List D) (j : Nat) (d : D), rows[i]? = some r → r[j]? = some d → E.w.cell? (ad.add (i * sz + j)) = some (u (i * sz + j)) ∧ (u (i * sz + j)).oneCell' = true)
      (hd : ∀ (i : Nat) (r : List D) (j : Nat) (d : D), rows[i]? = some r → r[j]? = some d → Rd E d (u (i * sz + j))) :
      Rd E (.sl sz rows) (.slice a rows.length cap)
  | pel {row : List D} (ad : Addr) (u : Nat → Value) (hA : E.A ad.block)
      (hc : ∀ (j : Nat) (d : D), row[j]? = some d → E.w.cell? (ad.add j) = some (u j) ∧ (u j).oneCell' = true)
      (hd : ∀ (j : Nat) (d : D), row[j]? = some d → Rd E d (u j)) : Rd E (.pel row) (.pointer (some ad))
  | agg {c : List D} (vs : Array Value) (hs : vs.size = c.length) (h1 : ∀ j, j < vs.size → (vs.getD j undef).oneCell' = true)
      (hd : ∀ (j : Nat) (d : D), c[j]? = some d → Rd E d (vs.getD j undef)) : Rd E (.agg c) (.agg vs)
  | tup {c : List D} (vs : Array Value) (hs : vs.size = c.length)
      (hd : ∀ (j : Nat) (d : D), c[j]? = some d → Rd E d (vs.getD j undef)) : Rd E (.tup c) (.tuple vs)
  | ref {k off b : Nat} (hk : k < E.n) (hg : hb (E.g k) = some b) : Rd E (.ref k off) (.pointer (some ⟨b, off, none⟩))
  | rel {k sz i j b : Nat} (hk : k < E.n) (hg : hb (E.g k) = some b) : Rd E (.rel k sz i j) (.pointer (some ⟨b, i * sz + j, none⟩))
  | own {k : Nat} (hk : k < E.n) : Rd E (.own k) (E.g k)
  | fn {f : FuncId} {cap : List D} (vs : Array Value) (hs : vs.size = cap.length)
      (hd : ∀ (j : Nat) (d : D), cap[j]? = some d → Rd E d (vs.getD j undef)) : Rd E (.fn f cap) (.func (.func f) #[] vs)
  | ifc {t : TypeId} {d : D} {y : Value} (h : Rd E d y) : Rd E (.ifc t d) (.iface t y)
  | yld {k b : Nat} (hk : k < E.n) (hg : hb (E.g k) = some b) : Rd E (.yld k) (.func (.yield b) #[] #[])

/-! ### Objects of one's own -/
inductive Ob where
  | var (ty : TypeId) (c : List D)
  | slc (ty : TypeId) (sz : Nat) (rows : List (List D))
  | frz (sz : Nat) (rows : List (List D))
  | frv (c : List D)
  | lp (ps : Array Tmp) (assign body : Code) (st : LoopState) (pe : Option Code) (env : List D)
  | dead
instance : Inhabited Ob := ⟨.dead⟩
def Ob.live : Ob → Bool
  | .var .. | .slc .. | .lp .. => true
  | _ => false

def CellsR (E : Env) (c : List D) (cs : Array Value) : Prop := ∀ (j : Nat) (d : D), c[j]? = some d → ∃ y, cs[j]? = some y ∧ y.oneCell' = true ∧ Rd E d y

def ObR (E : Env) (k : Nat) : Ob → Prop
  | .var ty c => ∃ b cs, E.g k = .pointer (some ⟨b, 0, none⟩) ∧ E.w.heap[b]? = some (.cells cs ty (0, 0)) ∧ ¬ E.A b ∧ cs.size = c.length ∧ CellsR E c cs
  | .slc ty sz rows => 0 < sz ∧ (∀ r ∈ rows, r.length = sz) ∧ ((E.g k = .slice none 0 0 ∧ rows = []) ∨
      ∃ b cs cap, E.g k = .slice (some ⟨b, 0, none⟩) rows.length cap ∧ E.w.heap[b]? = some (.cells cs ty (0, 0)) ∧ ¬ E.A b ∧ cs.size = cap * sz ∧ rows.length ≤ cap ∧ cap ≤ maxLen ∧ CellsR E rows.flatten cs)
  | .frz sz rows => Rd E (.sl sz rows) (E.g k) ∧ (rows = [] ∨ ∃ b cap, E.g k = .slice (some ⟨b, 0, none⟩) rows.length cap)
  | .frv c => Rd E (.pel c) (E.g k) ∧ ∃ b, E.g k = .pointer (some ⟨b, 0, none⟩)
  | .lp ps as bo st pe env => ∃ b r, E.g k = .pointer (some ⟨b, 0, none⟩) ∧ E.w.heap[b]? = some (.loop r) ∧ ¬ E.A b ∧ r.params = ps ∧ r.assign = as ∧ r.body = bo ∧ r.state = st ∧ r.pending = pe ∧ r.tmps.size = env.length ∧ ∀ t, Rd E (env.getD t .any) (r.tmps.getD t undef)
  | .dead => True

structure Rel (E : Env) (Om : List Ob) : Prop where
  len : Om.length = E.n
  ob : ∀ k o, Om[k]? = some o → ObR E k o
  inj : ∀ k k' o o' b, Om[k]? = some o → Om[k']? = some o' → o.live = true → o'.live = true → hb (E.g k) = some b → hb (E.g k') = some b → k = k'
  old : ∀ b, E.A b → b < E.w.heap.size
  one : ∀ k, k < E.n → (E.g k).oneCell' = true

def Live (E : Env) (Om : List Ob) (b : Nat) : Prop := ∃ k o, Om[k]? = some o ∧ o.live = true ∧ hb (E.g k) = some b

structure Ext (E : Env) (Om : List Ob) (E' : Env) (Om' : List Ob) : Prop where
  n : E.n ≤ E'.n
  g : ∀ k, k < E.n → E'.g k = E.g k
  A : ∀ b, E.A b → E'.A b
  size : E.w.heap.size ≤ E'.w.heap.size
  os : E'.w.os = E.w.os
  tape : E'.w.tape = E.w.tape
  output : E'.w.output = E.w.output
  keep : ∀ b, b < E.w.heap.size → ¬ Live E Om b → E'.w.heap[b]? = E.w.heap[b]?
  live : ∀ b, Live E' Om' b → Live E Om b ∨ E.w.heap.size ≤ b
  newA : ∀ b, E'.A b → E.A b ∨ Live E Om b ∨ E.w.heap.size ≤ b

/-- The same, where only the first handles stay. -/
structure ExtB (base : Nat) (E : Env) (Om : List Ob) (E' : Env) (Om' : List Ob) : Prop where
  n : base ≤ E'.n
  g : ∀ k, k < base → E'.g k = E.g k
  A : ∀ b, E.A b → E'.A b
  size : E.w.heap.size ≤ E'.w.heap.size
  os : E'.w.os = E.w.os
  tape : E'.w.tape = E.w.tape
  output : E'.w.output = E.w.output
  keep : ∀ b, b < E.w.heap.size → ¬ Live E Om b → E'.w.heap[b]? = E.w.heap[b]?
  live : ∀ b, Live E' Om' b → Live E Om b ∨ E.w.heap.size ≤ b
  newA : ∀ b, E'.A b → E.A b ∨ Live E Om b ∨ E.w.heap.size ≤ b

theorem Ext.toB {base : Nat} {E E' : Env} {Om Om' : List Ob} (h : Ext E Om E' Om') (hb : base ≤ E.n) : ExtB base E Om E' Om' :=
  ⟨Nat.le_trans hb h.n, fun k hk => h.g k (Nat.lt_of_lt_of_le hk hb), h.A, h.size, h.os, h.tape, h.output, h.keep, h.live, h.newA⟩

theorem ExtB.toExt {E E' : Env} {Om Om' : List Ob} (h : ExtB E.n E Om E' Om') : Ext E Om E' Om' :=
  ⟨h.n, h.g, h.A, h.size, h.os, h.tape, h.output, h.keep, h.live, h.newA⟩

theorem ExtB.trans {base : Nat} {E E1 E2 : Env} {Om Om1 Om2 : List Ob} (h : ExtB base E Om E1 Om1) (k : ExtB base E1 Om1 E2 Om2) : ExtB base E Om E2 Om2 where
  n := k.n
  g := fun i hi => (k.g i hi).trans (h.g i hi)
  A := fun b hb => k.A b (h.A b hb)
  size := Nat.le_trans h.size k.size
  os := k.os.trans h.os
  tape := k.tape.trans h.tape
  output := k.output.trans h.output
  keep := fun b hb hn => by
    rw [k.keep b (Nat.lt_of_lt_of_le hb h.size) (fun hl => by
      rcases h.live b hl with hl | hl
      · exact hn hl
      · omega)]
    exact h.keep b hb hn
  live := fun b hl => by
    rcases k.live b hl with hl | hl
    · exact h.live b hl
    · exact .inr (Nat.le_trans h.size hl)
  newA := fun b hA => by
    rcases k.newA b hA with hA | hl | hs
    · exact h.newA b hA
    · exact .inr (h.live b hl)
    · exact .inr (.inr (Nat.le_trans h.size hs))

theorem Rel.live_lt {E : Env} {Om : List Ob} (h : Rel E Om) {b : Nat} (hl : Live E Om b) : b < E.w.heap.size ∧ ¬ E.A b := by
  obtain ⟨k, o, ho, hlv, hg⟩ := hl
  have hob := h.ob k o ho
  cases o with
  | var ty c =>
    obtain ⟨b', cs, h1, h2, h3, _⟩ := hob
    rw [h1] at hg
    simp only [hb, Option.some.injEq] at hg
    subst hg
    exact ⟨(Array.getElem?_eq_some_iff.1 h2).1, h3⟩
  | slc ty sz rows =>
    obtain ⟨_, _, h1 | ⟨b', cs, cap, h1, h2, h3, _⟩⟩ := hob
    · rw [h1.1] at hg; simp [hb] at hg
    · rw [h1] at hg
      simp only [hb, Option.some.injEq] at hg
      subst hg
      exact ⟨(Array.getElem?_eq_some_iff.1 h2).1, h3⟩
  | frz sz rows => simp [Ob.live] at hlv
  | frv c => simp [Ob.live] at hlv
  | lp ps as bo st pe env =>
    obtain ⟨b', r, h1, h2, h3, _⟩ := hob
    rw [h1] at hg
    simp only [hb, Option.some.injEq] at hg
    subst hg
    exact ⟨(Array.getElem?_eq_some_iff.1 h2).1, h3⟩
  | dead => simp [Ob.live] at hlv

theorem Rel.notlive {E : Env} {Om : List Ob} (h : Rel E Om) {b : Nat} (hA : E.A b) : ¬ Live E Om b := fun hl => (h.live_lt hl).2 hA

theorem Ext.refl (E : Env) (Om : List Ob) : Ext E Om E Om :=
  ⟨Nat.le_refl _, fun _ _ => rfl, fun _ h => h, Nat.le_refl _, rfl, rfl, rfl, fun _ _ _ => rfl, fun _ h => .inl h, fun _ h => .inl h⟩

theorem Ext.trans {E E1 E2 : Env} {Om Om1 Om2 : List Ob} (h : Ext E Om E1 Om1) (k : Ext E1 Om1 E2 Om2) : Ext E Om E2 Om2 where
  n := Nat.le_trans h.n k.n
  g := fun i hi => (k.g i (Nat.lt_of_lt_of_le hi h.n)).trans (h.g i hi)
  A := fun b hb => k.A b (h.A b hb)
  size := Nat.le_trans h.size k.size
  os := k.os.trans h.os
  tape := k.tape.trans h.tape
  output := k.output.trans h.output
  keep := fun b hb hn => by
    rw [k.keep b (Nat.lt_of_lt_of_le hb h.size) (fun hl => by
      rcases h.live b hl with hl | hl
      · exact hn hl
      · omega)]
    exact h.keep b hb hn
  live := fun b hl => by
    rcases k.live b hl with hl | hl
    · exact h.live b hl
    · exact .inr (Nat.le_trans h.size hl)
  newA := fun b hA => by
    rcases k.newA b hA with hA | hl | hs
    · exact h.newA b hA
    · exact .inr (h.live b hl)
    · exact .inr (.inr (Nat.le_trans h.size hs))

/-- What was read reads so still. -/
theorem Rd.gen {E E' : Env} (hn : E.n ≤ E'.n) (hgg : ∀ k, k < E.n → E'.g k = E.g k) (hAA : ∀ b, E.A b → E'.A b) (hcell : ∀ (a : Addr), E.A a.block → E'.w.cell? a = E.w.cell? a) {d : D} {y : Value} (h : Rd E d y) : Rd E' d y := by
  have hadd : ∀ (a : Addr) (n : Nat), (a.add n).block = a.block := fun a n => by unfold Addr.add; split <;> rfl
  induction h with
  | v x => exact .v x
  | any y => exact .any y
  | sl ad u hr hl hm ha hc hd ih =>
    refine .sl ad u hr hl hm (ha.imp id fun h => ⟨h.1, hAA _ h.2⟩) (fun i r j d h1 h2 => ?_) ih
    rcases ha with ha | ha
    · subst ha; simp at h1
    · rw [hcell _ (by rw [hadd]; exact ha.2)]
      exact hc i r j d h1 h2
  | pel ad u hA hc hd ih =>
    exact .pel ad u (hAA _ hA) (fun j d h1 => by rw [hcell _ (by rw [hadd]; exact hA)]; exact hc j d h1) ih
  | agg vs hs h1 hd ih => exact .agg vs hs h1 ih
  | tup vs hs hd ih => exact .tup vs hs ih
  | ref hk hg => exact .ref (Nat.lt_of_lt_of_le hk hn) (by rw [hgg _ hk]; exact hg)
  | rel hk hg => exact .rel (Nat.lt_of_lt_of_le hk hn) (by rw [hgg _ hk]; exact hg)
  | own hk => rw [← hgg _ hk]; exact .own (Nat.lt_of_lt_of_le hk hn)
  | fn vs hs hd ih => exact .fn vs hs ih
  | ifc h ih => exact .ifc ih
  | yld hk hg => exact .yld (Nat.lt_of_lt_of_le hk hn) (by rw [hgg _ hk]; exact hg)

theorem Rd.ext {E E' : Env} {Om Om' : List Ob} (hR : Rel E Om) (hx : Ext E Om E' Om') {d : D} {y : Value} (h : Rd E d y) : Rd E' d y :=
  h.gen hx.n hx.g hx.A fun a hA => World.cell?_of_block (hx.keep _ (hR.old _ hA) (hR.notlive hA))

theorem CellsR.ext {E E' : Env} {Om Om' : List Ob} (hR : Rel E Om) (hx : Ext E Om E' Om') {c : List D} {cs : Array Value} (h : CellsR E c cs) : CellsR E' c cs :=
  fun j d hj => let ⟨y, h1, h2, h3⟩ := h j d hj; ⟨y, h1, h2, h3.ext hR hx⟩

/-! ### References below a number of objects -/
inductive Bl (n : Nat) : D → Prop where
  | v (x : Value) : Bl n (.v x)
  | any : Bl n .any
  | sl {sz : Nat} {rows : List (List D)} (h : ∀ r ∈ rows, ∀ d ∈ r, Bl n d) : Bl n (.sl sz rows)
  | pel {row : List D} (h : ∀ d ∈ row, Bl n d) : Bl n (.pel row)
  | agg {c : List D} (h : ∀ d ∈ c, Bl n d) : Bl n (.agg c)
  | tup {c : List D} (h : ∀ d ∈ c, Bl n d) : Bl n (.tup c)
  | ref {k off : Nat} (h : k < n) : Bl n (.ref k off)
  | rel {k sz i j : Nat} (h : k < n) : Bl n (.rel k sz i j)
  | own {k : Nat} (h : k < n) : Bl n (.own k)
  | fn {f : FuncId} {cap : List D} (h : ∀ d ∈ cap, Bl n d) : Bl n (.fn f cap)
  | ifc {t : TypeId} {d : D} (h : Bl n d) : Bl n (.ifc t d)
  | yld {k : Nat} (h : k < n) : Bl n (.yld k)

theorem Bl.mono {n m : Nat} (hnm : n ≤ m) {d : D} (h : Bl n d) : Bl m d := by
  induction h with
  | v x => exact .v x
  | any => exact .any
  | sl h ih => exact .sl ih
  | pel h ih => exact .pel ih
  | agg h ih => exact .agg ih
  | tup h ih => exact .tup ih
  | ref h => exact .ref (Nat.lt_of_lt_of_le h hnm)
  | rel h => exact .rel (Nat.lt_of_lt_of_le h hnm)
  | own h => exact .own (Nat.lt_of_lt_of_le h hnm)
  | fn h ih => exact .fn ih
  | ifc h ih => exact .ifc ih
  | yld h => exact .yld (Nat.lt_of_lt_of_le h hnm)

/-- The objects from n on may be forgotten where nothing refers to them. -/
theorem Rd.bl {E E2 : Env} {n : Nat} (hn : n ≤ E2.n) (hg : ∀ k, k < n → E2.g k = E.g k) (hA : ∀ b, E.A b → E2.A b) (hw : E2.w = E.w) {d : D} {y : Value} (h : Rd E d y) (hb : Bl n d) : Rd E2 d y := by
  induction h with
  | v x => exact .v x
  | any y => exact .any y
  | sl ad u hr hl hm ha hc hd ih =>
    cases hb with
    | sl hb => exact .sl ad u hr hl hm (ha.imp id fun h => ⟨h.1, hA _ h.2⟩) (by rw [hw]; exact hc) (fun i r j d h1 h2 => ih i r j d h1 h2 (hb r (List.mem_of_getElem? h1) d (List.mem_of_getElem? h2)))
  | pel ad u hA' hc hd ih =>
    cases hb with
    | pel hb => exact .pel ad u (hA _ hA') (by rw [hw]; exact hc) (fun j d h1 => ih j d h1 (hb d (List.mem_of_getElem? h1)))
  | agg vs hs h1 hd ih =>
    cases hb with
    | agg hb => exact .agg vs hs h1 (fun j d h => ih j d h (hb d (List.mem_of_getElem? h)))
  | tup vs hs hd ih =>
    cases hb with
    | tup hb => exact .tup vs hs (fun j d h => ih j d h (hb d (List.mem_of_getElem? h)))
  | ref hk hg' =>
    cases hb with
    | ref hb => exact .ref (Nat.lt_of_lt_of_le hb hn) (by rw [hg _ hb]; exact hg')
  | rel hk hg' =>
    cases hb with
    | rel hb => exact .rel (Nat.lt_of_lt_of_le hb hn) (by rw [hg _ hb]; exact hg')
  | own hk =>
    cases hb with
    | own hb => rw [← hg _ hb]; exact .own (Nat.lt_of_lt_of_le hb hn)
  | fn vs hs hd ih =>
    cases hb with
    | fn hb => exact .fn vs hs (fun j d h => ih j d h (hb d (List.mem_of_getElem? h)))
  | ifc h ih =>
    cases hb with
    | ifc hb => exact .ifc (ih hb)
  | yld hk hg' =>
    cases hb with
    | yld hb => exact .yld (Nat.lt_of_lt_of_le hb hn) (by rw [hg _ hb]; exact hg')

end Go.Proofs.Ytbpkppidbdhopaa.AWP
