/- There and back: an expression's text is read as it was. -/
import Derived.Test.YtdliolbjngcgcaaGreatDoorMathA
import Derived.Test.YtdliolbjngcgcaaGreatDoorLogicC
import Derived.Lib.SlicesCompact
set_option linter.unusedVariables false
set_option linter.unusedSimpArgs false
set_option linter.unusedSectionVars false
set_option maxRecDepth 100000
/- A normal form is nullable, or void, just if the expression is; its first bytes are the same. -/
namespace Go.Proofs.YtdliolbjngcgcaaGreatDoor.AWP
open Go
/-- Has it this first byte? -/
def Re.hf (n : Nat) (r : Re) : Bool := hasB r.fst n
/-- What counts of an expression. -/
structure Same3 (a : Re) (n f h : Bool) (k : Nat) : Prop where
  n : a.nul = n
  f : a.fit = f
  h : a.hf k = h
/-! ### Alts -/
end Go.Proofs.YtdliolbjngcgcaaGreatDoor.AWP
set_option maxRecDepth 100000
/- The normal form fits what the expression fits. -/
namespace Go.Proofs.YtdliolbjngcgcaaGreatDoor.AWP
open Go
section
variable {s : ByteArray}
/-! ### Alts -/
def AnyMt (s : ByteArray) (l : List Re) (i j : Nat) : Prop := ∃ x ∈ l, x.mt s i j
theorem AnyMt.congr {l m : List Re} (h : ∀ x, x ∈ l ↔ x ∈ m) {i j : Nat} : AnyMt s l i j ↔ AnyMt s m i j := ⟨fun ⟨x, hx, hp⟩ => ⟨x, (h x).1 hx, hp⟩, fun ⟨x, hx, hp⟩ => ⟨x, (h x).2 hx, hp⟩⟩
theorem AnyMt.one {x : Re} {i j : Nat} : AnyMt s [x] i j ↔ x.mt s i j := ⟨fun ⟨y, hy, h⟩ => by rw [List.mem_singleton.1 hy] at h; exact h, fun h => ⟨x, by simp, h⟩⟩
theorem AnyMt.nil {i j : Nat} : AnyMt s [] i j ↔ False := ⟨fun ⟨y, hy, h⟩ => absurd hy List.not_mem_nil, False.elim⟩
/-! ### The derivative -/
end
end Go.Proofs.YtdliolbjngcgcaaGreatDoor.AWP
set_option maxRecDepth 100000
/- Steps: what is left behind a text. -/
namespace Go.Proofs.YtdliolbjngcgcaaGreatDoor.AWP
open Go
/-! ### Two texts -/
/-! ### What it fits -/
end Go.Proofs.YtdliolbjngcgcaaGreatDoor.AWP
namespace Go.Proofs.YtdliolbjngcgcaaGreatDoor.AWP
open Go
def wdN (a : Int) : Bool := decide (0 ≤ a) && decide (a < 18446744073709551616)
mutual
/-- Words in range, as a test. -/
def wdQ : Re → Bool
  | .mk _ a b c d ks => wdN a && wdN b && wdN c && wdN d && wdQs ks
def wdQs : List Re → Bool
  | [] => true
  | r :: l => wdQ r && wdQs l
end
theorem wdQs_ok : ∀ {l : List Re}, wdQs l = true → ∀ x ∈ l, wdQ x = true
  | [], _, _, h => by cases h
  | r :: l, h, x, hx => by
    rw [wdQs, Bool.and_eq_true] at h
    rcases List.mem_cons.1 hx with rfl | hx
    · exact h.1
    · exact wdQs_ok h.2 x hx
theorem wdQ_ok (r : Re) (h : wdQ r = true) : r.wd := by
  revert h
  refine Re.ind (p := fun r => wdQ r = true → r.wd) ?_ r
  intro k a b c d ks ih h
  rw [wdQ] at h
  simp only [wdN, Bool.and_eq_true, decide_eq_true_eq] at h
  rw [Re.wd]
  refine ⟨⟨[a.toNat, b.toNat, c.toNat, d.toNat], ?_, rfl, ?_⟩, Re.wds_of fun x hx => ih x hx (wdQs_ok h.2 x hx)⟩
  · simp only [List.map_cons, List.map_nil, List.cons.injEq, and_true]
    omega
  · intro m hm
    simp only [List.mem_cons, List.not_mem_nil, or_false] at hm
    omega
end Go.Proofs.YtdliolbjngcgcaaGreatDoor.AWP
/- Expressions of a grammar, trees, grammars as data. -/
namespace Go.Proofs.YtdliolbjngcgcaaGreatDoor.AWP
open Go
/-- An expression of a grammar; a tree has the same form. -/
inductive Cf where
  | mk (k n : Int) (ks : List Cf)
instance : Inhabited Cf := ⟨.mk 0 0 []⟩
def Cf.kind : Cf → Int | .mk k _ _ => k
def Cf.num : Cf → Int | .mk _ n _ => n
def Cf.kids : Cf → List Cf | .mk _ _ ks => ks
@[simp] theorem Cf.kind_mk {k n : Int} {ks : List Cf} : (Cf.mk k n ks).kind = k := rfl
@[simp] theorem Cf.num_mk {k n : Int} {ks : List Cf} : (Cf.mk k n ks).num = n := rfl
@[simp] theorem Cf.kids_mk {k n : Int} {ks : List Cf} : (Cf.mk k n ks).kids = ks := rfl
mutual
def Cf.c : Cf → List D
  | .mk k n ks => [.v (.int .u8 k), .v (.int .i64 n), .sl 3 (Cf.cs ks)]
def Cf.cs : List Cf → List (List D)
  | [] => []
  | r :: l => r.c :: Cf.cs l
end
abbrev Cf.d (r : Cf) : D := .agg r.c
@[go_sem] theorem Cf.c_mk (k n : Int) (ks : List Cf) : (Cf.mk k n ks).c = [.v (.int .u8 k), .v (.int .i64 n), .sl 3 (Cf.cs ks)] := by rw [Cf.c]
@[go_sem] theorem Cf.cs_eq : ∀ (l : List Cf), Cf.cs l = l.map Cf.c
  | [] => by rw [Cf.cs]; rfl
  | r :: l => by rw [Cf.cs, Cf.cs_eq l]; rfl
@[go_sem, simp] theorem Cf.c_len (r : Cf) : r.c.length = 3 := by cases r; rw [Cf.c_mk]; rfl
@[go_sem, simp] theorem Cf.c_take (r : Cf) : r.c.take 3 = r.c := List.take_of_length_le (by simp)
mutual
theorem Cf.c_bl : ∀ (r : Cf), ∀ d ∈ r.c, Bl 0 d
  | .mk k n ks => by
    have h := Cf.cs_bl ks
    rw [Cf.c_mk]
    intro x hx
    simp only [List.mem_cons, List.not_mem_nil, or_false] at hx
    rcases hx with rfl | rfl | rfl
    · simp
    · simp
    · exact .sl h
theorem Cf.cs_bl : ∀ (l : List Cf), ∀ r ∈ Cf.cs l, ∀ d ∈ r, Bl 0 d
  | [] => by rw [Cf.cs]; simp
  | r :: l => by
    have h1 := Cf.c_bl r
    have h2 := Cf.cs_bl l
    rw [Cf.cs]
    intro x hx
    rcases List.mem_cons.1 hx with rfl | hx
    · exact h1
    · exact h2 x hx
end
@[simp] theorem Cf.c_blT (r : Cf) : (∀ d ∈ r.c, Bl 0 d) = True := eq_true r.c_bl
@[simp] theorem Cf.cs_blT (l : List Cf) : (∀ r ∈ Cf.cs l, ∀ d ∈ r, Bl 0 d) = True := eq_true (Cf.cs_bl l)
theorem Cf.map_bl (l : List Cf) : ∀ r ∈ l.map Cf.c, ∀ d ∈ r, Bl 0 d := by rw [← Cf.cs_eq]; exact Cf.cs_bl l
@[simp] theorem Cf.d_bl (r : Cf) : Bl 0 (.agg r.c) := .agg r.c_bl
@[simp] theorem Cf.pel_bl (r : Cf) : Bl 0 (.pel r.c) := .pel r.c_bl
@[simp] theorem Cfs_bl (l : List Cf) : Bl 0 (.sl 3 (l.map Cf.c)) := by rw [← Cf.cs_eq]; exact .sl (Cf.cs_bl l)
@[simp] theorem Cfs_bl' (l : List Cf) : Bl 0 (.sl 3 (Cf.cs l)) := .sl (Cf.cs_bl l)
/-! Fewer kids than the greatest length, all through. -/
mutual
def Cf.Ok : Cf → Prop
  | .mk _ _ ks => Cf.Oks ks ∧ ks.length ≤ 9223372036854775807
def Cf.Oks : List Cf → Prop
  | [] => True
  | r :: l => r.Ok ∧ Cf.Oks l
end
mutual
theorem Cf.ok_of : ∀ (r : Cf), (∀ d ∈ r.c, Wf d) → r.Ok
  | .mk k n ks, h => by
    rw [Cf.c_mk] at h
    have h' := h (.sl 3 (Cf.cs ks)) (by simp)
    rw [Cf.Ok]
    exact ⟨Cf.oks_of ks h'.sl_mem, by have := h'.sl_len; rw [Cf.cs_eq, List.length_map] at this; exact this⟩
theorem Cf.oks_of : ∀ (l : List Cf), (∀ r ∈ Cf.cs l, ∀ d ∈ r, Wf d) → Cf.Oks l
  | [], h => by rw [Cf.Oks]; trivial
  | r :: l, h => by
    rw [Cf.cs] at h
    rw [Cf.Oks]
    exact ⟨Cf.ok_of r (h r.c (by simp)), Cf.oks_of l fun x hx => h x (by simp [hx])⟩
end
theorem Cf.ok_agg {r : Cf} (h : Wf (.agg r.c)) : r.Ok := Cf.ok_of r h.agg_mem
section
variable {p : Cf → Prop} (h : ∀ (k n : Int) (ks : List Cf), (∀ x ∈ ks, p x) → p (.mk k n ks))
include h
mutual
theorem Cf.ind : ∀ r : Cf, p r
  | .mk k n ks => h k n ks (Cf.inds ks)
theorem Cf.inds : ∀ (l : List Cf), ∀ x ∈ l, p x
  | [], _, hx => absurd hx (by simp)
  | r :: l, x, hx => (List.mem_cons.1 hx).elim (fun e => e ▸ Cf.ind r) (Cf.inds l x)
end
end
/-! ### Texts in a row -/
abbrev strR (l : List ByteArray) : List (List D) := l.map fun s => [.s s]
abbrev Strs (l : List ByteArray) : D := .sl 1 (strR l)
@[simp] theorem strR_bl (l : List ByteArray) : ∀ r ∈ strR l, ∀ d ∈ r, Bl 0 d := by
  intro r hr d hd
  obtain ⟨s, _, rfl⟩ := List.mem_map.1 hr
  simp only [List.mem_singleton] at hd
  subst hd
  exact .v _
@[simp] theorem Strs_bl (l : List ByteArray) : Bl 0 (Strs l) := .sl (strR_bl l)
/-! ### Grammars -/
abbrev Df : Type := ByteArray × Cf
abbrev dfC (d : Df) : List D := .s d.1 :: d.2.c
abbrev dfR (l : List Df) : List (List D) := l.map dfC
abbrev Defs (l : List Df) : D := .sl 4 (dfR l)
@[simp] theorem dfC_bl (d : Df) : ∀ x ∈ dfC d, Bl 0 x := by
  intro x hx
  rcases List.mem_cons.1 hx with rfl | hx
  · exact .v _
  · exact d.2.c_bl x hx
@[simp] theorem dfR_bl (l : List Df) : ∀ r ∈ dfR l, ∀ d ∈ r, Bl 0 d := by
  intro r hr
  obtain ⟨x, _, rfl⟩ := List.mem_map.1 hr
  exact dfC_bl x
@[simp] theorem Defs_bl (l : List Df) : Bl 0 (Defs l) := .sl (dfR_bl l)
structure Gr where
  kinds : List ByteArray
  defs : List Df
instance : Inhabited Gr := ⟨⟨[], []⟩⟩
abbrev Gr.c (g : Gr) : List D := [Strs g.kinds, Defs g.defs]
@[simp] theorem Gr.c_bl (g : Gr) : ∀ d ∈ g.c, Bl 0 d := by
  intro d hd
  simp only [Gr.c, List.mem_cons, List.not_mem_nil, or_false] at hd
  rcases hd with rfl | rfl
  · exact Strs_bl _
  · exact Defs_bl _
@[simp] theorem Gr.d_bl (g : Gr) : Bl 0 (.agg g.c) := .agg g.c_bl
@[simp] theorem Gr.pel_bl (g : Gr) : Bl 0 (.pel g.c) := .pel g.c_bl
/-! ### Nodes -/
mutual
def Cf.sz : Cf → Nat
  | .mk _ _ ks => 1 + Cf.szs ks
def Cf.szs : List Cf → Nat
  | [] => 0
  | r :: l => r.sz + Cf.szs l
end
theorem Cf.sz_mk (k n : Int) (ks : List Cf) : (Cf.mk k n ks).sz = 1 + Cf.szs ks := by rw [Cf.sz]
theorem Cf.szs_nil : Cf.szs [] = 0 := by rw [Cf.szs]
theorem Cf.szs_cons (r : Cf) (l : List Cf) : Cf.szs (r :: l) = r.sz + Cf.szs l := by rw [Cf.szs]
theorem Cf.szs_append : ∀ (l m : List Cf), Cf.szs (l ++ m) = Cf.szs l + Cf.szs m
  | [], m => by simp [Cf.szs_nil]
  | r :: l, m => by rw [List.cons_append, Cf.szs_cons, Cf.szs_cons, Cf.szs_append l m]; omega
theorem Cf.sz_pos (r : Cf) : 1 ≤ r.sz := by cases r; rw [Cf.sz_mk]; omega
mutual
def Cf.same : Cf → Cf → Bool
  | .mk k n ks, .mk k' n' ks' => decide (k = k' ∧ n = n') && Cf.sames ks ks'
def Cf.sames : List Cf → List Cf → Bool
  | [], [] => true
  | x :: l, y :: m => x.same y && Cf.sames l m
  | _, _ => false
end
theorem Cf.sames_len : ∀ (x y : List Cf), ¬ x.length = y.length → Cf.sames x y = false
  | [], [], h => absurd rfl h
  | [], _ :: _, _ => by simp [Cf.sames]
  | _ :: _, [], _ => by simp [Cf.sames]
  | x :: l, y :: m, h => by
    rw [Cf.sames, Cf.sames_len l m (by simpa using h), Bool.and_false]
mutual
theorem Cf.same_eq : ∀ (x y : Cf), x.same y = true ↔ x = y
  | .mk k n ks, .mk k' n' ks' => by
    rw [Cf.same, Bool.and_eq_true, decide_eq_true_eq, Cf.sames_eq ks ks']
    constructor
    · rintro ⟨⟨rfl, rfl⟩, rfl⟩; rfl
    · intro h; cases h; exact ⟨⟨rfl, rfl⟩, rfl⟩
theorem Cf.sames_eq : ∀ (x y : List Cf), Cf.sames x y = true ↔ x = y
  | [], [] => by simp [Cf.sames]
  | [], _ :: _ => by simp [Cf.sames]
  | _ :: _, [] => by simp [Cf.sames]
  | x :: l, y :: m => by
    rw [Cf.sames, Bool.and_eq_true, Cf.same_eq x y, Cf.sames_eq l m, List.cons.injEq]
end
/-! All nodes, each ahead of its kids. -/
mutual
def Cf.all : Cf → List Cf
  | .mk k n ks => .mk k n ks :: Cf.alls ks
def Cf.alls : List Cf → List Cf
  | [] => []
  | r :: l => r.all ++ Cf.alls l
end
/-- May a node be, among so many kinds and definitions? -/
def nodeOk (kinds defs : Nat) : Cf → Bool
  | .mk k n ks =>
    if k = 1 ∨ k = 2 then decide (n = 0) && decide (ks.length = 0)
    else if k = 3 then decide (0 ≤ n ∧ n < kinds) && decide (ks.length = 0)
    else if k = 6 then decide (0 ≤ n ∧ n < defs) && decide (ks.length = 0)
    else if k = 4 ∨ k = 5 then decide (n = 0) && decide (ks.length = 2)
    else false
mutual
def Cf.may (kinds defs : Nat) : Cf → Bool
  | .mk k n ks => nodeOk kinds defs (.mk k n ks) && Cf.mays kinds defs ks
def Cf.mays (kinds defs : Nat) : List Cf → Bool
  | [] => true
  | r :: l => r.may kinds defs && Cf.mays kinds defs l
end
end Go.Proofs.YtdliolbjngcgcaaGreatDoor.AWP
namespace Go.Proofs.YtdliolbjngcgcaaGreatDoor.AWP
open Go
/-! ### Counting, as far as some more -/
theorem Cf.put0 (ty : Nat) (a : List D) (ha : a.length = 3) (b : Cf) : obPut (.var ty a) 0 b.c = some (.var ty b.c) := by
  rw [obPut_var (by simp [ha]), splc_all (by simp [ha])]
theorem Cf.szs_take {l : List Cf} {i : Nat} {x : Cf} (h : l[i]? = some x) : Cf.szs (l.take (i + 1)) = Cf.szs (l.take i) + x.sz := by
  rw [List.take_add_one, h, Cf.szs_append]
  simp [Cf.szs_cons, Cf.szs_nil]
theorem Cf.szs_take_le : ∀ (l : List Cf) (i : Nat), Cf.szs (l.take i) ≤ Cf.szs l
  | [], i => by simp
  | x :: l, 0 => by simp [Cf.szs_nil]
  | x :: l, i + 1 => by rw [List.take_succ_cons, Cf.szs_cons, Cf.szs_cons]; have := Cf.szs_take_le l i; omega
theorem Cf.sz_kids (r : Cf) : r.sz = 1 + Cf.szs r.kids := by cases r; rw [Cf.sz_mk]; rfl
end Go.Proofs.YtdliolbjngcgcaaGreatDoor.AWP
namespace Go.Proofs.YtdliolbjngcgcaaGreatDoor.AWP
end Go.Proofs.YtdliolbjngcgcaaGreatDoor.AWP
/- What a text of a grammar is read as: plain functions, for the program's reader and for the document's one. -/
namespace Go.Proofs.YtdliolbjngcgcaaGreatDoor.AWP
open Go
/-- The place behind blanks. -/
def skipB (s : ByteArray) (p : Nat) : Nat := if h : p < s.size ∧ (s.data.getD p 0).toNat = 32 then skipB s (p + 1) else p
termination_by s.size - p
/-- Does a byte stand there? -/
def byB (s : ByteArray) (p : Nat) (c : Nat) : Bool := decide (p < s.size) && decide ((s.data.getD p 0).toNat = c)
/-- A small letter? -/
def lowB (s : ByteArray) (p : Nat) : Bool := decide (p < s.size) && (decide (97 ≤ (s.data.getD p 0).toNat) && decide ((s.data.getD p 0).toNat ≤ 122))
/-- A letter of a name? -/
def ltrB (n : Nat) : Bool := ((decide (97 ≤ n) && decide (n ≤ 122)) || (decide (48 ≤ n) && decide (n ≤ 57))) || decide (n = 95)
/-- The place behind a name. -/
def nameTo (s : ByteArray) (p : Nat) : Nat := if h : p < s.size ∧ ltrB (s.data.getD p 0).toNat = true then nameTo s (p + 1) else p
termination_by s.size - p
theorem skipB_eq (s : ByteArray) (p : Nat) : skipB s p = if p < s.size ∧ (s.data.getD p 0).toNat = 32 then skipB s (p + 1) else p := by
  rw [skipB]; split <;> rfl
theorem skipB_ge (s : ByteArray) : ∀ (n p : Nat), s.size - p ≤ n → p ≤ skipB s p ∧ (p ≤ s.size → skipB s p ≤ s.size) := by
  intro n
  induction n with
  | zero =>
    intro p hn
    rw [skipB_eq, if_neg (by omega)]
    exact ⟨Nat.le_refl _, id⟩
  | succ n ih =>
    intro p hn
    rw [skipB_eq]
    split
    · have := ih (p + 1) (by omega)
      exact ⟨by omega, fun h => this.2 (by omega)⟩
    · exact ⟨Nat.le_refl _, id⟩
theorem le_skipB (s : ByteArray) (p : Nat) : p ≤ skipB s p := (skipB_ge s _ p (Nat.le_refl _)).1
theorem byB_at {s : ByteArray} {p c : Nat} {b : UInt8} (hp : p < s.size) (h : s.data[p]? = some b) : byB s p c = decide (b.toNat = c) := by
  unfold byB; rw [decide_eq_true hp, at_of h]; rfl
theorem lowB_at {s : ByteArray} {p : Nat} {b : UInt8} (hp : p < s.size) (h : s.data[p]? = some b) : lowB s p = (decide (97 ≤ b.toNat) && decide (b.toNat ≤ 122)) := by
  unfold lowB; rw [decide_eq_true hp, at_of h]; rfl
/-- What is read: an expression, and where it ends; or where the error is, and its number. -/
inductive CR where
  | ok (r : Cf) (p : Nat)
  | bad (p e : Nat)
/-- Some, two by two. -/
def Cf.fold (kind : Int) : List Cf → Cf
  | [] => .mk 0 0 []
  | x :: l => match l with
    | [] => x
    | _ :: _ => .mk kind 0 [x, Cf.fold kind l]
theorem Cf.fold_one (kind : Int) (x : Cf) : Cf.fold kind [x] = x := by rw [Cf.fold]
theorem Cf.fold_two (kind : Int) (x y : Cf) (l : List Cf) : Cf.fold kind (x :: y :: l) = .mk kind 0 [x, Cf.fold kind (y :: l)] := by rw [Cf.fold]
theorem Cf.fold_foldr (kind : Int) : ∀ (l : List Cf) (x : Cf), Cf.fold kind (l ++ [x]) = l.foldr (fun y acc => .mk kind 0 [y, acc]) x
  | [], x => Cf.fold_one kind x
  | y :: l, x => by
    have ih := Cf.fold_foldr kind l x
    cases l with
    | nil => rw [List.nil_append] at ih; rw [List.cons_append, List.nil_append, Cf.fold_two, ih]; rfl
    | cons z l => rw [List.cons_append, List.cons_append, Cf.fold_two]; rw [List.cons_append] at ih; rw [ih]; rfl
/-- The first place of a name; -1. -/
def nmI (l : List ByteArray) (s : ByteArray) : Int :=
  match l.findIdx? (fun x => decide (s = x)) with
  | some i => (i : Int)
  | none => -1
section
variable (ks ds : List ByteArray) (A : Nat → CR) (s : ByteArray)
/-- An atom, at a place that is no blank. -/
def atomQ (p : Nat) : CR :=
  if byB s p 91 = true then
    if byB s (skipB s (p + 1)) 93 = true then .ok (.mk 1 0 []) (skipB s (p + 1) + 1) else .bad (skipB s (p + 1)) 2
  else if byB s p 40 = true then
    if byB s (skipB s (p + 1)) 41 = true then .ok (.mk 2 0 []) (skipB s (p + 1) + 1)
    else match A (skipB s (p + 1)) with
      | .bad q e => .bad q e
      | .ok r q => if byB s (skipB s q) 41 = true then .ok r (skipB s q + 1) else .bad (skipB s q) 2
  else if lowB s p = true then
    if 0 ≤ nmI ks (s.extract p (nameTo s p)) then .ok (.mk 3 (nmI ks (s.extract p (nameTo s p))) []) (nameTo s p)
    else if 0 ≤ nmI ds (s.extract p (nameTo s p)) then .ok (.mk 6 (nmI ds (s.extract p (nameTo s p))) []) (nameTo s p)
    else .bad p 5
  else .bad p 2
def atomP (p : Nat) : CR := atomQ ks ds A s (skipB s p)
/-- Does an atom begin there? -/
def moreB (p : Nat) : Bool := byB s p 91 || (byB s p 40 || lowB s p)
/-- A row. -/
def thenGo (l : List Cf) (p : Nat) : CR :=
  if moreB s (skipB s p) = true then
    match atomP ks ds A s p with
    | .bad q e => .bad q e
    | .ok r q => if hq : p < q ∧ q ≤ s.size then thenGo (l ++ [r]) q else .bad 0 2
  else .ok (Cf.fold 4 l) p
termination_by s.size - p
def thenP (p : Nat) : CR :=
  match atomP ks ds A s p with
  | .bad q e => .bad q e
  | .ok r q => thenGo ks ds A s [r] q
def orGo (l : List Cf) (p : Nat) : CR :=
  if byB s (skipB s p) 124 = true then
    match thenP ks ds A s (skipB s p + 1) with
    | .bad q e => .bad q e
    | .ok r q => if hq : skipB s p < q ∧ q ≤ s.size then orGo (l ++ [r]) q else .bad 0 2
  else .ok (Cf.fold 5 l) p
termination_by s.size - p
decreasing_by have := le_skipB s p; omega
def orP (p : Nat) : CR :=
  match thenP ks ds A s p with
  | .bad q e => .bad q e
  | .ok r q => orGo ks ds A s [r] q
end
/-- An expression, from a place on. -/
def orF (ks ds : List ByteArray) (s : ByteArray) (p : Nat) : CR := orP ks ds (fun q => if h : skipB s p < q ∧ q ≤ s.size then orF ks ds s q else .bad 0 2) s p
termination_by s.size - p
decreasing_by have := le_skipB s p; omega
/-- Expressions from behind a place on. -/
def orA (ks ds : List ByteArray) (s : ByteArray) (p q : Nat) : CR := if skipB s p < q ∧ q ≤ s.size then orF ks ds s q else .bad 0 2
theorem orF_eq (ks ds : List ByteArray) (s : ByteArray) (p : Nat) : orF ks ds s p = orP ks ds (orA ks ds s p) s p := by
  rw [orF]; rfl
/-! ### Where it ends -/
section
variable {ks ds : List ByteArray} {A : Nat → CR} {s : ByteArray}
end
/-! ### An error has a number -/
section
variable {ks ds : List ByteArray} {A : Nat → CR} {s : ByteArray}
end
end Go.Proofs.YtdliolbjngcgcaaGreatDoor.AWP
/- What is read of a grammar's text may be, and is no greater than the text. -/
namespace Go.Proofs.YtdliolbjngcgcaaGreatDoor.AWP
open Go
section
variable {ks ds : List ByteArray} {A : Nat → CR} {s : ByteArray}
end
end Go.Proofs.YtdliolbjngcgcaaGreatDoor.AWP
/- The text of an expression of a grammar. -/
namespace Go.Proofs.YtdliolbjngcgcaaGreatDoor.AWP
open Go
def isIn (ks : List Int) (k : Int) : Bool := ks.contains k
/-- A node's text, by its kids' kinds and texts. -/
def cfTx (K N : List ByteArray) (k n : Int) (l : List (Int × List UInt8)) : List UInt8 :=
  if k = 1 then [91, 93]
  else if k = 2 then [40, 41]
  else if k = 3 then (K.getD n.toNat ⟨#[]⟩).data.toList
  else if k = 6 then (N.getD n.toNat ⟨#[]⟩).data.toList
  else match l with
    | [a, b] => if k = 4 then brk (isIn [4, 5] a.1) a.2 ++ 32 :: brk (isIn [5] b.1) b.2 else brk (isIn [5] a.1) a.2 ++ 32 :: 124 :: 32 :: b.2
    | _ => []
mutual
def Cf.tx (K N : List ByteArray) : Cf → List UInt8
  | .mk k n ks => cfTx K N k n (Cf.txs K N ks)
def Cf.txs (K N : List ByteArray) : List Cf → List (Int × List UInt8)
  | [] => []
  | r :: l => (r.kind, Cf.tx K N r) :: Cf.txs K N l
end
end Go.Proofs.YtdliolbjngcgcaaGreatDoor.AWP
/- Names that are there once: in order, and each one that stands beside an equal one left out, they are as many. -/
namespace Go.Proofs.YtdliolbjngcgcaaGreatDoor.AWP
open Go
end Go.Proofs.YtdliolbjngcgcaaGreatDoor.AWP
/- There and back: an expression's text is read as it was. -/
namespace Go.Proofs.YtdliolbjngcgcaaGreatDoor.AWP
open Go
theorem lt_of_get {s : ByteArray} {p : Nat} {b : UInt8} (h : s.data[p]? = some b) : p < s.size := (Array.getElem?_eq_some_iff.1 h).1
theorem byB_of {s : ByteArray} {p c : Nat} {b : UInt8} (h : s.data[p]? = some b) {v : Bool} (hv : decide (b.toNat = c) = v) : byB s p c = v := by rw [byB_at (lt_of_get h) h, hv]
theorem lowB_of {s : ByteArray} {p : Nat} {b : UInt8} (h : s.data[p]? = some b) : lowB s p = (decide (97 ≤ b.toNat) && decide (b.toNat ≤ 122)) := lowB_at (lt_of_get h) h
theorem skipB_no {s : ByteArray} {p : Nat} {b : UInt8} (h : s.data[p]? = some b) (hb : b.toNat ≠ 32) : skipB s p = p := by
  rw [skipB_eq, if_neg]
  rintro ⟨_, h2⟩
  rw [at_of h] at h2
  exact hb h2
/-- How an atom begins. -/
def begN (c : UInt8) : Bool := decide (c.toNat = 91) || (decide (c.toNat = 40) || (decide (97 ≤ c.toNat) && decide (c.toNat ≤ 122)))
theorem begN_ne (c : UInt8) (h : begN c = true) : c.toNat ≠ 32 ∧ c.toNat ≠ 41 ∧ c.toNat ≠ 124 := by
  unfold begN at h
  simp only [Bool.or_eq_true, Bool.and_eq_true, decide_eq_true_eq] at h
  omega
theorem more_no {s : ByteArray} {p : Nat} {b : UInt8} (h : s.data[p]? = some b) (hb : begN b = false) : moreB s p = false := by
  unfold moreB
  rw [byB_of h rfl, byB_of h rfl, lowB_of h]
  exact hb
/-! ### Names -/
def StopN (s : ByteArray) (q : Nat) : Prop := ¬ (q < s.size ∧ ltrB (s.data.getD q 0).toNat = true)
theorem At_take {s : ByteArray} : ∀ (l : List UInt8) (p : Nat), At s p l → (s.data.toList.drop p).take l.length = l
  | [], p, _ => by simp
  | c :: l, p, h => by
    have ih := At_take l (p + 1) h.2
    rw [drop_get (x := c) (by rw [Array.getElem?_toList]; exact h.1), List.length_cons, List.take_succ_cons, ih]
theorem At_extract {s : ByteArray} {l : List UInt8} {p : Nat} (h : At s p l) : s.extract p (p + l.length) = ⟨l.toArray⟩ := by
  have h2 := At_take l p h
  apply ByteArray.ext
  rw [ByteArray.data_extract]
  apply Array.toList_inj.1
  rw [Array.toList_extract, List.extract_eq_take_drop, show p + l.length - p = l.length by omega, h2]
theorem name_ltr {w : ByteArray} (h : nameB w = true) : (∀ b ∈ w.data.toList, ltrB b.toNat = true) ∧ ∃ c m, w.data.toList = c :: m ∧ (decide (97 ≤ c.toNat) && decide (c.toNat ≤ 122)) = true := by
  unfold nameB at h
  simp only [Bool.and_eq_true, decide_eq_true_eq] at h
  obtain ⟨h1, h2, h3⟩ := h
  have hat := nameL_at w.data.toList 0
  refine ⟨fun b hb => ?_, ?_⟩
  · obtain ⟨i, hi⟩ := List.getElem?_of_mem hb
    have := hat i h1 b hi
    unfold okB at this
    unfold ltrB
    revert this
    cases decide (97 ≤ b.toNat) <;> cases decide (b.toNat ≤ 122) <;> cases decide (b.toNat = 95) <;> cases decide (48 ≤ b.toNat) <;> cases decide (b.toNat ≤ 57) <;> cases decide (0 + i ≠ 0) <;> simp
  · have hl : w.data.toList.length = w.size := Array.length_toList
    cases e : w.data.toList with
    | nil => rw [e] at hl; simp at hl; omega
    | cons c m =>
      refine ⟨c, m, rfl, ?_⟩
      have := hat 0 h1 c (by rw [e]; rfl)
      unfold okB at this
      simpa using this
/-! ### Where it stops -/
structure StopT (s : ByteArray) (q : Nat) : Prop where
  nm : StopN s q
  more : moreB s (skipB s q) = false
structure StopO (s : ByteArray) (q : Nat) : Prop extends StopT s q where
  bar : byB s (skipB s q) 124 = false
theorem stopN_of {s : ByteArray} {q : Nat} {b : UInt8} (h : s.data[q]? = some b) (hb : ltrB b.toNat = false) : StopN s q := by
  rintro ⟨_, h2⟩
  rw [at_of h, hb] at h2
  cases h2
theorem stopO_rp {s : ByteArray} {q : Nat} (h : s.data[q]? = some 41) : StopO s q :=
  ⟨⟨stopN_of h (by decide), by rw [skipB_no h (by decide)]; exact more_no h (by decide)⟩, by rw [skipB_no h (by decide)]; exact byB_of h (by decide)⟩
/-! ### A row, an expression: from behind some -/
def cfR (kind : Int) (l : List Cf) (x : Cf) : Cf := l.foldr (fun y acc => .mk kind 0 [y, acc]) x
section
variable (K N : List ByteArray)
def rowSC (A : Nat → CR) (s : ByteArray) (l : List Cf) (p : Nat) : CR :=
  match atomP K N A s p with
  | .bad q e => .bad q e
  | .ok x q => thenGo K N A s (l ++ [x]) q
def altSC (A : Nat → CR) (s : ByteArray) (l : List Cf) (p : Nat) : CR :=
  match thenP K N A s p with
  | .bad q e => .bad q e
  | .ok x q => orGo K N A s (l ++ [x]) q
end
section
variable {K N : List ByteArray}
theorem orP_sc (A : Nat → CR) (s : ByteArray) (p : Nat) : orP K N A s p = altSC K N A s [] p := rfl
theorem thenGo_stop {A : Nat → CR} {s : ByteArray} {l : List Cf} {x : Cf} {q : Nat} (h : moreB s (skipB s q) = false) : thenGo K N A s (l ++ [x]) q = .ok (cfR 4 l x) q := by
  rw [thenGo, if_neg (by rw [h]; simp), Cf.fold_foldr]; rfl
end
/-- What is asked of names. -/
structure NmOk (K N : List ByteArray) : Prop where
  nms : ∀ w ∈ K ++ N, nameB w = true
  nod : (K ++ N).Nodup
structure CRdb (K N : List ByteArray) (r : Cf) : Prop where
  beg : ∃ c m, r.tx K N = c :: m ∧ begN c = true
  atom : r.kind ≠ 4 → r.kind ≠ 5 → ∀ s p0 p, skipB s p0 ≤ p → At s p (r.tx K N) → StopN s (p + (r.tx K N).length) → atomQ K N (orA K N s p0) s p = .ok r (p + (r.tx K N).length)
  row : r.kind ≠ 5 → ∀ s p0 p l, skipB s p0 ≤ p → At s p (r.tx K N) → StopT s (p + (r.tx K N).length) → rowSC K N (orA K N s p0) s l p = .ok (cfR 4 l r) (p + (r.tx K N).length)
  alt : ∀ s p0 p l, skipB s p0 ≤ p → At s p (r.tx K N) → StopO s (p + (r.tx K N).length) → altSC K N (orA K N s p0) s l p = .ok (cfR 5 l r) (p + (r.tx K N).length)
section
variable {K N : List ByteArray}
theorem CRdb.begB {r : Cf} (h : CRdb K N r) (b : Bool) : ∃ c m, brk b (r.tx K N) = c :: m ∧ begN c = true := by
  unfold brk
  split
  · exact ⟨40, _, rfl, by decide⟩
  · exact h.beg
theorem at_begN {s : ByteArray} {p : Nat} {l : List UInt8} (hl : ∃ c m, l = c :: m ∧ begN c = true) (h : At s p l) : ∃ c, s.data[p]? = some c ∧ begN c = true := by
  obtain ⟨c, n, rfl, hc⟩ := hl
  exact ⟨c, h.1, hc⟩
theorem CRdb.whole {r : Cf} (h : CRdb K N r) {s : ByteArray} {p : Nat} (ha : At s p (r.tx K N)) (hs : StopO s (p + (r.tx K N).length)) : orF K N s p = .ok r (p + (r.tx K N).length) := by
  obtain ⟨c, hc, hb⟩ := at_begN h.beg ha
  rw [orF_eq, orP_sc]
  exact h.alt s p p [] (by rw [skipB_no hc (begN_ne c hb).1]; exact Nat.le_refl _) ha hs
/-- In brackets where it must. -/
theorem CRdb.pt {r : Cf} (h : CRdb K N r) {b : Bool} (hb : b = true ∨ (r.kind ≠ 4 ∧ r.kind ≠ 5)) {s : ByteArray} {p0 p : Nat} (hp : skipB s p0 ≤ p) (ha : At s p (brk b (r.tx K N))) (hs : StopN s (p + (brk b (r.tx K N)).length)) :
    atomQ K N (orA K N s p0) s p = .ok r (p + (brk b (r.tx K N)).length) := by
  unfold brk at ha hs ⊢
  split at ha
  case isFalse hf =>
    rw [if_neg hf] at hs ⊢
    have := hb.resolve_left hf
    exact h.atom this.1 this.2 s p0 p hp ha hs
  rename_i ht
  rw [if_pos ht]
  have hle := At_le _ _ ha (by simp)
  obtain ⟨h1, h2⟩ := ha
  have h3 := (At_app _ _ _).1 h2
  obtain ⟨c, hc, hcb⟩ := at_begN h.beg h3.1
  have h4 := h3.2.1
  simp only [List.length_cons, List.length_append, List.length_nil] at hle
  have hne := begN_ne c hcb
  unfold atomQ
  rw [byB_of h1 (v := false) (by decide), byB_of h1 (v := true) (by decide), if_neg (by simp), if_pos rfl, skipB_no hc hne.1, byB_of hc (v := false) (by simpa using hne.2.1), if_neg (by simp)]
  have e : orA K N s p0 (p + 1) = .ok r (p + 1 + (r.tx K N).length) := by
    unfold orA
    rw [if_pos (by omega)]
    exact h.whole h3.1 (stopO_rp h4)
  rw [e]
  dsimp only
  rw [skipB_no h4 (by decide), byB_of h4 (v := true) (by decide), if_pos rfl]
  congr 1
  simp; omega
theorem atomP_at {A : Nat → CR} {s : ByteArray} {p : Nat} {c : UInt8} (hc : s.data[p]? = some c) (hb : begN c = true) : atomP K N A s p = atomQ K N A s p := by
  unfold atomP; rw [skipB_no hc (begN_ne c hb).1]
theorem row_of_atom {r : Cf} {A : Nat → CR} {s : ByteArray} {p : Nat} {l : List Cf} {q : Nat} (h : atomP K N A s p = .ok r q) (hs : StopT s q) : rowSC K N A s l p = .ok (cfR 4 l r) q := by
  unfold rowSC
  rw [h]
  exact thenGo_stop hs.more
/-- A row's rest, from behind its first part. -/
theorem CRdb.rest {y : Cf} (h : CRdb K N y) {s : ByteArray} {p0 p : Nat} {l : List Cf} (hp : skipB s p0 ≤ p) (ha : At s p (brk (isIn [5] y.kind) (y.tx K N))) (hs : StopT s (p + (brk (isIn [5] y.kind) (y.tx K N)).length)) :
    rowSC K N (orA K N s p0) s l p = .ok (cfR 4 l y) (p + (brk (isIn [5] y.kind) (y.tx K N)).length) := by
  by_cases h5 : y.kind = 5
  · obtain ⟨c, hc, hcb⟩ := at_begN (h.begB _) ha
    have hb : isIn [5] y.kind = true := by rw [h5]; decide
    exact row_of_atom (by rw [atomP_at hc hcb]; exact h.pt (.inl hb) hp ha hs.nm) hs
  · have hb : isIn [5] y.kind = false := by unfold isIn; simp [h5]
    rw [hb] at ha hs ⊢
    exact h.row h5 s p0 p l hp ha hs
end
end Go.Proofs.YtdliolbjngcgcaaGreatDoor.AWP
