/- A slice of one's own is cut short; its end is cleared. -/
import Derived.Test.YtlejbkfefpfolaaDoorAwpV
set_option linter.unusedVariables false
set_option linter.unusedSimpArgs false
set_option linter.unusedSectionVars false
/- An evaluator over data: equal data; what is no longer reached is dropped. -/
namespace Go.Proofs.YtlejbkfefpfolaaDoor.AWP
open Go
inductive ER where
  | go (s : St)
  | pan (d : D) (s : St)
def erP (r : ER) (K : St → Prop) (KP : D → St → Prop) : Prop :=
  match r with
  | .go s => K s
  | .pan d s => KP d s
/-- What calls (true) and yields (false) come to. -/
abbrev EV := Bool → Nat → List D → List Ob → Option (Out × List Ob)
abbrev exQ (r : Out × List Ob) : Out → List Ob → Prop := fun o om => o = r.1 ∧ om = r.2
structure EVok (P : Program) (F : EV) : Prop where
  call : ∀ f ds om r, F true f ds om = some r → AC P f ds om (exQ r)
  yld : ∀ k ds om r, F false k ds om = some r → AY P k ds om (exQ r)
/-! ### Equal data, told -/
def valB : Value → Value → Bool
  | .bool a, .bool b => a == b
  | .int k a, .int k' b => decide (k = k') && decide (a = b)
  | .string a, .string b => decide (a.data.toList = b.data.toList)
  | .pointer none, .pointer none => true
  | .slice none a b, .slice none c d => a == c && b == d
  | .map none, .map none => true
  | .nilFunc, .nilFunc => true
  | .nilIface, .nilIface => true
  | .tuple a, .tuple b => a.size == 0 && b.size == 0
  | _, _ => false
mutual
def dB : D → D → Bool
  | .v a, .v b => valB a b
  | .sl n a, .sl m b => n == m && rowsB a b
  | .pel a, .pel b => dsB a b
  | .agg a, .agg b => dsB a b
  | .tup a, .tup b => dsB a b
  | .ref a b, .ref c d => a == c && b == d
  | .rel a b c d, .rel a' b' c' d' => a == a' && b == b' && c == c' && d == d'
  | .own a, .own b => a == b
  | .fn f a, .fn g b => f == g && dsB a b
  | .ifc t a, .ifc u b => t == u && dB a b
  | .yld a, .yld b => a == b
  | .any, .any => true
  | _, _ => false
def dsB : List D → List D → Bool
  | [], [] => true
  | a :: x, b :: y => dB a b && dsB x y
  | _, _ => false
def rowsB : List (List D) → List (List D) → Bool
  | [], [] => true
  | a :: x, b :: y => dsB a b && rowsB x y
  | _, _ => false
end
def obB : Ob → Ob → Bool
  | .var t a, .var u b => t == u && dsB a b
  | .slc t n a, .slc u m b => t == u && n == m && rowsB a b
  | .frz n a, .frz m b => n == m && rowsB a b
  | .frv a, .frv b => dsB a b
  | .dead, .dead => true
  | _, _ => false
def obsB : List Ob → List Ob → Bool
  | [], [] => true
  | a :: x, b :: y => obB a b && obsB x y
  | _, _ => false
def stB (a b : St) : Bool := dsB a.env b.env && obsB a.om b.om
/-! ### What data refer to -/
mutual
def refsD : D → List Nat → List Nat
  | .sl _ rows, a => refsRs rows a
  | .pel r, a => refsL r a
  | .agg r, a => refsL r a
  | .tup r, a => refsL r a
  | .ref k _, a => k :: a
  | .rel k _ _ _, a => k :: a
  | .own k, a => k :: a
  | .fn _ c, a => refsL c a
  | .ifc _ d, a => refsD d a
  | .yld k, a => k :: a
  | _, a => a
def refsL : List D → List Nat → List Nat
  | [], a => a
  | d :: l, a => refsD d (refsL l a)
def refsRs : List (List D) → List Nat → List Nat
  | [], a => a
  | r :: l, a => refsL r (refsRs l a)
end
def refsO : Ob → List Nat → List Nat
  | .var _ c, a => refsL c a
  | .slc _ _ rows, a => refsRs rows a
  | .lp _ _ _ _ _ env, a => refsL env a
  | _, a => a
/-- All from n on that are reached. -/
def reach (om : List Ob) (n : Nat) : Nat → List Nat → List Nat → List Nat
  | 0, _, seen => seen
  | _ + 1, [], seen => seen
  | f + 1, k :: todo, seen =>
    if k < n then reach om n f todo seen
    else if seen.contains k then reach om n f todo seen
    else match om[k]? with
      | some o => reach om n f (refsO o todo) (seen ++ [k])
      | none => reach om n f todo seen
/-! ### Numbered anew -/
def idxS (k : Nat) : List (Option Nat) → Nat → Option Nat
  | [], _ => none
  | x :: l, i => if x = some k then some i else idxS k l (i + 1)
def idx0 (ks : List (Option Nat)) (k : Nat) : Option Nat := idxS k ks 0
mutual
def rnD (ks : List (Option Nat)) : D → Option D
  | .v x => some (.v x)
  | .any => some .any
  | .sl sz rows => (rnRs ks rows).map (.sl sz)
  | .pel r => (rnL ks r).map .pel
  | .agg r => (rnL ks r).map .agg
  | .tup r => (rnL ks r).map .tup
  | .ref k o => (idx0 ks k).map fun j => .ref j o
  | .rel k a b c => (idx0 ks k).map fun j => .rel j a b c
  | .own k => (idx0 ks k).map .own
  | .fn f c => (rnL ks c).map (.fn f)
  | .ifc t d => (rnD ks d).map (.ifc t)
  | .yld k => (idx0 ks k).map .yld
def rnL (ks : List (Option Nat)) : List D → Option (List D)
  | [] => some []
  | d :: l =>
    match rnD ks d, rnL ks l with
    | some x, some y => some (x :: y)
    | _, _ => none
def rnRs (ks : List (Option Nat)) : List (List D) → Option (List (List D))
  | [] => some []
  | r :: l =>
    match rnL ks r, rnRs ks l with
    | some x, some y => some (x :: y)
    | _, _ => none
end
section
variable {om : List Ob} {F : Nat → Bool} {ks : List (Option Nat)}
def CvRs (om : List Ob) (F : Nat → Bool) (ks : List (Option Nat)) : List (List D) → List (List D) → Prop
  | [], [] => True
  | r :: l, r' :: l' => CvL om F ks r r' ∧ CvRs om F ks l l'
  | _, _ => False
theorem CvRs.len : ∀ {e e' : List (List D)}, CvRs om F ks e e' → e'.length = e.length
  | [], [], _ => rfl
  | d :: e, d' :: e', h => by simp only [List.length_cons]; rw [h.2.len]
theorem CvRs.get : ∀ {e e' : List (List D)}, CvRs om F ks e e' → ∀ (j : Nat) (d d' : List D), e[j]? = some d → e'[j]? = some d' → CvL om F ks d d'
  | [], [], _, j, d, d', h1, h2 => by simp at h1
  | d :: e, d' :: e', h, 0, x, x', h1, h2 => by
    simp only [List.getElem?_cons_zero, Option.some.injEq] at h1 h2
    subst h1; subst h2
    exact h.1
  | d :: e, d' :: e', h, j + 1, x, x', h1, h2 => by
    simp only [List.getElem?_cons_succ] at h1 h2
    exact h.2.get j x x' h1 h2
theorem CvRs.hr {e e' : List (List D)} (h : CvRs om F ks e e') : ∀ (i : Nat) (r r' : List D), e[i]? = some r → e'[i]? = some r' → r'.length = r.length := fun i r r' h1 h2 => (h.get i r r' h1 h2).len
theorem CvRs.hc {e e' : List (List D)} (h : CvRs om F ks e e') : ∀ (i : Nat) (r r' : List D) (j : Nat) (d d' : D), e[i]? = some r → e'[i]? = some r' → r[j]? = some d → r'[j]? = some d' → Cv om F ks d d' := fun i r r' j d d' h1 h2 h3 h4 => (h.get i r r' h1 h2).get j d d' h3 h4
def rnO (om : List Ob) (ks : List (Option Nat)) : Option Nat → Option Ob
  | none => none
  | some k =>
    match om[k]? with
    | some (.var ty c) => (rnL ks c).map (.var ty)
    | some (.slc ty sz rows) => (rnRs ks rows).map (.slc ty sz)
    | some (.lp ps a b st pe env) => (rnL ks env).map (.lp ps a b st pe)
    | some .dead => some .dead
    | _ => none
def rnOs (om : List Ob) (ks : List (Option Nat)) : List (Option Nat) → Option (List Ob)
  | [] => some []
  | x :: l =>
    match rnO om ks x, rnOs om ks l with
    | some o, some y => some (o :: y)
    | _, _ => none
end
def mapOut (f : D → Option D) : Out → Option Out
  | .ret d => (f d).map .ret
  | .panic d => (f d).map .panic
/-- The objects that are reached no longer are dropped, at a function's end. -/
def gc (n : Nat) (om : List Ob) (o : Out) : Out × List Ob :=
  if om.length ≤ n then (o, om)
  else
    let ks := (List.range n ++ reach om n 100000 (refsD o.d ((om.take n).foldr refsO [])) []).map some
    match ksOk n ks, rnOs om ks ks, mapOut (rnD ks) o with
    | true, some om', some o' => (o', om')
    | _, _, _ => (o, om)
/-! ### What a call hands back, frozen -/
mutual
def fzD (om : List Ob) (n : Nat) : Nat → D → Option D
  | 0, _ => none
  | f + 1, d =>
    match d with
    | .v x => some (.v x)
    | .any => some .any
    | .sl sz rows => (fzRs om n f rows).map (.sl sz)
    | .pel r => (fzL om n f r).map .pel
    | .agg r => (fzL om n f r).map .agg
    | .tup r => (fzL om n f r).map .tup
    | .fn g c => (fzL om n f c).map (.fn g)
    | .ifc t d => (fzD om n f d).map (.ifc t)
    | .own k =>
      if k < n then some (.own k)
      else match om[k]? with
        | some (.slc _ sz rows) => (fzRs om n f rows).map (.sl sz)
        | some (.frz sz rows) => (fzRs om n f rows).map (.sl sz)
        | _ => none
    | .ref k off =>
      if k < n then some (.ref k off)
      else match om[k]? with
        | some (.var _ c) => if off ≤ c.length then (fzL om n f (c.drop off)).map .pel else none
        | some (.frv c) => if off ≤ c.length then (fzL om n f (c.drop off)).map .pel else none
        | _ => none
    | .rel k a b c => if k < n then some (.rel k a b c) else none
    | .yld k => if k < n then some (.yld k) else none
def fzL (om : List Ob) (n : Nat) : Nat → List D → Option (List D)
  | 0, _ => none
  | _ + 1, [] => some []
  | f + 1, d :: l =>
    match fzD om n f d, fzL om n f l with
    | some x, some y => some (x :: y)
    | _, _ => none
def fzRs (om : List Ob) (n : Nat) : Nat → List (List D) → Option (List (List D))
  | 0, _ => none
  | _ + 1, [] => some []
  | f + 1, r :: l =>
    match fzL om n f r, fzRs om n f l with
    | some x, some y => some (x :: y)
    | _, _ => none
end
def rngE (n : Nat) : List (Option Nat) := (List.range n).map some
section
variable {om : List Ob} {n : Nat}
end
/-- Nothing is left but the caller's objects. -/
def fz (n : Nat) (r : Out × List Ob) : Option (Out × List Ob) :=
  if r.2.length ≤ n then some r
  else
    match rnOs r.2 (rngE n) (rngE n), mapOut (fzD r.2 n 10000) r.1 with
    | some om', some o' => some (o', om')
    | _, _ => none
theorem AC.fin {P : Program} {f : FuncId} {ds : List D} {om : List Ob} {r : Out × List Ob} {R : Out → List Ob → Prop} (h : AC P f ds om (exQ r)) (hf : Fin om r.2 r.1 R) : AC P f ds om R := by
  refine ⟨h.1, fun E vs hR hA => (h.2 E vs hR hA).mono ?_⟩
  rintro e w' ⟨E1, o, om1, ⟨rfl, rfl⟩, rfl, hx, hR1, ho⟩
  obtain ⟨E2, o2, om2, q1, q2, q3, q4, q5⟩ := hf E E1 e hR hx hR1 ho
  exact ⟨E2, o2, om2, q1, q2, q3, q4, q5⟩
end Go.Proofs.YtlejbkfefpfolaaDoor.AWP
/- An evaluator over data, proved right by the walk's rules: operations and regions. -/
namespace Go.Proofs.YtlejbkfefpfolaaDoor.AWP
open Go
/-! ### Operations -/
def outE (env : List D) (dst : Option Tmp) (r : Out × List Ob) : ER :=
  match r.1 with
  | .ret d => .go (St.put ⟨env, r.2⟩ dst d)
  | .panic d => .pan d ⟨env, r.2⟩
def evCall (P : Program) (T : Tab) (F : EV) (c : Call) (dst : Option Tmp) (s : St) : Option ER :=
  match c.callee with
  | .value f =>
    match evD s.env f with
    | .fn g cap => (F true g (c.args.toList.map (evD s.env) ++ cap) s.om).map (outE s.env dst)
    | .yld k => (F false k (c.args.toList.map (evD s.env)) s.om).map (outE s.env dst)
    | _ => none
  | .builtin .len =>
    match c.args.toList, c.argTypes.toList with
    | [x], [t] => (qLen T s.om t (evD s.env x)).map fun d => .go (s.put dst d)
    | _, _ => none
  | .builtin .append =>
    match c.args.toList, c.argTypes.toList with
    | [b, x], [t, t'] =>
      match T t with
      | some ⟨.slice e, _, _, _⟩ =>
        match T e with
        | some ei =>
          match strArg T t' (evD s.env x) with
          | some m =>
            if ei.size = 1 ∧ ei.bytes = 1 then
              match evD s.env b with
              | .v (.slice none 0 0) => if m.size ≤ 140737488355328 then some (.go (St.put ⟨s.env, s.om ++ [.slc e ei.size (strRows m)]⟩ dst (.own s.om.length))) else none
              | .own k =>
                match s.om[k]? with
                | some (.slc e' sz rows) => if e' = e ∧ sz = ei.size ∧ rows.length + m.size ≤ 140737488355328 then some (.go (St.put ⟨s.env, s.om.set k .dead ++ [.slc e' sz (rows ++ strRows m)]⟩ dst (.own s.om.length))) else none
                | _ => none
              | _ => none
            else none
          | none =>
          if t' = t ∧ 0 < ei.size ∧ 0 < ei.bytes then
            match evD s.env b with
            | .v (.slice none 0 0) =>
              match srcRows s.om ei.size (evD s.env x) with
              | some rows' => if (rows'.length) * ei.bytes ≤ 140737488355328 then some (.go (St.put ⟨s.env, s.om ++ [.slc e ei.size rows']⟩ dst (.own s.om.length))) else none
              | none => none
            | .own k =>
              match s.om[k]? with
              | some (.slc e' sz rows) =>
                if e' = e ∧ sz = ei.size then
                  match srcRows s.om sz (evD s.env x) with
                  | some rows' => if (rows.length + rows'.length) * ei.bytes ≤ 140737488355328 then some (.go (St.put ⟨s.env, s.om.set k .dead ++ [.slc e' sz (rows ++ rows')]⟩ dst (.own s.om.length))) else none
                  | none => none
                else none
              | _ => none
            | _ => none
          else none
        | none => none
      | _ => none
    | _, _ => none
  | .builtin .copy =>
    match c.args.toList, c.argTypes.toList with
    | [b, x], [t, t'] =>
      match T t with
      | some ⟨.slice e, _, _, _⟩ =>
        match T e with
        | some ei =>
          if ei.size = 1 then
            match evD s.env b with
            | .own k =>
              match s.om[k]? with
              | some (.slc e' 1 rows) =>
                match srcRows s.om 1 (evD s.env x) with
                | some rows' => some (.go (St.put ⟨s.env, s.om.set k (.slc e' 1 (rows'.take rows.length ++ rows.drop rows'.length))⟩ dst (.i (min rows'.length rows.length : Nat))))
                | none => none
              | _ => none
            | _ => none
          else none
        | none => none
      | _ => none
    | _, _ => none
  | .builtin .max =>
    match c.args.toList with
    | [x, y] =>
      match evD s.env x, evD s.env y with
      | .v (.int k a), .v (.int _ b) => some (.go (s.put dst (.v (.int k (if b > a then b else a)))))
      | _, _ => none
    | _ => none
  | .builtin .min =>
    match c.args.toList with
    | [x, y] =>
      match evD s.env x, evD s.env y with
      | .v (.int k a), .v (.int _ b) => some (.go (s.put dst (.v (.int k (if b < a then b else a)))))
      | _, _ => none
    | _ => none
  | _ => none
def evOp (P : Program) (T : Tab) (F : EV) (o : Op) (dst : Option Tmp) (s : St) : Option ER :=
  match o with
  | .move x => some (.go (s.put dst (evD s.env x)))
  | .assign x => some (.go (s.put dst (evD s.env x)))
  | .pick c a b =>
    match evD s.env c with
    | .v (.bool t) => some (.go (s.put dst (if t then evD s.env a else evD s.env b)))
    | _ => none
  | .load t x => (qLoad T s.om t (evD s.env x)).map fun d => .go (s.put dst d)
  | .fieldAddr t x f => (qFieldAddr T t (evD s.env x) f).map fun d => .go (s.put dst d)
  | .indexAddr t x i => (qIndexAddr T s.om t (evD s.env x) (evD s.env i)).map fun d => .go (s.put dst d)
  | .field t x f => (qField T t (evD s.env x) f).map fun d => .go (s.put dst d)
  | .index t x i => (qIndex T t (evD s.env x) (evD s.env i)).map fun d => .go (s.put dst d)
  | .slice t x lo hi none => (qSlice T s.om t (evD s.env x) (lo.map (evD s.env)) (hi.map (evD s.env))).map fun d => .go (s.put dst d)
  | .binOp op t x y _ => (qBin T op t (evD s.env x) (evD s.env y)).map fun d => .go (s.put dst d)
  | .unOp op _ x => (qUn op (evD s.env x)).map fun d => .go (s.put dst d)
  | .convert a b x => (qConvO T s.om a b (evD s.env x)).map fun d => .go (s.put dst d)
  | .extract x i =>
    match evD s.env x with
    | .tup c => (c[i]?).map fun d => .go (s.put dst d)
    | _ => none
  | .nilCheck x =>
    match evD s.env x with
    | .pel r => some (.go (s.put dst (.pel r)))
    | .ref k o => some (.go (s.put dst (.ref k o)))
    | .rel k z i j => some (.go (s.put dst (.rel k z i j)))
    | _ => none
  | .makeFunc (.func f) first cap => if first.size = 0 then some (.go (s.put dst (.fn f (cap.toList.map (evD s.env))))) else none
  | .makeInterface t x => if P.concrete t = true then some (.go (s.put dst (.ifc t (evD s.env x)))) else none
  | .build t parts => (qBuild T t (parts.toList.map fun p => (p.1, evD s.env p.2))).map fun d => .go (s.put dst d)
  | .buildSlice t len parts => (qRows T t len (parts.toList.map fun p => (p.1, evD s.env p.2))).map fun r => .go (St.put ⟨s.env, s.om ++ [.slc r.1 r.2.1 r.2.2]⟩ dst (.own s.om.length))
  | .makeSlice t l c =>
    match T t, evD s.env l, evD s.env c with
    | some ⟨.slice e, _, _, _⟩, .v (.int _ n), .v (.int _ m) =>
      match T e with
      | some ei => if 0 < ei.size ∧ 0 ≤ n ∧ n ≤ m ∧ ei.bytes * m ≤ 281474976710656 ∧ m ≤ 281474976710656 then some (.go (St.put ⟨s.env, s.om ++ [.slc e ei.size (List.replicate n.toNat (zeroD ei))]⟩ dst (.own s.om.length))) else none
      | none => none
    | _, _, _ => none
  | .box t x => (cellsOf (evD s.env x)).map fun c => .go (St.put ⟨s.env, s.om ++ [.var t c]⟩ dst (.ref s.om.length 0))
  | .alloc t => (T t).map fun i => .go (St.put ⟨s.env, s.om ++ [.var t (zeroD i)]⟩ dst (.ref s.om.length 0))
  | .store t a x => (qStore T s.om t (evD s.env a) (evD s.env x)).map fun om' => .go (St.put ⟨s.env, om'⟩ dst .any)
  | .call c => evCall P T F c dst s
  | .panic x =>
    match evD s.env x with
    | .ifc t d => some (.pan (.ifc t d) s)
    | _ => none
  | _ => none
section
variable {P : Program} {T : Tab} {F : EV}
/-! ### Quiet operations of a drawn head -/
def evQ (P : Program) (T : Tab) (F : EV) (o : Op) (env : List D) (om : List Ob) : Option D :=
  match o with
  | .move x => some (evD env x)
  | .assign x => some (evD env x)
  | .pick c a b =>
    match evD env c with
    | .v (.bool t) => some (if t then evD env a else evD env b)
    | _ => none
  | .load t x => qLoad T om t (evD env x)
  | .fieldAddr t x f => qFieldAddr T t (evD env x) f
  | .indexAddr t x i => qIndexAddr T om t (evD env x) (evD env i)
  | .field t x f => qField T t (evD env x) f
  | .index t x i => qIndex T t (evD env x) (evD env i)
  | .slice t x lo hi none => qSlice T om t (evD env x) (lo.map (evD env)) (hi.map (evD env))
  | .binOp op t x y _ => qBin T op t (evD env x) (evD env y)
  | .unOp op _ x => qUn op (evD env x)
  | .convert a b x => qConvO T om a b (evD env x)
  | .extract x i =>
    match evD env x with
    | .tup c => c[i]?
    | _ => none
  | .nilCheck x =>
    match evD env x with
    | .pel r => some (.pel r)
    | .ref k o => some (.ref k o)
    | .rel k z i j => some (.rel k z i j)
    | _ => none
  | .makeFunc (.func f) first cap => if first.size = 0 then some (.fn f (cap.toList.map (evD env))) else none
  | .makeInterface t x => if P.concrete t = true then some (.ifc t (evD env x)) else none
  | .build t parts => qBuild T t (parts.toList.map fun p => (p.1, evD env p.2))
  | .buildSlice t len parts => (qRows T t len (parts.toList.map fun p => (p.1, evD env p.2))).map fun r => .sl r.2.1 r.2.2
  | .makeSlice t l c =>
    match T t, evD env l, evD env c with
    | some ⟨.slice e, _, _, _⟩, .v (.int _ n), .v (.int _ m) =>
      match T e with
      | some ei => if 0 < ei.size ∧ 0 ≤ n ∧ n ≤ m ∧ ei.bytes * m ≤ 281474976710656 ∧ m ≤ 281474976710656 then some (.sl ei.size (List.replicate n.toNat (zeroD ei))) else none
      | none => none
    | _, _, _ => none
  | .call c =>
    match c.callee with
    | .value f =>
      match evD env f with
      | .fn g cap =>
        match (F true g (c.args.toList.map (evD env) ++ cap) om).bind (fz om.length) with
        | some (.ret d, om') => if obsB om' om then some d else none
        | _ => none
      | _ => none
    | .builtin .len =>
      match c.args.toList, c.argTypes.toList with
      | [x], [t] => qLen T om t (evD env x)
      | _, _ => none
    | _ => none
  | _ => none
/-! ### Rows of operations -/
def evOps (P : Program) (T : Tab) (F : EV) (reg : List LOp) : List LOp → St → Option ER
  | [], s => some (.go s)
  | o :: rest, s =>
    match o.guard with
    | none =>
      match evOp P T F o.op o.dst s with
      | some (.go s') => evOps P T F reg rest s'
      | some (.pan d s') => some (.pan d s')
      | none => none
    | some (j, want) =>
      match (reg[j]?).bind (·.dst) with
      | some t =>
        match gB (s.env.getD t .any) want with
        | some true =>
          match evOp P T F o.op o.dst s with
          | some (.go s') => evOps P T F reg rest s'
          | some (.pan d s') => some (.pan d s')
          | none => none
        | some false => evOps P T F reg rest (s.put o.dst (.v undef))
        | none => none
      | none => none
def evQs (P : Program) (T : Tab) (F : EV) (reg : List LOp) (om : List Ob) : List LOp → List D → Option (List D)
  | [], env => some env
  | o :: rest, env =>
    match o.guard with
    | none =>
      match evQ P T F o.op env om with
      | some d => evQs P T F reg om rest (putE env o.dst d)
      | none => none
    | some (j, want) =>
      match (reg[j]?).bind (·.dst) with
      | some t =>
        match gB (env.getD t .any) want with
        | some true =>
          match evQ P T F o.op env om with
          | some d => evQs P T F reg om rest (putE env o.dst d)
          | none => none
        | some false => evQs P T F reg om rest (putE env o.dst (.v undef))
        | none => none
      | none => none
def evQA (P : Program) (T : Tab) (F : EV) (reg : List LOp) (om : List Ob) : List LOp → List D → Option (List D)
  | [], env => some env
  | o :: rest, env =>
    match alOf o with
    | some t => if (T t).isSome = true then evQA P T F reg om rest (putE env o.dst .any) else none
    | none =>
      match o.guard with
      | none =>
        match evQ P T F o.op env om with
        | some d => evQA P T F reg om rest (putE env o.dst d)
        | none => none
      | some (j, want) =>
        match (reg[j]?).bind (·.dst) with
        | some t =>
          match gB (env.getD t .any) want with
          | some true =>
            match evQ P T F o.op env om with
            | some d => evQA P T F reg om rest (putE env o.dst d)
            | none => none
          | some false => evQA P T F reg om rest (putE env o.dst (.v undef))
          | none => none
        | none => none
/-- All orders of a tree come to the same. -/
def evTree (P : Program) (T : Tab) (F : EV) (reg : List LOp) : OT → St → Option St
  | .done, s => some s
  | .op i t, s =>
    match reg[i]? with
    | some o =>
      match evOp P T F o.op o.dst s with
      | some (.go s') => evTree P T F reg t s'
      | _ => none
    | none => none
  | .both a b, s =>
    match evTree P T F reg a s, evTree P T F reg b s with
    | some x, some y => if stB y x then some x else none
    | _, _ => none
/-! ### Regions in the text's order, with a few operations more -/
def OpX (P : Program) (o : LOp) (s : St) (K : St → Prop) (KP : D → St → Prop) : Prop :=
  ∀ (lo : Lo) (E : Env) (a : Act) (oo : Oper) (next : Act → World → Prop) (Q : Exit → Act → World → Prop), lop oo = o → Sat lo E s a → notDefer oo ∧ Done lo P oo a E s K KP next Q
theorem OpX.aop (hT : TabOk P T) {own : Bool} {o : LOp} {s : St} {K : St → Prop} {KP : D → St → Prop} (h : aop P T own o.op o.dst s K KP) : OpX P o s K KP := by
  intro lo E a oo next Q e hs
  subst e
  exact ⟨aop_notDefer h, aop_ok hT own hs h⟩
theorem OpX.o {o : LOp} {s : St} {K : St → Prop} {KP : D → St → Prop} (h : OpO P o s K) : OpX P o s K KP := by
  intro lo E a oo next Q e hs
  obtain ⟨h1, h2⟩ := h lo E a oo next Q e hs
  exact ⟨h1, fun r hd hn hp => h2 r hd hn fun E' s' y d hk => hk.elim⟩
def opsX (P : Program) (reg : List LOp) : List LOp → St → (St → Prop) → (D → St → Prop) → Prop
  | [], s, K, _ => K s
  | o :: rest, s, K, KP =>
    match o.guard with
    | none => OpX P o s (fun s' => opsX P reg rest s' K KP) KP
    | some (j, want) =>
      match (reg[j]?).bind (·.dst) with
      | some t =>
        match gB (s.env.getD t .any) want with
        | some true => OpX P o s (fun s' => opsX P reg rest s' K KP) KP
        | some false => opsX P reg rest (s.put o.dst (.v undef)) K KP
        | none => False
      | none => False
theorem opsX_ok {lo : Lo} {base : Nat} {r : Option Nat} {ops : Array Oper} {reg : List LOp} (hreg : ops.toList.map lop = reg) {Q : AX → St → Prop} {E0 : Env} {om0 : List Ob} (hb0 : base ≤ E0.n) :
    ∀ (m i : Nat) (s : St) (E : Env) (a : Act), i + m = reg.length → Ext E0 om0 E s.om → Sat lo E s a → opsX P reg (reg.drop i) s (Q .norm) (fun d => Q (.panic d)) →
      wpOpsIn (fence r) 0 P ops (Post lo base Q E0 om0) (List.range' i m) a E.w := by
  have hlen : ops.size = reg.length := by rw [← hreg]; simp
  intro m
  induction m with
  | zero =>
    intro i s E a hi hx hs h
    rw [List.drop_eq_nil_of_le (by omega)] at h
    simp only [opsX] at h
    simp only [List.range'_zero, wpOpsIn]
    exact ⟨E, .norm, s, h, trivial, rfl, hx.toB hb0, hs⟩
  | succ m ih =>
    intro i s E a hi hx hs h
    have hlt : i < reg.length := by omega
    have hlt' : i < ops.size := by omega
    rw [List.drop_eq_getElem_cons hlt] at h
    have ho : ops[i]? = some ops[i] := Array.getElem?_eq_getElem hlt'
    have hl : reg[i] = lop ops[i] := by
      have : reg[i]? = some (lop ops[i]) := by rw [← hreg]; simp [ho]
      rw [List.getElem?_eq_getElem hlt] at this
      simpa using this
    rw [List.range'_succ]
    simp only [wpOpsIn, ho]
    simp only [opsX, hl] at h
    have run : OpX P (lop ops[i]) s (fun s' => opsX P reg (reg.drop (i + 1)) s' (Q .norm) (fun d => Q (.panic d))) (fun d => Q (.panic d)) →
        ops[i].wpIn (fence r) 0 P a E.w (wpOpsIn (fence r) 0 P ops (Post lo base Q E0 om0) (List.range' (i + 1) m)) (Post lo base Q E0 om0) := by
      intro h
      obtain ⟨hnd, hdone⟩ := h lo E a ops[i] (wpOpsIn (fence r) 0 P ops (Post lo base Q E0 om0) (List.range' (i + 1) m)) (Post lo base Q E0 om0) rfl hs
      refine hdone r hnd ?_ ?_
      · intro E' s' a' hk hx' hs'
        exact ih (i + 1) s' E' a' (by omega) (hx.trans hx') hs' hk
      · intro E' s' y d hk hx' hs' hd
        exact ⟨E', .panic d, s', hk, ⟨y, rfl, hd⟩, rfl, (hx.trans hx').toB hb0, hs'⟩
    split at h
    · rename_i hg
      have : Region.wanted ops[i] (yielded ops a.tmps) = true := by unfold Region.wanted; rw [show ops[i].guard = none from hg]
      rw [if_pos this]
      exact run h
    · rename_i j want hg
      split at h
      · rename_i t ht
        split at h
        · rename_i hb
          have hw := wanted_ok hreg hs (show ops[i].guard = some (j, want) from hg) ht hb
          rw [if_pos hw]
          exact run h
        · rename_i hb
          have hw := wanted_ok hreg hs (show ops[i].guard = some (j, want) from hg) ht hb
          rw [if_neg (by rw [hw]; simp)]
          refine ⟨fun _ _ => trivial, ?_⟩
          refine ih (i + 1) _ E _ (by omega) ?_ (hs.put (Ext.refl E s.om) hs.rel (.v undef) _) h
          show Ext E0 om0 E (s.put ops[i].dst (.v undef)).om
          cases ops[i].dst <;> exact hx
        · exact h.elim
      · exact h.elim
theorem AW.regionX {base : Nat} {id : Nat} {ops : Array Oper} {Q : AX → St → Prop} {s : St} (reg : List LOp) (hreg : ops.toList.map lop = reg) (h : opsX P reg reg s (Q .norm) (fun d => Q (.panic d))) : AW base P (.region id ops false) Q s := by
  intro r lo E a hr hb hs
  have hlen : ops.size = reg.length := by rw [← hreg]; simp
  refine wpIn_region ?_
  rw [List.range_eq_range', hlen]
  exact opsX_ok hreg hb reg.length 0 s E a (by omega) (Ext.refl _ _) hs (by simpa using h)
/-- Operations that the walk doesn't know. -/
def evX (P : Program) (o : LOp) (s : St) : Option St :=
  match o.guard, o.op with
  | none, .typeAssert x xt t true =>
    match evD s.env x with
    | .ifc t' d => if t' = t ∧ P.concrete t = true then some (s.put o.dst (.tup [d, .b true])) else none
    | _ => none
  | none, .binOp .eql ty x (.const .nilIface) _ =>
    match P.underlying ty with
    | some (.interface _) =>
      match evD s.env x with
      | .v .nilIface => some (s.put o.dst (.b true))
      | .ifc _ _ => some (s.put o.dst (.b false))
      | _ => none
    | _ => none
  | _, _ => none
def evOpX (P : Program) (T : Tab) (F : EV) (o : LOp) (s : St) : Option ER :=
  match evOp P T F o.op o.dst s with
  | some r => some r
  | none => (evX P o s).map .go
def evOpsX (P : Program) (T : Tab) (F : EV) (reg : List LOp) : List LOp → St → Option ER
  | [], s => some (.go s)
  | o :: rest, s =>
    match o.guard with
    | none =>
      match evOpX P T F o s with
      | some (.go s') => evOpsX P T F reg rest s'
      | some (.pan d s') => some (.pan d s')
      | none => none
    | some (j, want) =>
      match (reg[j]?).bind (·.dst) with
      | some t =>
        match gB (s.env.getD t .any) want with
        | some true =>
          match evOpX P T F o s with
          | some (.go s') => evOpsX P T F reg rest s'
          | some (.pan d s') => some (.pan d s')
          | none => none
        | some false => evOpsX P T F reg rest (s.put o.dst (.v undef))
        | none => none
      | none => none
end
end Go.Proofs.YtlejbkfefpfolaaDoor.AWP
/- A slice of one's own is cut short; its end is cleared. -/
namespace Go.Proofs.YtlejbkfefpfolaaDoor.AWP
open Go
section
variable {P : Program} {T : Tab} {E : Env} {om : List Ob}
theorem run_sliceOwn (hT : TabOk P T) {t e : Nat} {i ei : TI} (ht : T t = some i) (hk : i.kd = .slice e) (he : T e = some ei) {a : Option Addr} {len cap : Nat} {lo hi : Option D} {ylo yhi : Option Value} {l h : Nat}
    (hlo : nat? lo 0 = some l) (hhi : nat? hi len = some h) (h1 : ∀ d, lo = some d → ∃ v, ylo = some v ∧ Rd E d v) (h1' : lo = none → ylo = none)
    (h2 : ∀ d, hi = some d → ∃ v, yhi = some v ∧ Rd E d v) (h2' : hi = none → yhi = none) (hle : l ≤ h) (hc : h ≤ cap) (hlc : len ≤ cap) :
    (Instr.sliceAt t (.slice a len cap) ylo yhi none).run P E.w = .ok (.slice (if cap = l then a else a.map (·.add (l * ei.size))) (h - l) (cap - l)) E.w := by
  have hu := (hT _ _ ht).slice hk
  unfold Instr.sliceAt
  simp only [Sem.run_bind, run_underlying hu, Result.andThen_ok]
  unfold Instr.slice
  simp only [Sem.run_bind, run_underlying hu, Result.andThen_ok, bounds_ok (P := P) (w := E.w) (isSl := true) hlo hhi h1 h1' h2 h2' hle hc hlc, (hT _ _ he).sizeOf, Sem.run_pure]
/-- Its first ones alone. -/
theorem OpX.cut (hT : TabOk P T) {dst : Option Tmp} {t e : Nat} {i ei : TI} {x y : Operand} {k sz ty h : Nat} {ik : IntKind} {rows : List (List D)} {s : St} {K : St → Prop} {KP : D → St → Prop} (ht : T t = some i) (hk : i.kd = .slice e) (he : T e = some ei)
    (hx : evD s.env x = .own k) (hy : evD s.env y = .v (.int ik h)) (ho : s.om[k]? = some (.slc ty sz rows)) (hh : h ≤ rows.length)
    (hK : K (St.put ⟨s.env, s.om.set k .dead ++ [.slc ty sz (rows.take h)]⟩ dst (.own s.om.length))) : OpX P ⟨dst, .slice t x none (some y) none, none⟩ s K KP := by
  intro lo E a oo next Q e0 hs
  simp only [lop, LOp.mk.injEq] at e0
  obtain ⟨d0, q0, g0⟩ := e0
  refine ⟨?_, ?_⟩
  · intro c hc
    rw [q0] at hc
    cases hc
  have hxv := hs.ev x
  rw [hx] at hxv
  have hbe : a.eval x = E.g k := by
    generalize a.eval x = z at hxv
    cases hxv with
    | own hk => rfl
  have hyv := hs.ev y
  rw [hy] at hyv
  obtain ⟨h0, hss, hh'⟩ := hs.rel.ob k _ ho
  obtain ⟨hR', hsub⟩ := hs.rel.kill k
  have hl : (s.om.set k Ob.dead).length = s.om.length := by simp
  have hexec : execOp a.eval oo = (do pure (.value (← Instr.sliceAt t (a.eval x) none (some (a.eval y)) none)) : Sem Next) := by
    simp only [execOp, q0, Option.map_none, Option.map_some]
  have hnat : nat? (some (D.v (.int ik h))) 0 = some h := by simp [nat?]
  have hargs : ∀ d, (some (D.v (.int ik h))) = some d → ∃ v, some (a.eval y) = some v ∧ Rd E d v := fun d hd => by cases hd; exact ⟨_, rfl, hyv⟩
  have hE : Eff P (Instr.sliceAt t (a.eval x) none (some (a.eval y)) none) E s.om (.own s.om.length) (s.om.set k .dead ++ [.slc ty sz (rows.take h)]) := by
    rw [hbe]
    rcases hh' with ⟨hg, hr⟩ | ⟨b, cs, cap, q1, q2, q3, q4, q5, q6, q7⟩
    · subst hr
      simp only [List.length_nil, Nat.le_zero_eq] at hh
      subst hh
      have hrun := run_sliceOwn (E := E) hT ht hk he (a := none) (len := 0) (cap := 0) (lo := none) (hi := some (D.v (.int ik (0 : Nat)))) (ylo := none) (yhi := some (a.eval y)) (l := 0) (h := 0) rfl (by simp [nat?]) (by simp) (fun _ => rfl) hargs (by simp) (Nat.le_refl _) (Nat.le_refl _) (Nat.le_refl _)
      rw [hg]
      obtain ⟨p1, p2, p3, _⟩ := push_ok' hs.rel hR' hsub none (fun b hb' => by cases hb') (.slice none 0 0) E.w (.slc ty sz []) rfl (Nat.le_refl _) rfl rfl rfl (fun b _ _ => rfl)
        (fun b _ hb' => by simp [hb] at hb') (fun hx => ⟨h0, by simp, .inl ⟨by simp [Env.push], rfl⟩⟩)
      rw [hl] at p3
      exact ⟨E.push (.slice none 0 0) E.w, _, hrun, p1, p2, p3⟩
    · have hrun := run_sliceOwn (E := E) hT ht hk he (a := some ⟨b, 0, none⟩) (len := rows.length) (cap := cap) (lo := none) (hi := some (D.v (.int ik h))) (ylo := none) (yhi := some (a.eval y)) (l := 0) (h := h) rfl (by simp [nat?]) (by simp) (fun _ => rfl) hargs (by simp) (Nat.zero_le _) (by omega) q5
      have hv : (if cap = 0 then some (⟨b, 0, none⟩ : Addr) else (some (⟨b, 0, none⟩ : Addr)).map (·.add (0 * ei.size))) = some ⟨b, 0, none⟩ := by
        split
        · rfl
        · simp [Addr.add]
      rw [hv, Nat.sub_zero, Nat.sub_zero] at hrun
      rw [q1]
      have hgb : hb (E.g k) = some b := by rw [q1]; rfl
      obtain ⟨p1, p2, p3, _⟩ := push_ok' hs.rel hR' hsub (some b) (fun b' hb' => by cases hb'; exact hs.rel.killed ho rfl hgb) (.slice (some ⟨b, 0, none⟩) h cap) E.w (.slc ty sz (rows.take h)) rfl (Nat.le_refl _) rfl rfl rfl (fun b _ _ => rfl)
        (fun b' _ hb' => by simp only [hb, Option.some.injEq] at hb'; exact .inr (by rw [hb']))
        (fun hx => ⟨h0, fun r hr => hss r (List.mem_of_mem_take hr), .inr ⟨b, cs, cap, by simp [Env.push]; omega, q2, q3, q4, by simp; omega, q6, fun j d hj => by
          have hj' : rows.flatten[j]? = some d := by
            have : (rows.take h).flatten ++ (rows.drop h).flatten = rows.flatten := by rw [← List.flatten_append, List.take_append_drop]
            rw [← this, List.getElem?_append_left (List.getElem?_eq_some_iff.1 hj).1]
            exact hj
          obtain ⟨u, u1, u2, u3⟩ := q7 j d hj'
          exact ⟨u, u1, u2, u3.ext hs.rel hx⟩⟩⟩)
      rw [hl] at p3
      exact ⟨E.push (.slice (some ⟨b, 0, none⟩) h cap) E.w, _, hrun, p1, p2, p3⟩
  rw [← d0] at hK
  exact Done.eff hs hexec hE hK
/-! ### Cleared -/
theorem obPut_app : ∀ (c d : List D) (o : Ob) (p : Nat), obPut o p (c ++ d) = (obPut o p c).bind fun o' => obPut o' (p + c.length) d
  | [], d, o, p => by simp [obPut]
  | x :: c, d, o, p => by
    simp only [List.cons_append, obPut]
    cases obSet 0 p x o with
    | none => rfl
    | some o' => simp only [obPut_app c d o' (p + 1), List.length_cons]; congr 1; funext o2; congr 1; omega
theorem obPut_anys {ty sz : Nat} : ∀ (m l : Nat) (rows : List (List D)), (∀ r ∈ rows, r.length = sz) → l + m = rows.length → obPut (.slc ty sz rows) (l * sz) (List.replicate (m * sz) .any) = some (.slc ty sz (rows.take l ++ List.replicate m (List.replicate sz .any)))
  | 0, l, rows, hr, hl => by
    have : rows.take l = rows := List.take_of_length_le (by omega)
    simp [obPut, this]
  | m + 1, l, rows, hr, hl => by
    have e : List.replicate ((m + 1) * sz) D.any = List.replicate sz .any ++ List.replicate (m * sz) .any := by
      rw [List.replicate_append_replicate]; congr 1; rw [Nat.succ_mul]; omega
    have hrow : ∀ r ∈ rows.set l (List.replicate sz D.any), r.length = sz := fun r hr' => by
      rcases List.mem_or_eq_of_mem_set hr' with h | h
      · exact hr r h
      · rw [h]; simp
    rw [e, obPut_app, obPut_slc (by omega) hr (by simp), Option.bind_some, List.length_replicate, show l * sz + sz = (l + 1) * sz by rw [Nat.succ_mul], obPut_anys m (l + 1) _ hrow (by simp; omega)]
    congr 2
    rw [List.take_set, List.take_add_one, List.getElem?_eq_getElem (by omega), Option.toList_some, List.set_append_right _ _ (by simp; omega), List.length_take, Nat.min_eq_left (by omega), Nat.sub_self, List.set_cons_zero, List.append_assoc]
    rfl
theorem run_clearOwn (hT : TabOk P T) (hR : Rel E om) {t e : Nat} {i ei : TI} (ht : T t = some i) (hk : i.kd = .slice e) (he : T e = some ei) {k l ty cap b tt : Nat} {cs : Array Value} {rows : List (List D)}
    (ho : om[k]? = some (.slc ty ei.size rows)) (hg : E.g k = .slice (some ⟨b, 0, none⟩) rows.length cap) (hl : l ≤ rows.length) :
    ∃ E', (Builtin.clear_ #[t] tt #[.slice (if cap = l then some ⟨b, 0, none⟩ else (some (⟨b, 0, none⟩ : Addr)).map (·.add (l * ei.size))) (rows.length - l) (cap - l)]).run P E.w = .ok (.tuple #[]) E'.w ∧ Ext E om E' (om.set k (.slc ty ei.size (rows.take l ++ List.replicate (rows.length - l) (List.replicate ei.size .any)))) ∧ Rel E' (om.set k (.slc ty ei.size (rows.take l ++ List.replicate (rows.length - l) (List.replicate ei.size .any)))) := by
  have hu := (hT _ _ ht).slice hk
  obtain ⟨_, hss, _⟩ := hR.ob k _ ho
  by_cases h0 : rows.length - l = 0
  · have er : rows.take l ++ List.replicate (rows.length - l) (List.replicate ei.size D.any) = rows := by
      rw [h0, List.take_of_length_le (by omega)]; simp
    rw [er, set_same ho, h0]
    refine ⟨E, ?_, Ext.refl _ _, hR⟩
    split <;> simp [Builtin.clear_, run_underlying hu]
  · have hcap : ¬ cap = l := by
      have := hR.ob k _ ho
      obtain ⟨_, _, hh | ⟨b', cs', cap', q1, _, _, _, q5, _⟩⟩ := this
      · rw [hh.2] at h0; simp at h0
      · rw [q1] at hg; cases hg; omega
    rw [if_neg hcap]
    obtain ⟨z, hz1, hz2, _⟩ := (hT _ _ he).zeroValue (w := E.w)
    have hzs : z.cells.size = ei.size := by rw [← (hT _ _ he).len, ← hz2]; simp
    have hsize : (Builtin.zeroCells z.cells (rows.length - l)).toList.length = (rows.length - l) * ei.size := by simp [Builtin.zeroCells, hzs]
    have hone : ∀ v ∈ (Builtin.zeroCells z.cells (rows.length - l)).toList, v.oneCell' = true := by
      intro v hv
      simp only [Builtin.zeroCells, Array.toList_map, List.mem_map] at hv
      obtain ⟨q, hq, rfl⟩ := hv
      have hq' : q < (rows.length - l) * z.cells.size := by simpa using hq
      have hpos : 0 < z.cells.size := by
        rcases Nat.eq_zero_or_pos z.cells.size with h | h
        · rw [h] at hq'; simp at hq'
        · exact h
      have hlt : q % z.cells.size < z.cells.size := Nat.mod_lt _ hpos
      refine (hT _ _ he).one _ ?_
      rw [← hz2]
      rw [getElem!_pos z.cells _ hlt]
      simp
    obtain ⟨E', p1, p2, p3⟩ := storeCells_ok (P := P) (List.replicate ((rows.length - l) * ei.size) D.any) (Builtin.zeroCells z.cells (rows.length - l)).toList 0 E om k b (l * ei.size) (.slc ty ei.size rows) _ hR ho rfl (by rw [hg]; rfl) (obPut_anys (rows.length - l) l rows hss (by omega)) (by rw [hsize]; simp)
      (fun j d hj => by
        have hj' := (List.getElem?_eq_some_iff.1 hj).1
        simp only [List.length_replicate] at hj'
        have hlt : j < (Builtin.zeroCells z.cells (rows.length - l)).toList.length := by rw [hsize]; exact hj'
        rw [List.getElem?_replicate_of_lt hj'] at hj
        cases hj
        exact ⟨_, List.getElem?_eq_getElem hlt, hone _ (List.getElem_mem hlt), .any _⟩)
    refine ⟨E', ?_, p2, p3⟩
    have ha : (some (⟨b, 0, none⟩ : Addr)).map (·.add (l * ei.size)) = some ⟨b, l * ei.size, none⟩ := by simp [add_mk]
    rw [ha]
    obtain ⟨m, hm⟩ : ∃ m, rows.length - l = m + 1 := ⟨rows.length - l - 1, by omega⟩
    rw [hm] at p1 ⊢
    simp only [Builtin.clear_]
    simp [run_underlying hu, hz1, p1]
/-- The end of a slice of one's own is cleared. -/
theorem AW.regionClr (hT : TabOk P T) {base id : Nat} {ops : Array Oper} {Q : AX → St → Prop} {s : St} {x y : Operand} {ta ti ts t e k l ty : Nat} {ik : IntKind} {dd : Option Tmp} {i ei : TI} {rows : List (List D)}
    (hops : ops.toList.map lop = [⟨some ta, .move x, none⟩, ⟨some ti, .move y, none⟩, ⟨some ts, .slice t (.tmp ta) (some (.tmp ti)) none none, none⟩, ⟨dd, .call ⟨.builtin .clear, #[.tmp ts], #[t]⟩, none⟩])
    (ht : T t = some i) (hk : i.kd = .slice e) (he : T e = some ei) (hne : ta ≠ ti) (hta : ta < s.env.length) (hti : ti < s.env.length) (hts0 : ts < s.env.length) (hx : evD s.env x = .own k) (hy : evD (s.env.set ta (.own k)) y = .v (.int ik l)) (ho : s.om[k]? = some (.slc ty ei.size rows)) (hl : l ≤ rows.length)
    (h : Q .norm (St.put ⟨((s.env.set ta (.own k)).set ti (.v (.int ik l))).set ts .any, s.om.set k (.slc ty ei.size (rows.take l ++ List.replicate (rows.length - l) (List.replicate ei.size .any)))⟩ dd .any)) : AW base P (.region id ops false) Q s := by
  obtain ⟨o0, o1, o2, o3, rfl, e0, e1, e2, e3⟩ : ∃ o0 o1 o2 o3, ops = #[o0, o1, o2, o3] ∧ lop o0 = ⟨some ta, .move x, none⟩ ∧ lop o1 = ⟨some ti, .move y, none⟩ ∧ lop o2 = ⟨some ts, .slice t (.tmp ta) (some (.tmp ti)) none none, none⟩ ∧ lop o3 = ⟨dd, .call ⟨.builtin .clear, #[.tmp ts], #[t]⟩, none⟩ := by
    obtain ⟨L⟩ := ops
    match L, hops with
    | [a, b, c, d], hops =>
      simp only [List.map_cons, List.map_nil, List.cons.injEq, and_true] at hops
      exact ⟨a, b, c, d, rfl, hops.1, hops.2.1, hops.2.2.1, hops.2.2.2⟩
    | [], hops => cases hops
    | [_], hops => simp at hops
    | [_, _], hops => simp at hops
    | [_, _, _], hops => simp at hops
    | _ :: _ :: _ :: _ :: _ :: _, hops => simp at hops
  intro r lo E a hr hbase hs
  refine wpIn_region ?_
  rw [show List.range (#[o0, o1, o2, o3] : Array Oper).size = [0, 1, 2, 3] from rfl]
  simp only [lop, LOp.mk.injEq] at e0 e1 e2 e3
  obtain ⟨d0, q0, g0⟩ := e0
  obtain ⟨d1, q1, g1⟩ := e1
  obtain ⟨d2, q2, g2⟩ := e2
  obtain ⟨d3, q3, g3⟩ := e3
  have w0 : Region.wanted o0 (yielded #[o0, o1, o2, o3] a.tmps) = true := by unfold Region.wanted; rw [g0]
  unfold wpOpsIn
  show if Region.wanted o0 (yielded #[o0, o1, o2, o3] a.tmps) = true then _ else _
  rw [if_pos w0]
  have ha0 : aop P T false o0.op o0.dst s (fun s' => s' = s.put (some ta) (.own k)) (fun _ _ => False) := by rw [q0, d0]; simp [aop, hx]
  refine aop_ok hT false hs ha0 r (aop_notDefer ha0) ?_ (fun E' s' y d hk _ _ _ => hk.elim)
  rintro E1 s1 a1 rfl hx1 hs1
  have w1 : Region.wanted o1 (yielded #[o0, o1, o2, o3] a1.tmps) = true := by unfold Region.wanted; rw [g1]
  unfold wpOpsIn
  show if Region.wanted o1 (yielded #[o0, o1, o2, o3] a1.tmps) = true then _ else _
  rw [if_pos w1]
  have ha1 : aop P T false o1.op o1.dst (s.put (some ta) (.own k)) (fun s' => s' = (s.put (some ta) (.own k)).put (some ti) (.v (.int ik l))) (fun _ _ => False) := by
    rw [q1, d1]
    have : evD (s.put (some ta) (.own k)).env y = .v (.int ik l) := hy
    simp only [aop, this]
  refine aop_ok hT false hs1 ha1 r (aop_notDefer ha1) ?_ (fun E' s' y d hk _ _ _ => hk.elim)
  rintro E2 s2 a2 rfl hx2 hs2
  have om2 : ((s.put (some ta) (.own k)).put (some ti) (.v (.int ik l))).om = s.om := rfl
  have ho2 : ((s.put (some ta) (.own k)).put (some ti) (.v (.int ik l))).om[k]? = some (.slc ty ei.size rows) := ho
  have va : a2.tmps.getD ta undef = E2.g k := by
    have := hs2.rd ta
    have e : ((s.put (some ta) (.own k)).put (some ti) (.v (.int ik l))).env.getD ta .any = .own k := by
      show ((s.env.set ta (.own k)).set ti _).getD ta .any = _
      simp [List.getD_eq_getElem?_getD, List.getElem?_set, hta, hne, Ne.symm hne]
    rw [e] at this
    generalize a2.tmps.getD ta undef = z at this
    cases this with
    | own hk => rfl
  have vi : a2.tmps.getD ti undef = .int ik l := by
    have := hs2.rd ti
    have e : ((s.put (some ta) (.own k)).put (some ti) (.v (.int ik l))).env.getD ti .any = .v (.int ik l) := by
      show ((s.env.set ta (.own k)).set ti _).getD ti .any = _
      simp [List.getD_eq_getElem?_getD, List.getElem?_set, hti]
    rw [e] at this
    exact this.v_inv
  have w2 : Region.wanted o2 (yielded #[o0, o1, o2, o3] a2.tmps) = true := by unfold Region.wanted; rw [g2]
  have hx02 := hx1.trans hx2
  have hu := (hT _ _ ht).slice hk
  obtain ⟨v, hrun2, hv⟩ : ∃ v, (Instr.sliceAt t (E2.g k) (some (.int ik l)) none none).run P E2.w = .ok v E2.w ∧
      ((rows = [] ∧ v = .slice none 0 0) ∨ ∃ b cap, E2.g k = .slice (some ⟨b, 0, none⟩) rows.length cap ∧ v = .slice (if cap = l then some ⟨b, 0, none⟩ else (some (⟨b, 0, none⟩ : Addr)).map (·.add (l * ei.size))) (rows.length - l) (cap - l)) := by
    have hbd : ∀ d, (some (D.v (.int ik l))) = some d → ∃ v, some (Value.int ik l) = some v ∧ Rd E2 d v := fun d hd => by cases hd; exact ⟨_, rfl, .v _⟩
    obtain ⟨h0, hss, ⟨hg, hr0⟩ | ⟨b, cs, cap, p1, p2, p3, p4, p5, p6, p7⟩⟩ := hs2.rel.ob k _ ho2
    · subst hr0
      simp only [List.length_nil, Nat.le_zero_eq] at hl
      subst hl
      have hrun := run_sliceOwn (E := E2) hT ht hk he (a := none) (len := 0) (cap := 0) (lo := some (D.v (.int ik (0 : Nat)))) (hi := none) (ylo := some (.int ik (0 : Nat))) (yhi := none) (l := 0) (h := 0) (by simp [nat?]) rfl hbd (by simp) (by simp) (fun _ => rfl) (Nat.le_refl _) (Nat.le_refl _) (Nat.le_refl _)
      rw [hg]
      exact ⟨_, hrun, .inl ⟨rfl, by simp⟩⟩
    · have hrun := run_sliceOwn (E := E2) hT ht hk he (a := some ⟨b, 0, none⟩) (len := rows.length) (cap := cap) (lo := some (D.v (.int ik l))) (hi := none) (ylo := some (.int ik l)) (yhi := none) (l := l) (h := rows.length) (by simp [nat?]) rfl hbd (by simp) (by simp) (fun _ => rfl) hl p5 p5
      rw [p1]
      exact ⟨_, hrun, .inr ⟨b, cap, rfl, rfl⟩⟩
  unfold wpOpsIn
  show if Region.wanted o2 (yielded #[o0, o1, o2, o3] a2.tmps) = true then _ else _
  rw [if_pos w2]
  have hex2 : execOp a2.eval o2 = (do pure (.value (← Instr.sliceAt t (E2.g k) (some (.int ik l)) none none)) : Sem Next) := by
    simp only [execOp, q2, Option.map_none, Option.map_some, Act.eval, va, vi]
  have hD2 : Done lo P o2 a2 E2 ((s.put (some ta) (.own k)).put (some ti) (.v (.int ik l))) (fun s' => s' = ((s.put (some ta) (.own k)).put (some ti) (.v (.int ik l))).put (some ts) (.v v)) (fun _ _ => False)
      (wpOpsIn (fence r) 0 P #[o0, o1, o2, o3] (Post lo base Q E s.om) [3]) (Post lo base Q E s.om) := Done.value hs2 hex2 hrun2 (.v v) (by rw [d2])
  refine hD2 r ?_ ?_ (fun E' s' y d hk _ _ _ => hk.elim)
  · intro c hc
    rw [q2] at hc
    cases hc
  rintro E2' s3 a3 rfl hx3' hs3
  have ho3 : (((s.put (some ta) (.own k)).put (some ti) (.v (.int ik l))).put (some ts) (.v v)).om[k]? = some (.slc ty ei.size rows) := ho
  have hk2 : k < E2.n := by
    have h1 : k < s.om.length := (List.getElem?_eq_some_iff.1 ho).1
    have h2 := hs2.rel.len
    rw [om2] at h2
    omega
  have vs : a3.tmps.getD ts undef = v ∨ ts ≥ a3.tmps.size := by
    by_cases hts : ts < a3.tmps.size
    · left
      have := hs3.rd ts
      have hsz := hs3.size
      have e : (((s.put (some ta) (.own k)).put (some ti) (.v (.int ik l))).put (some ts) (.v v)).env.getD ts .any = .v v := by
        show (((s.env.set ta (.own k)).set ti _).set ts _).getD ts .any = _
        have : ts < s.env.length := by
          have h3 : (((s.env.set ta (.own k)).set ti (D.v (.int ik l))).set ts (D.v v)).length = s.env.length := by simp
          have : a3.tmps.size = (((s.env.set ta (.own k)).set ti (D.v (.int ik l))).set ts (D.v v)).length := hsz
          omega
        simp [List.getD_eq_getElem?_getD, List.getElem?_set, this]
      rw [e] at this
      exact this.v_inv
    · exact .inr (by omega)
  have hts : ts < a3.tmps.size := by
    have : a3.tmps.size = (((s.env.set ta (.own k)).set ti (D.v (.int ik l))).set ts (D.v v)).length := hs3.size
    simp at this
    omega
  have vs : a3.tmps.getD ts undef = v := vs.resolve_right (by omega)
  obtain ⟨E4, hrun3, hx4, hR4⟩ : ∃ E4, (Builtin.clear_ #[t] o3.type #[v]).run P E2'.w = .ok (.tuple #[]) E4.w ∧
      Ext E2' s.om E4 (s.om.set k (.slc ty ei.size (rows.take l ++ List.replicate (rows.length - l) (List.replicate ei.size .any)))) ∧ Rel E4 (s.om.set k (.slc ty ei.size (rows.take l ++ List.replicate (rows.length - l) (List.replicate ei.size .any)))) := by
    rcases hv with ⟨hr0, rfl⟩ | ⟨b, cap, hg, rfl⟩
    · subst hr0
      simp only [List.length_nil, Nat.le_zero_eq] at hl
      subst hl
      refine ⟨E2', by simp [Builtin.clear_, run_underlying hu], ?_, ?_⟩
      · simp only [List.take_nil, List.length_nil, Nat.sub_self, List.replicate_zero, List.append_nil]
        rw [set_same ho]; exact Ext.refl _ _
      · simp only [List.take_nil, List.length_nil, Nat.sub_self, List.replicate_zero, List.append_nil]
        rw [set_same ho]; exact hs3.rel
    · exact run_clearOwn (cs := #[]) hT hs3.rel ht hk he ho3 ((hx3'.g k hk2).trans hg) hl
  have w3 : Region.wanted o3 (yielded #[o0, o1, o2, o3] a3.tmps) = true := by unfold Region.wanted; rw [g3]
  unfold wpOpsIn
  show if Region.wanted o3 (yielded #[o0, o1, o2, o3] a3.tmps) = true then _ else _
  rw [if_pos w3]
  have hex3 : execOp a3.eval o3 = (do pure (.value (← Builtin.clear_ #[t] o3.type #[v])) : Sem Next) := by
    have : a3.eval (.tmp ts) = v := vs
    simp only [execOp, q3, resolve]
    simp [invoke, builtin, this]
  have hs3' : Sat lo E2' ⟨((s.env.set ta (.own k)).set ti (.v (.int ik l))).set ts .any, s.om⟩ a3 := ⟨hs3.rel, hs3.defs, by have := hs3.size; simpa [St.put] using this, fun u => by
    have := hs3.rd u
    show Rd E2' ((((s.env.set ta (.own k)).set ti (.v (.int ik l))).set ts .any).getD u .any) _
    by_cases hu' : u = ts
    · have e : (((s.env.set ta (.own k)).set ti (D.v (.int ik l))).set ts .any).getD u .any = .any := by
        rw [hu', List.getD_eq_getElem?_getD, List.getElem?_set, if_pos rfl]
        split <;> rfl
      rw [e]
      exact .any _
    · have e : (((s.env.set ta (.own k)).set ti (D.v (.int ik l))).set ts .any).getD u .any = (((s.env.set ta (.own k)).set ti (D.v (.int ik l))).set ts (.v v)).getD u .any := by
        simp [List.getD_eq_getElem?_getD, List.getElem?_set, Ne.symm hu']
      rw [e]
      exact this⟩
  have hD3 : Done lo P o3 a3 E2' ⟨((s.env.set ta (.own k)).set ti (.v (.int ik l))).set ts .any, s.om⟩ (Q .norm) (fun _ _ => False)
      (wpOpsIn (fence r) 0 P #[o0, o1, o2, o3] (Post lo base Q E s.om) []) (Post lo base Q E s.om) := Done.eff hs3' hex3 ⟨E4, _, hrun3, hx4, hR4, .any _⟩ (by rw [d3]; exact h)
  have hxa : Ext E s.om E2' s.om := (hx1.trans hx2).trans hx3'
  refine hD3 r ?_ ?_ (fun E' s' y d hk _ _ _ => hk.elim)
  · intro c hc
    rw [q3] at hc
    cases hc
  · intro E' s' a' hq hx' hs'
    exact ⟨E', .norm, s', hq, trivial, rfl, (hxa.trans hx').toB hbase, hs'⟩
/-! ### In light code -/
theorem ALW.regX {base : Nat} {reg : List LOp} {own : List Nat} {Q : AX → St → Prop} {s : St} (h : opsX P reg reg s (Q .norm) (fun d => Q (.panic d))) : ALW base P (.reg reg own none) Q s := by
  intro c hc
  obtain ⟨id, ops, rfl, hops⟩ := reg_none (show lc c = .reg reg [] none from hc)
  exact AW.regionX reg hops h
theorem ALW.regClr (hT : TabOk P T) {base : Nat} {own : List Nat} {Q : AX → St → Prop} {s : St} {x y : Operand} {ta ti ts t e k l ty : Nat} {ik : IntKind} {dd : Option Tmp} {i ei : TI} {rows : List (List D)}
    (ht : T t = some i) (hk : i.kd = .slice e) (he : T e = some ei) (hne : ta ≠ ti) (hta : ta < s.env.length) (hti : ti < s.env.length) (hts0 : ts < s.env.length) (hx : evD s.env x = .own k) (hy : evD (s.env.set ta (.own k)) y = .v (.int ik l)) (ho : s.om[k]? = some (.slc ty ei.size rows)) (hl : l ≤ rows.length)
    (h : Q .norm (St.put ⟨((s.env.set ta (.own k)).set ti (.v (.int ik l))).set ts .any, s.om.set k (.slc ty ei.size (rows.take l ++ List.replicate (rows.length - l) (List.replicate ei.size .any)))⟩ dd .any)) :
    ALW base P (.reg [⟨some ta, .move x, none⟩, ⟨some ti, .move y, none⟩, ⟨some ts, .slice t (.tmp ta) (some (.tmp ti)) none none, none⟩, ⟨dd, .call ⟨.builtin .clear, #[.tmp ts], #[t]⟩, none⟩] own none) Q s := by
  intro c hc
  obtain ⟨id, ops, rfl, hops⟩ := reg_none (show lc c = .reg _ [] none from hc)
  exact AW.regionClr hT hops ht hk he hne hta hti hts0 hx hy ho hl h
theorem AC.lbodyA (hT : TabOk P T) {f : FuncId} {fn : Func} (hf : P.funcs[f]? = some fn) (hn : (fn.name == "runtime.NumGoroutine") = false) {l : LC} (hb : fn.body.map lc = some l.st) {rs : List ResultVar} (hrs : fn.results.toList = rs) {n : Nat} (hnt : fn.ntmps = n) {ds : List D} {R : Out → List Ob → Prop}
    (h : ALW om.length P l (finQ T rs om R) ⟨ds ++ List.replicate (n - ds.length) D.any, om⟩) : AC P f ds om R := by
  simp only [Option.map_eq_some_iff] at hb
  obtain ⟨c, hc, hl⟩ := hb
  exact AC.body hT hf hc hn hrs hnt (h c hl)
end
end Go.Proofs.YtlejbkfefpfolaaDoor.AWP
