/- Part of a program logic over data: rules of the walk, each proved. -/
import Derived.Test.YtlejbkfefpfolaaGreatDoorAwpP
set_option linter.unusedVariables false
set_option linter.unusedSimpArgs false
set_option linter.unusedSectionVars false
namespace Go.Proofs.YtlejbkfefpfolaaGreatDoor.AWP
open Go
inductive LC where
 | skip
 | reg (ops : List LOp) (own : List Nat) (m : Option Nat)
 | regt (ops : List LOp) (own : List Nat) (m : Nat) (t : OT)
 | regp (ops : List LOp) (own : List Nat) (pre : List Nat) (m : Nat)
 | regq (ops : List LOp) (own : List Nat) (m : Nat) (t : OT)
 | rega (ops : List LOp) (own : List Nat) (m : Nat)
 | rfun (f : Operand) (ps : List Tmp) (a b : LC)
 | seq (a b : LC)
 | cond (c : Operand) (a b : LC)
 | block (id : Nat) (a : LC)
 | loop (a : LC)
 | exit (id : Nat)
 | label (l : Nat)
 | ret
 | other
def tailed (ops : Array Oper) (i : Nat) : Bool := (List.range i).all fun j => reachE ops 5 i j
def tailAt (ops : Array Oper) : Nat → Nat
 | 0 => 0
 | i + 1 => if tailed ops i then tailAt ops i else i + 1
def quietB : Op → Bool
 | .store .. | .alloc .. | .box .. | .assign .. => false
 | .call c =>
  match c.callee with
  | .builtin .append => false
  | _ => true
 | _ => true
def firstLoud (ops : List Oper) : Nat := (ops.takeWhile fun o => quietB o.op).length
def headAt (ops : Array Oper) : Nat → Nat
 | 0 => 0
 | m + 1 => if drawOk ops [] (m + 1) false then m + 1 else headAt ops m
def preAt (ops : Array Oper) : Nat → Array Bool → List Nat
 | 0, _ => []
 | f + 1, l =>
  match (Region.ready .any ops l).find? fun i => (match ops[i]? with | some o => pureOp o | none => false) && Region.free .any ops l i with
  | some i => i :: preAt ops f (l.setIfInBounds i true)
  | none => []
def tailAtP (ops : Array Oper) (pre : List Nat) : Nat → Nat
 | 0 => 0
 | i + 1 => if (!pre.contains i) && (List.range i).all fun j => pre.contains j || reachE ops 5 i j then tailAtP ops pre i else i + 1
def preOf (ops : Array Oper) : List Nat := preAt ops ops.size (Array.replicate ops.size false)
def lc : Code → LC
 | .skip => .skip
 | .region _ ops d =>
  if d then
   if roundOkB ops then
    if decide (tailAt ops ops.size ≤ firstLoud ops.toList) && drawOk ops [] (tailAt ops ops.size) true then .reg (ops.toList.map lop) [] (some (tailAt ops ops.size))
    else if decide (ops.size ≤ headAt ops (firstLoud ops.toList) + 5) && drawOk ops [] (headAt ops (firstLoud ops.toList)) false then .regt (ops.toList.map lop) [] (headAt ops (firstLoud ops.toList)) (mkTree ops ops.size (headMask ops.size (headAt ops (firstLoud ops.toList))))
    else if alFree ops (tailAt ops ops.size) && drawOk ops [] (tailAt ops ops.size) true then .rega (ops.toList.map lop) [] (tailAt ops ops.size)
    else .other
   else if decide (tailAtP ops (preOf ops) ops.size ≤ firstLoud ops.toList) && (drawOk ops (preOf ops) (tailAtP ops (preOf ops) ops.size) true && preOk ops (Array.replicate ops.size false) (preOf ops)) then .regp (ops.toList.map lop) [] (preOf ops) (tailAtP ops (preOf ops) ops.size)
   else if decide (ops.size ≤ headAt ops (firstLoud ops.toList) + 6) && drawOk ops [] (headAt ops (firstLoud ops.toList)) false then .regq (ops.toList.map lop) [] (headAt ops (firstLoud ops.toList)) (mkTree ops ops.size (headMask ops.size (headAt ops (firstLoud ops.toList))))
   else if alFree ops (tailAt ops ops.size) && drawOk ops [] (tailAt ops ops.size) true then .rega (ops.toList.map lop) [] (tailAt ops ops.size)
   else if drawOk ops (preOf ops) (tailAtP ops (preOf ops) ops.size) true && preOk ops (Array.replicate ops.size false) (preOf ops) then .regp (ops.toList.map lop) [] (preOf ops) (tailAtP ops (preOf ops) ops.size)
   else .other
  else .reg (ops.toList.map lop) [] none
 | .rangeFunc g ps a b => .rfun g ps.toList (lc a) (lc b)
 | .seq a b => .seq (lc a) (lc b)
 | .cond c a b => .cond c (lc a) (lc b)
 | .block id a => .block id (lc a)
 | .loop a => .loop (lc a)
 | .exit id => .exit id
 | .label l => .label l
 | .ret => .ret
 | _ => .other
def LC.st : LC → LC
 | .reg ops _ m => .reg ops [] m
 | .regt ops _ m t => .regt ops [] m t
 | .regp ops _ pre m => .regp ops [] pre m
 | .regq ops _ m t => .regq ops [] m t
 | .rega ops _ m => .rega ops [] m
 | .rfun f ps a b => .rfun f ps a.st b.st
 | .seq a b => .seq a.st b.st
 | .cond c a b => .cond c a.st b.st
 | .block id a => .block id a.st
 | .loop a => .loop a.st
 | l => l
theorem lc_region (id : Nat) (ops : Array Oper) (d : Bool) : lc (.region id ops d) = .other ∨ (∃ r m, lc (.region id ops d) = .reg r [] m ∧ noRange (.region id ops d) = true) ∨ (∃ r m t, lc (.region id ops d) = .regt r [] m t ∧ noRange (.region id ops d) = true) ∨ (∃ r pre m, lc (.region id ops d) = .regp r [] pre m) ∨ (∃ r m t, lc (.region id ops d) = .regq r [] m t) ∨ ∃ r m, lc (.region id ops d) = .rega r [] m := by
 simp only [lc, noRange]
 split
 ·split
  ·rename_i hr
   split
   ·exact .inr (.inl ⟨_, _, rfl, by simp [hr]⟩)
   ·split
    ·exact .inr (.inr (.inl ⟨_, _, _, rfl, by simp [hr]⟩))
    ·split
     ·exact .inr (.inr (.inr (.inr (.inr ⟨_, _, rfl⟩))))
     ·exact .inl rfl
  ·split
   ·exact .inr (.inr (.inr (.inl ⟨_, _, _, rfl⟩)))
   ·split
    ·exact .inr (.inr (.inr (.inr (.inl ⟨_, _, _, rfl⟩))))
    ·split
     ·exact .inr (.inr (.inr (.inr (.inr ⟨_, _, rfl⟩))))
     ·split
      ·exact .inr (.inr (.inr (.inl ⟨_, _, _, rfl⟩)))
      ·exact .inl rfl
 ·rename_i hd
  exact .inr (.inl ⟨_, _, rfl, by simp [hd]⟩)
def ALW (base : Nat) (P : Program) (l : LC) (Q : AX → St → Prop) (s : St) : Prop := ∀ c, lc c = l.st → AW base P c Q s
theorem regNo {id : Nat} {ops : Array Oper} {d : Bool} {l : LC} (h : lc (.region id ops d) = l) (h1 : ∀ r m, l ≠ .reg r [] m) (h3 : ∀ r m t, l ≠ .regt r [] m t) (h4 : ∀ r p m, l ≠ .regp r [] p m) (h5 : ∀ r m t, l ≠ .regq r [] m t) (h6 : ∀ r m, l ≠ .rega r [] m) (h2 : l ≠ .other) : False := by
 rcases lc_region id ops d with e | ⟨r, m, e, _⟩ | ⟨r, m, t, e, _⟩ | ⟨r, p, m, e⟩ | ⟨r, m, t, e⟩ | ⟨r, m, e⟩
 ·exact h2 (h.symm.trans e)
 ·exact h1 r m (h.symm.trans e)
 ·exact h3 r m t (h.symm.trans e)
 ·exact h4 r p m (h.symm.trans e)
 ·exact h5 r m t (h.symm.trans e)
 ·exact h6 r m (h.symm.trans e)
theorem lc_inv {c : Code} : (∀ a b, lc c = .seq a b → ∃ x y, c = .seq x y ∧ lc x = a ∧ lc y = b) ∧ (lc c = .skip → c = .skip) ∧ (lc c = .ret → c = .ret) ∧ (∀ i, lc c = .exit i → c = .exit i) ∧ (∀ i, lc c = .label i → c = .label i) ∧
  (∀ i a, lc c = .block i a → ∃ x, c = .block i x ∧ lc x = a) ∧ (∀ o a b, lc c = .cond o a b → ∃ x y, c = .cond o x y ∧ lc x = a ∧ lc y = b) ∧ (∀ a, lc c = .loop a → ∃ x, c = .loop x ∧ lc x = a) ∧
  (∀ r o m, lc c = .reg r o m → ∃ id ops d, c = .region id ops d) ∧ (∀ r o m t, lc c = .regt r o m t → ∃ id ops d, c = .region id ops d) ∧ (∀ f ps a b, lc c = .rfun f ps a b → ∃ qs x y, c = .rangeFunc f qs x y ∧ qs.toList = ps ∧ lc x = a ∧ lc y = b) ∧ (∀ r o p m, lc c = .regp r o p m → ∃ id ops d, c = .region id ops d) ∧ (∀ r o m t, lc c = .regq r o m t → ∃ id ops d, c = .region id ops d) ∧ (∀ r o m, lc c = .rega r o m → ∃ id ops d, c = .region id ops d) := by
 cases c with
 | region id ops d =>
  refine ⟨fun a b h => (regNo h (by simp) (by simp) (by simp) (by simp) (by simp) (by simp)).elim, fun h => (regNo h (by simp) (by simp) (by simp) (by simp) (by simp) (by simp)).elim, fun h => (regNo h (by simp) (by simp) (by simp) (by simp) (by simp) (by simp)).elim, fun i h => (regNo h (by simp) (by simp) (by simp) (by simp) (by simp) (by simp)).elim, fun i h => (regNo h (by simp) (by simp) (by simp) (by simp) (by simp) (by simp)).elim,
   fun i a h => (regNo h (by simp) (by simp) (by simp) (by simp) (by simp) (by simp)).elim, fun o a b h => (regNo h (by simp) (by simp) (by simp) (by simp) (by simp) (by simp)).elim, fun a h => (regNo h (by simp) (by simp) (by simp) (by simp) (by simp) (by simp)).elim, fun r o m _ => ⟨_, _, _, rfl⟩, fun r o m t _ => ⟨_, _, _, rfl⟩, fun f ps a b h => (regNo h (by simp) (by simp) (by simp) (by simp) (by simp) (by simp)).elim, fun r o p m _ => ⟨_, _, _, rfl⟩, fun r o m t _ => ⟨_, _, _, rfl⟩, fun r o m _ => ⟨_, _, _, rfl⟩⟩
 | seq a b => simp only [lc, reduceCtorEq, LC.seq.injEq, false_imp_iff, imp_false, forall_const, and_true, true_and, not_false_eq_true, implies_true]; exact fun _ _ h => ⟨a, b, rfl, h⟩
 | cond o a b => simp only [lc, reduceCtorEq, LC.cond.injEq, false_imp_iff, imp_false, forall_const, and_true, true_and, not_false_eq_true, implies_true]; rintro _ _ _ ⟨rfl, h⟩; exact ⟨a, b, rfl, h⟩
 | rangeFunc g qs x y => simp only [lc, reduceCtorEq, LC.rfun.injEq, false_imp_iff, imp_false, forall_const, and_true, true_and, not_false_eq_true, implies_true]; refine fun f ps a b h => ?_; obtain ⟨rfl, h1, h2, h3⟩ := h; exact ⟨qs, x, y, rfl, h1, h2, h3⟩
 | _ => simp [lc]
section
variable {base : Nat} {P : Program} {T : Tab} {Q Q' : AX → St → Prop} {s : St}
theorem ALW.mono {l : LC} (h : ALW base P l Q s) (hq : ∀ x s, Q x s → Q' x s) : ALW base P l Q' s := fun c hc => (h c hc).mono hq
theorem ALW.seq {a b : LC} (h : ALW base P a (thenQ (ALW base P b Q) Q) s) : ALW base P (.seq a b) Q s := by
 intro c hc
 obtain ⟨x, y, rfl, hx, hy⟩ := lc_inv.1 _ _ hc
 refine AW.seq ((h _ hx).mono ?_)
 intro z s' hq
 cases z
 ·exact hq _ hy
 ·exact hq
 ·exact hq
 ·exact hq
theorem ALW.skip (h : Q .norm s) : ALW base P .skip Q s := by
 intro c hc
 obtain rfl := lc_inv.2.1 hc
 exact AW.skip h
theorem ALW.ret (h : Q .ret s) : ALW base P .ret Q s := by
 intro c hc
 obtain rfl := lc_inv.2.2.1 hc
 exact AW.ret h
theorem ALW.exit {id : Nat} (h : Q (.exit id) s) : ALW base P (.exit id) Q s := by
 intro c hc
 obtain rfl := lc_inv.2.2.2.1 _ hc
 exact AW.exit h
theorem ALW.label {l : Nat} (h : Q .norm s) : ALW base P (.label l) Q s := by
 intro c hc
 obtain rfl := lc_inv.2.2.2.2.1 _ hc
 exact AW.label h
theorem ALW.block {id : Nat} {a : LC} (h : ALW base P a (blockQ id Q) s) : ALW base P (.block id a) Q s := by
 intro c hc
 obtain ⟨x, rfl, hx⟩ := lc_inv.2.2.2.2.2.1 _ _ hc
 exact AW.block (h _ hx)
theorem ALW.cond {o : Operand} {a b : LC} {t : Bool} (ht : evD s.env o = .v (.bool t)) (h : if t then ALW base P a Q s else ALW base P b Q s) : ALW base P (.cond o a b) Q s := by
 intro c hc
 obtain ⟨x, y, rfl, hx, hy⟩ := lc_inv.2.2.2.2.2.2.1 _ _ _ hc
 refine AW.cond ht ?_
 cases t
 ·exact h _ hy
 ·exact h _ hx
theorem ALW.loop {a : LC} (I : Nat → St → Prop) (h0 : ∃ n, I n s) (round : ∀ n s, I n s → ALW base P a (thenQ (fun s' => ∃ m, m < n ∧ I m s') Q) s) : ALW base P (.loop a) Q s := by
 intro c hc
 obtain ⟨x, rfl, hx⟩ := lc_inv.2.2.2.2.2.2.2.1 _ hc
 exact AW.loop I h0 fun n s hI => round n s hI _ hx
def regP (P : Program) (T : Tab) (reg : List LOp) (own : List Nat) (m : Option Nat) (s : St) (K : St → Prop) (KP : D → St → Prop) : Prop :=
 match m with
 | none => aops P T reg own 0 reg s K KP
 | some m => qops P T reg s.om (reg.take m) s.env fun env => aops P T reg own m (reg.drop m) ⟨env, s.om⟩ K KP
theorem ALW.reg (hT : TabOk P T) (hm : P.follows .mixedOrders = true) {reg : List LOp} {m : Option Nat} {own : List Nat} (h : regP P T reg own m s (Q .norm) (fun d => Q (.panic d))) : ALW base P (.reg reg own m) Q s := by
 intro c hc
 obtain ⟨id, ops, draw, rfl⟩ := lc_inv.2.2.2.2.2.2.2.2.1 _ _ _ hc
 cases draw with
 | false =>
  simp only [lc, LC.st, Bool.false_eq_true, if_false, LC.reg.injEq, true_and] at hc
  obtain ⟨hreg, rfl⟩ := hc
  exact AW.region hT reg own hreg h
 | true =>
  simp only [lc, LC.st, if_true] at hc
  split at hc
  ·split at hc
   ·rename_i hok
    simp only [LC.reg.injEq, true_and] at hc
    obtain ⟨hreg, rfl⟩ := hc
    exact AW.regionD hT hm reg own _ hreg (Bool.and_eq_true _ _ ▸ hok : _ ∧ drawOk ops [] (tailAt ops ops.size) true = true).2 h
   ·split at hc
    ·simp at hc
    ·split at hc <;> simp at hc
  ·split at hc
   ·simp at hc
   ·split at hc
    ·simp at hc
    ·split at hc
     ·simp at hc
     ·split at hc <;> simp at hc
def regtP (P : Program) (T : Tab) (reg : List LOp) (own : List Nat) (m : Nat) (t : OT) (s : St) (K : St → Prop) (KP : D → St → Prop) : Prop :=
 qops P T reg s.om (reg.take m) s.env fun env => treeP P T reg own t ⟨env, s.om⟩ K KP
theorem ALW.regt (hT : TabOk P T) (hm : P.follows .mixedOrders = true) {reg : List LOp} {m : Nat} {t : OT} {own : List Nat} (h : regtP P T reg own m t s (Q .norm) (fun d => Q (.panic d))) : ALW base P (.regt reg own m t) Q s := by
 intro c hc
 obtain ⟨id, ops, draw, rfl⟩ := lc_inv.2.2.2.2.2.2.2.2.2.1 _ _ _ _ hc
 cases draw with
 | false => simp [lc, LC.st] at hc
 | true =>
  simp only [lc, LC.st, if_true] at hc
  split at hc
  ·split at hc
   ·simp at hc
   ·split at hc
    ·rename_i hok
     simp only [LC.regt.injEq, true_and] at hc
     obtain ⟨hreg, rfl, rfl⟩ := hc
     exact AW.regionT hT hm reg own _ hreg (Bool.and_eq_true _ _ ▸ hok : _ ∧ drawOk ops [] (headAt ops (firstLoud ops.toList)) false = true).2 h
    ·split at hc <;> simp at hc
  ·split at hc
   ·simp at hc
   ·split at hc
    ·simp at hc
    ·split at hc
     ·simp at hc
     ·split at hc <;> simp at hc
def regD (P : Program) (T : Tab) (reg : List LOp) (own : List Nat) (m : Nat) (s : St) (K : St → Prop) (KP : D → St → Prop) : Prop :=
 qops P T reg s.om (reg.take m) s.env fun env => aops P T reg own m (reg.drop m) ⟨env, s.om⟩ K KP
theorem ALW.regp (hT : TabOk P T) (hm : P.follows .mixedOrders = true) {reg : List LOp} {pre : List Nat} {m : Nat} {own : List Nat} (h : regD P T reg own m s (Q .norm) (fun d s => ∀ env, Q (.panic d) ⟨env, s.om⟩)) : ALW base P (.regp reg own pre m) Q s := by
 intro c hc
 obtain ⟨id, ops, draw, rfl⟩ := lc_inv.2.2.2.2.2.2.2.2.2.2.2.1 _ _ _ _ hc
 cases draw with
 | false => simp [lc, LC.st] at hc
 | true =>
  simp only [lc, LC.st, if_true] at hc
  split at hc
  ·split at hc
   ·simp at hc
   ·split at hc
    ·simp at hc
    ·split at hc <;> simp at hc
  ·rename_i hr
   split at hc
   ·rename_i hok
    simp only [LC.regp.injEq, true_and] at hc
    obtain ⟨hreg, rfl, rfl⟩ := hc
    rw [Bool.and_eq_true, Bool.and_eq_true] at hok
    exact AW.regionP hT hm reg own _ _ hreg hok.2.1 hok.2.2 (by simp only [noRange, Bool.not_true, Bool.false_or]; simpa using hr) h
   ·split at hc
    ·simp at hc
    ·split at hc
     ·simp at hc
     ·split at hc
      ·rename_i hok
       simp only [LC.regp.injEq, true_and] at hc
       obtain ⟨hreg, rfl, rfl⟩ := hc
       rw [Bool.and_eq_true] at hok
       exact AW.regionP hT hm reg own _ _ hreg hok.1 hok.2 (by simp only [noRange, Bool.not_true, Bool.false_or]; simpa using hr) h
      ·simp at hc
theorem ALW.regq (hT : TabOk P T) (hm : P.follows .mixedOrders = true) {reg : List LOp} {m : Nat} {t : OT} {own : List Nat} (h : regtP P T reg own m t s (Q .norm) (fun d => Q (.panic d))) : ALW base P (.regq reg own m t) Q s := by
 intro c hc
 obtain ⟨id, ops, draw, rfl⟩ := lc_inv.2.2.2.2.2.2.2.2.2.2.2.2.1 _ _ _ _ hc
 cases draw with
 | false => simp [lc, LC.st] at hc
 | true =>
  simp only [lc, LC.st, if_true] at hc
  split at hc
  ·split at hc
   ·simp at hc
   ·split at hc
    ·simp at hc
    ·split at hc <;> simp at hc
  ·split at hc
   ·simp at hc
   ·split at hc
    ·rename_i hok
     simp only [LC.regq.injEq, true_and] at hc
     obtain ⟨hreg, rfl, rfl⟩ := hc
     exact AW.regionT hT hm reg own _ hreg (Bool.and_eq_true _ _ ▸ hok : _ ∧ drawOk ops [] (headAt ops (firstLoud ops.toList)) false = true).2 h
    ·split at hc
     ·simp at hc
     ·split at hc <;> simp at hc
def regA (P : Program) (T : Tab) (reg : List LOp) (own : List Nat) (m : Nat) (s : St) (K : St → Prop) (KP : D → St → Prop) : Prop :=
 qopsA P T reg s.om (reg.take m) s.env fun env => aops P T reg own m (reg.drop m) (adopt T (reg.take m) env (reg.take m) ⟨env, s.om⟩) K KP
theorem ALW.rega (hT : TabOk P T) (hm : P.follows .mixedOrders = true) {reg : List LOp} {m : Nat} {own : List Nat} (h : regA P T reg own m s (Q .norm) (fun d => Q (.panic d))) : ALW base P (.rega reg own m) Q s := by
 intro c hc
 obtain ⟨id, ops, draw, rfl⟩ := lc_inv.2.2.2.2.2.2.2.2.2.2.2.2.2 _ _ _ hc
 cases draw with
 | false => simp [lc, LC.st] at hc
 | true =>
  simp only [lc, LC.st, if_true] at hc
  split at hc
  ·split at hc
   ·simp at hc
   ·split at hc
    ·simp at hc
    ·split at hc
     ·rename_i hok
      simp only [LC.rega.injEq, true_and] at hc
      obtain ⟨hreg, rfl⟩ := hc
      rw [Bool.and_eq_true] at hok
      exact AW.regionA hT hm reg own _ hreg hok.2 hok.1 h
     ·simp at hc
  ·split at hc
   ·simp at hc
   ·split at hc
    ·simp at hc
    ·split at hc
     ·rename_i hok
      simp only [LC.rega.injEq, true_and] at hc
      obtain ⟨hreg, rfl⟩ := hc
      rw [Bool.and_eq_true] at hok
      exact AW.regionA hT hm reg own _ hreg hok.2 hok.1 h
     ·split at hc <;> simp at hc
def jumpP (Q : AX → St → Prop) (pe : Option Code) (s : St) : Prop :=
 match pe with
 | none => Q .norm s
 | some .ret => Q .ret s
 | some (.exit i) => Q (.exit i) s
 | _ => False
def endP (Q : AX → St → Prop) (env : List D) (n : Nat) (om' : List Ob) : Prop :=
 match om'[n]? with
 | some (.lp _ _ _ st pe _) => st ≠ .busy ∧ jumpP Q pe ⟨env, om'.set n .dead⟩
 | _ => False
def rangeP (P : Program) (d : D) (ps : Array Tmp) (ca cb : Code) (Q : AX → St → Prop) (s : St) : Prop :=
 match d with
 | .fn f cap => ACall P f (.yld s.om.length :: cap) (s.om ++ [.lp ps ca cb .ready none s.env]) fun o om' =>
   match o with
   | .ret _ => endP Q s.env s.om.length om'
   | .panic d => Q (.panic d) ⟨s.env, om'⟩
 | _ => False
theorem put_ok {E : Env} {om : List Ob} (hR : Rel E om) {k b : Nat} {ps : Array Tmp} {as bo : Code} {st : LoopState} {pe : Option Code} {env : List D} (ho : om[k]? = some (.lp ps as bo st pe env)) (hg : hb (E.g k) = some b) (obj : Obj) (o : Ob)
  (hob : Ext E om { E with w := E.w.putObj b obj } (om.set k o) → ObR { E with w := E.w.putObj b obj } k o) : Ext E om { E with w := E.w.putObj b obj } (om.set k o) ∧ Rel { E with w := E.w.putObj b obj } (om.set k o) := by
 have hk : k < om.length := (List.getElem?_eq_some_iff.1 ho).1
 have hlv : Live E om b := ⟨k, _, ho, rfl, hg⟩
 have hget : ∀ (j : Nat) (o1 : Ob), (om.set k o)[j]? = some o1 → (j = k ∧ o1 = o) ∨ (j ≠ k ∧ om[j]? = some o1) := by
  intro j o1 h
  rw [List.getElem?_set] at h
  split at h
  ·rename_i e
   have h' : o = o1 := by simpa [hk] using h
   exact .inl ⟨e.symm, h'.symm⟩
  ·rename_i e
   exact .inr ⟨fun h => e h.symm, h⟩
 have same : ∀ j, j ≠ b → (E.w.putObj b obj).heap[j]? = E.w.heap[j]? := fun j hj => World.putObj_heap_other hj
 have hx : Ext E om { E with w := E.w.putObj b obj } (om.set k o) := by
  refine ⟨Nat.le_refl _, fun _ _ => rfl, fun _ h => h, by show E.w.heap.size ≤ (E.w.putObj b obj).heap.size; rw [World.putObj_size]; exact Nat.le_refl _, rfl, rfl, rfl, fun b' hb' hn => same b' (fun e => hn (e ▸ hlv)), ?_, fun b hA => .inl hA⟩
  rintro b' ⟨j, o1, hj, hl, hgj⟩
  rcases hget j o1 hj with ⟨rfl, rfl⟩ | ⟨_, h⟩
  ·have hgj : hb (E.g j) = some b' := hgj
   rw [hg] at hgj
   injection hgj with e
   exact .inl (e ▸ hlv)
  ·exact .inl ⟨j, o1, h, hl, hgj⟩
 refine ⟨hx, by rw [List.length_set]; exact hR.len, fun j o1 hj => ?_, fun i j o1 o2 b' h1 h2 h3 h4 h5 h6 => ?_, fun b' hA => by show b' < (E.w.putObj b obj).heap.size; rw [World.putObj_size]; exact hR.old b' hA, hR.one, fun g c h => (hR.gt g c h).ext hR hx⟩
 ·rcases hget j o1 hj with ⟨rfl, rfl⟩ | ⟨hne, h⟩
  ·exact hob hx
  ·refine ObR.keep hR hx (by rw [← hR.len]; exact (List.getElem?_eq_some_iff.1 h).1) (hR.ob j o1 h) fun hl b' hb' => ⟨same b' fun e => hne (hR.inj j k _ _ b h ho hl rfl (e ▸ hb') hg), (hR.live_lt ⟨j, o1, h, hl, hb'⟩).2⟩
 ·have look : ∀ (i : Nat) (o1 : Ob), (om.set k o)[i]? = some o1 → o1.live = true → ∃ o2, om[i]? = some o2 ∧ o2.live = true := by
   intro i o1 h hl
   rcases hget i o1 h with ⟨rfl, rfl⟩ | ⟨_, h⟩
   ·exact ⟨_, ho, rfl⟩
   ·exact ⟨o1, h, hl⟩
  obtain ⟨a1, q1, q2⟩ := look i o1 h1 h3
  obtain ⟨a2, q3, q4⟩ := look j o2 h2 h4
  exact hR.inj i j a1 a2 b' q1 q3 q2 q4 h5 h6
theorem Rel.lp {E : Env} {om : List Ob} (hR : Rel E om) {k b : Nat} {ps : Array Tmp} {as bo : Code} {st : LoopState} {pe : Option Code} {env : List D} (ho : om[k]? = some (.lp ps as bo st pe env)) (hg : hb (E.g k) = some b) :
  ∃ r : Loop, E.g k = .pointer (some ⟨b, 0, none⟩) ∧ E.w.heap[b]? = some (.loop r) ∧ ¬ E.A b ∧ r.params = ps ∧ r.assign = as ∧ r.body = bo ∧ r.state = st ∧ r.pending = pe ∧ r.tmps.size = env.length ∧ ∀ t, Rd E (env.getD t .any) (r.tmps.getD t undef) := by
 obtain ⟨b', r, h1, h⟩ := hR.ob k _ ho
 rw [h1] at hg
 simp only [hb, Option.some.injEq] at hg
 subst hg
 exact ⟨r, h1, h⟩
theorem AW.rangeFunc {g : Operand} {ps : Array Tmp} {ca cb : Code} (h : rangeP P (evD s.env g) ps ca cb Q s) : AW base P (.rangeFunc g ps ca cb) Q s := by
 intro r lo E a hr hbase hs
 obtain rfl : r = none := hr.1.elim id fun h => by simp [noRange] at h
 unfold rangeP at h
 split at h
 case h_2 => exact h.elim
 rename_i f cap hgv
 obtain ⟨R, ⟨hok, hAC⟩, hK⟩ := h
 have hv := hs.ev g
 rw [hgv] at hv
 generalize hvg : a.eval g = vg at hv
 cases hv with
 | fn vs hvs hcap =>
  refine wpIn_rangeFunc ?_
  intro fn hfn
  have hround : (fence none).round = none := rfl
  rw [hround]
  let rec0 : Loop := { state := .ready, pending := none, fn, tmps := a.tmps, params := ps, assign := ca, body := cb, defers := E.w.heap.size }
  let W0 : World := E.w.alloc (.deferred (some []))
  let W1 : World := W0.alloc (.loop rec0)
  have hsz0 : W0.heap.size = E.w.heap.size + 1 := World.size_alloc _ _
  have hsz1 : W1.heap.size = E.w.heap.size + 2 := by show (W0.alloc _).heap.size = _; rw [World.size_alloc, hsz0]
  have hL1 : W1.heap[E.w.heap.size + 1]? = some (.loop rec0) := by rw [← hsz0]; exact World.alloc_heap_new W0 _
  have hD1 : W1.heap[E.w.heap.size]? = some (.deferred (some [])) := (RowKit.Below.heap_alloc W0 _ _ (by rw [hsz0]; omega)).trans (World.alloc_heap_new E.w _)
  have hold : ∀ b, b < E.w.heap.size → W1.heap[b]? = E.w.heap[b]? := fun b hb' => (RowKit.Below.heap_alloc W0 _ _ (by rw [hsz0]; omega)).trans (RowKit.Below.heap_alloc E.w _ _ hb')
  obtain ⟨hx1, hR1, _, _⟩ := push_ok hs.rel (.pointer (some ⟨E.w.heap.size + 1, 0, none⟩)) W1 (.lp ps ca cb .ready none s.env) rfl (by rw [hsz1]; omega) rfl rfl rfl hold
   (fun b _ hbk => by simp only [hb, Option.some.injEq] at hbk; omega)
   (fun hx => ⟨E.w.heap.size + 1, rec0, by simp [Env.push], hL1, fun hA => absurd (hs.rel.old _ hA) (by omega), rfl, rfl, rfl, rfl, rfl, hs.size, fun t => (hs.rd t).ext hs.rel hx⟩)
  let E1 : Env := E.push (.pointer (some ⟨E.w.heap.size + 1, 0, none⟩)) W1
  have hg1 : E1.g s.om.length = .pointer (some ⟨E.w.heap.size + 1, 0, none⟩) := by rw [hs.rel.len]; simp [E1, Env.push]
  have hargs : RdA E1 (.yld s.om.length :: cap) (#[.func (.yield (E.w.heap.size + 1)) #[] #[]] ++ vs) := by
   refine ⟨by simp [hvs, Nat.add_comm], fun j d hj => ?_⟩
   cases j with
   | zero =>
    simp only [List.getElem?_cons_zero, Option.some.injEq] at hj
    subst hj
    have : (#[Value.func (.yield (E.w.heap.size + 1)) #[] #[]] ++ vs).getD 0 undef = .func (.yield (E.w.heap.size + 1)) #[] #[] := by simp [Array.getD_eq_getD_getElem?, Array.getElem?_append]
    rw [this]
    exact .yld (by show s.om.length < E.n + 1; rw [hs.rel.len]; omega) (by rw [hg1]; rfl)
   | succ j =>
    simp only [List.getElem?_cons_succ] at hj
    have : (#[Value.func (.yield (E.w.heap.size + 1)) #[] #[]] ++ vs).getD (j + 1) undef = vs.getD j undef := by simp [Array.getD_eq_getD_getElem?, Array.getElem?_append]
    rw [this]
    exact (hcap j d hj).ext hs.rel hx1
  have hM1 : Marks lo E1 (mark E.w.heap.size :: a.defers) := by
   obtain ⟨h0, bs, h1, h2, h3, h4⟩ := hs.defs
   refine ⟨by show lo.n ≤ W1.heap.size; rw [hsz1]; omega, E.w.heap.size :: bs, List.nodup_cons.2 ⟨fun hm => ?_, h1⟩, by rw [h2]; rfl, fun b hbm => ?_, fun h => by have := hr.2 h; simp [noRF] at this⟩
   ·exact absurd (Array.getElem?_eq_some_iff.1 (h3 _ hm).2).1 (Nat.lt_irrefl _)
   ·rcases List.mem_cons.1 hbm with rfl | hbm
    ·exact ⟨h0, hD1⟩
    ·exact ⟨(h3 b hbm).1, (hold b (Array.getElem?_eq_some_iff.1 (h3 b hbm).2).1).trans (h3 b hbm).2⟩
  refine ⟨E.w.heap.size + 1, [mark E.w.heap.size], W1, { target := .fn (.func f) vs, args := #[.func (.yield (E.w.heap.size + 1)) #[] #[]] }, W1, f, #[.func (.yield (E.w.heap.size + 1)) #[] #[]] ++ vs, W1, ?_, ?_, fun _ _ => trivial, ?_, fun h => (by simp [Fence.wide] at h), ?_⟩
  ·exact run_enterLoop_outer _ _ _ _ _
  ·simp only [rangeCall, resolve, hvg, Deferred.ofValue, Sem.run_bind, Sem.run_pure, Result.andThen_ok]
   simp [Act.eval]
  ·simp only [invoke, Sem.run_bind, Sem.run_pure, Result.andThen_ok]
   rw [callFunc_ok hok]
  ·refine (calls_fence (hAC E1 _ hR1 hargs)).mono ?_
   rintro e w' ⟨E2, out, om', hRo, rfl, hx2, hR2, hout⟩
   have hk := hK out om' hRo
   have hn1 : s.om.length < E1.n := by show s.om.length < E.n + 1; rw [hs.rel.len]; omega
   have hg2 : E2.g s.om.length = .pointer (some ⟨E.w.heap.size + 1, 0, none⟩) := (hx2.g _ hn1).trans hg1
   cases out with
   | panic d =>
    obtain ⟨y, rfl, hd⟩ := hout.panic_inv
    exact ⟨E2, .panic d, ⟨s.env, om'⟩, hk, ⟨y, rfl, hd⟩, rfl, (hx1.trans hx2).toB hbase, hR2, hM1.ext hR1 hx2, hs.size, fun t => (hs.rd t).ext hs.rel (hx1.trans hx2)⟩
   | ret d =>
    obtain ⟨y, rfl, hd⟩ := hout.ret_inv
    simp only [endP] at hk
    split at hk
    case h_2 => exact hk.elim
    rename_i st pe env' hol
    obtain ⟨hst, hj⟩ := hk
    obtain ⟨r2, q1, q2, q3, q4, q5, q6, q7, q8, q9, q10⟩ := hR2.lp hol (by rw [hg2]; rfl)
    obtain ⟨hx3, hR3⟩ := put_ok hR2 hol (b := E.w.heap.size + 1) (by rw [hg2]; rfl) (.loop { r2 with state := .exhausted }) .dead (fun _ => trivial)
    have hrun := run_endLoop (P := P) q2 (by rw [q7]; exact hst)
    obtain ⟨W3, hW3⟩ : ∃ W3, W3 = E2.w.putObj (E.w.heap.size + 1) (.loop { r2 with state := .exhausted }) := ⟨_, rfl⟩
    rw [← hW3] at hrun hx3 hR3
    have hx := (hx1.trans hx2).trans hx3
    have hsat : Sat lo { E2 with w := W3 } ⟨s.env, om'.set s.om.length .dead⟩ { a with defers := [mark E.w.heap.size] ++ a.defers } :=
     ⟨hR3, (hM1.ext hR1 hx2).ext hR2 hx3, hs.size, fun t => (hs.rd t).ext hs.rel hx⟩
    refine ⟨r2.pending, W3, hrun, ?_⟩
    rw [q8]
    unfold jumpP at hj
    split at hj
    ·exact ⟨_, .norm, _, hj, trivial, rfl, hx.toB hbase, hsat⟩
    ·exact wpIn_ret ⟨_, .ret, _, hj, trivial, rfl, hx.toB hbase, hsat⟩
    ·exact wpIn_exit ⟨_, .exit _, _, hj, rfl, rfl, hx.toB hbase, hsat⟩
    ·exact hj.elim
def LC.nr : LC → Bool
 | .seq a b => a.nr && b.nr
 | .cond _ a b => a.nr && b.nr
 | .block _ a => a.nr
 | .loop a => a.nr
 | .rfun .. => false
 | .regp .. => false
 | .regq .. => false
 | .rega .. => false
 | .other => false
 | _ => true
theorem nr_of : ∀ {l : LC} {c : Code}, lc c = l.st → l.nr = true → noRange c = true := by
 intro l
 induction l with
 | skip => intro c h _; obtain rfl := lc_inv.2.1 h; rfl
 | reg r own m => intro c h _; obtain ⟨id, ops, d, rfl⟩ := lc_inv.2.2.2.2.2.2.2.2.1 _ _ _ h; rcases lc_region id ops d with e | ⟨_, _, _, e⟩ | ⟨_, _, _, _, e⟩ | ⟨_, _, _, e⟩ | ⟨_, _, _, e⟩ | ⟨_, _, e⟩ <;> first | exact e | (rw [e] at h; simp [LC.st] at h)
 | regt r own m t => intro c h _; obtain ⟨id, ops, d, rfl⟩ := lc_inv.2.2.2.2.2.2.2.2.2.1 _ _ _ _ h; rcases lc_region id ops d with e | ⟨_, _, _, e⟩ | ⟨_, _, _, _, e⟩ | ⟨_, _, _, e⟩ | ⟨_, _, _, e⟩ | ⟨_, _, e⟩ <;> first | exact e | (rw [e] at h; simp [LC.st] at h)
 | regp r own pre m => intro c h hn; cases hn
 | regq r own m t => intro c h hn; cases hn
 | rega r own m => intro c h hn; cases hn
 | seq a b iha ihb =>
  intro c h hn
  obtain ⟨x, y, rfl, hx, hy⟩ := lc_inv.1 _ _ h
  simp only [LC.nr, Bool.and_eq_true] at hn
  simp [noRange, iha hx hn.1, ihb hy hn.2]
 | cond o a b iha ihb =>
  intro c h hn
  obtain ⟨x, y, rfl, hx, hy⟩ := lc_inv.2.2.2.2.2.2.1 _ _ _ h
  simp only [LC.nr, Bool.and_eq_true] at hn
  simp [noRange, iha hx hn.1, ihb hy hn.2]
 | block id a ih =>
  intro c h hn
  obtain ⟨x, rfl, hx⟩ := lc_inv.2.2.2.2.2.1 _ _ h
  show noRange x = true
  exact ih hx hn
 | loop a ih =>
  intro c h hn
  obtain ⟨x, rfl, hx⟩ := lc_inv.2.2.2.2.2.2.2.1 _ h
  show noRange x = true
  exact ih hx hn
 | exit id => intro c h _; obtain rfl := lc_inv.2.2.2.1 _ h; rfl
 | label l => intro c h _; obtain rfl := lc_inv.2.2.2.2.1 _ h; rfl
 | ret => intro c h _; obtain rfl := lc_inv.2.2.1 h; rfl
 | rfun f ps a b _ _ => intro c h hn; cases hn
 | other => intro c h hn; cases hn
theorem ALW.rfun {f : Operand} {ps : List Tmp} {x y : LC} (h : ∀ ca cb, lc ca = x.st → lc cb = y.st → rangeP P (evD s.env f) ps.toArray ca cb Q s) : ALW base P (.rfun f ps x y) Q s := by
 intro c hc
 obtain ⟨qs, ca, cb, rfl, rfl, h1, h2⟩ := lc_inv.2.2.2.2.2.2.2.2.2.2.1 _ _ _ _ hc
 exact AW.rangeFunc (by simpa using h ca cb h1 h2)
def xl (base : Nat) (P : Program) (T : Tab) : LC → (AX → St → Prop) → St → Prop
 | .skip, Q, s => Q .norm s
 | .reg r own m, Q, s => regP P T r own m s (Q .norm) (fun d => Q (.panic d))
 | .regp r own pre m, Q, s => regD P T r own m s (Q .norm) (fun d s => ∀ env, Q (.panic d) ⟨env, s.om⟩)
 | .regq r own m t, Q, s => regtP P T r own m t s (Q .norm) (fun d => Q (.panic d))
 | .rega r own m, Q, s => regA P T r own m s (Q .norm) (fun d => Q (.panic d))
 | .regt r own m t, Q, s => regtP P T r own m t s (Q .norm) (fun d => Q (.panic d))
 | .rfun f ps x y, Q, s => ∀ ca cb, lc ca = x.st → lc cb = y.st → rangeP P (evD s.env f) ps.toArray ca cb Q s
 | .seq a b, Q, s => xl base P T a (thenQ (xl base P T b Q) Q) s
 | .cond o a b, Q, s =>
  match evD s.env o with
  | .v (.bool t) => if t then xl base P T a Q s else xl base P T b Q s
  | _ => False
 | .block id a, Q, s => xl base P T a (blockQ id Q) s
 | .exit id, Q, s => Q (.exit id) s
 | .label _, Q, s => Q .norm s
 | .ret, Q, s => Q .ret s
 | .loop a, Q, s => ALW base P (.loop a) Q s
 | .other, _, _ => False
theorem xl_ok (hT : TabOk P T) (hm : P.follows .mixedOrders = true) : ∀ {l : LC} {Q : AX → St → Prop} {s : St}, xl base P T l Q s → ALW base P l Q s := by
 intro l
 induction l with
 | skip => intro Q s h; exact ALW.skip h
 | reg r own m => intro Q s h; exact ALW.reg hT hm h
 | regt r own m t => intro Q s h; exact ALW.regt hT hm h
 | regp r own pre m => intro Q s h; exact ALW.regp hT hm h
 | regq r own m t => intro Q s h; exact ALW.regq hT hm h
 | rega r own m => intro Q s h; exact ALW.rega hT hm h
 | rfun f ps x y _ _ => intro Q s h; exact ALW.rfun h
 | seq a b iha ihb =>
  intro Q s h
  refine ALW.seq ((iha h).mono ?_)
  intro x s' hq
  cases x
  ·exact ihb hq
  ·exact hq
  ·exact hq
  ·exact hq
 | cond o a b iha ihb =>
  intro Q s h
  simp only [xl] at h
  split at h
  ·rename_i t ht
   refine ALW.cond ht ?_
   cases t
   ·exact ihb h
   ·exact iha h
  ·exact h.elim
 | block id a ih => intro Q s h; exact ALW.block (ih h)
 | exit id => intro Q s h; exact ALW.exit h
 | label l => intro Q s h; exact ALW.label h
 | ret => intro Q s h; exact ALW.ret h
 | loop a ih => intro Q s h; exact h
 | other => intro Q s h; exact h.elim
theorem AC.lbody (hT : TabOk P T) (hm : P.follows .mixedOrders = true) {f : FuncId} {fn : Func} (hf : P.funcs[f]? = some fn) (hn : (fn.name == "runtime.NumGoroutine") = false) {l : LC} (hb : fn.body.map lc = some l.st) {rs : List ResultVar} (hrs : fn.results.toList = rs) {n : Nat} (hnt : fn.ntmps = n) {ds : List D} {om : List Ob} {R : Out → List Ob → Prop}
  (h : xl om.length P T l (finQ T rs om R) ⟨ds ++ List.replicate (n - ds.length) D.any, om⟩) : AC P f ds om R := by
 simp only [Option.map_eq_some_iff] at hb
 obtain ⟨c, hc, hl⟩ := hb
 exact AC.body hT hf hc hn hrs hnt (xl_ok hT hm h c hl)
theorem ACall.ret {f : FuncId} {ds : List D} {om : List Ob} {d : D} {K : Out → List Ob → Prop} (h : AC P f ds om (retP d om)) (hk : K (.ret d) om) : ACall P f ds om K :=
 ⟨_, h, by rintro o om' ⟨rfl, rfl⟩; exact hk⟩
end
def vEq : Value → Value → Bool
 | .bool a, .bool b => a == b
 | .int k a, .int k' b => decide (k = k') && decide (a = b)
 | .string a, .string b => a.size == 0 && b.size == 0
 | .pointer none, .pointer none => true
 | .slice none a b, .slice none c d => a == c && b == d
 | .map none, .map none => true
 | .nilFunc, .nilFunc => true
 | .nilIface, .nilIface => true
 | _, _ => false
theorem vEq_ok {a b : Value} (h : vEq a b = true) : a = b ∧ a.oneCell' = true := by
 unfold vEq at h
 split at h <;> simp_all [Value.oneCell']
def vsEq : List Value → List Value → Bool
 | [], [] => true
 | a :: x, b :: y => vEq a b && vsEq x y
 | _, _ => false
theorem vsEq_ok : ∀ {x y : List Value}, vsEq x y = true → x = y ∧ ∀ v ∈ x, v.oneCell' = true
 | [], [], _ => ⟨rfl, by simp⟩
 | a :: x, b :: y, h => by
  simp only [vsEq, Bool.and_eq_true] at h
  obtain ⟨h1, h2⟩ := vEq_ok h.1
  obtain ⟨h3, h4⟩ := vsEq_ok h.2
  exact ⟨by rw [h1, h3], by simp [h2]; exact h4⟩
 | [], _ :: _, h => by simp [vsEq] at h
 | _ :: _, [], h => by simp [vsEq] at h
def kdB : TypeDesc → TK → Bool
 | .int k, .int k' => decide (k = k')
 | .bool, .bool => true
 | .string, .str => true
 | .slice e, .slice e' => e == e'
 | .array n e, .arr n' e' => n == n' && e == e'
 | .struct l, .struct fs => decide (l.toList.map (fun f => (f.offset, f.type)) = fs)
 | .pointer _, .other | .map .., .other | .chan .., .other | .func .., .other | .interface _, .other | .unsafePointer, .other => true
 | _, _ => false
theorem kdB_ok {d : TypeDesc} {k : TK} (h : kdB d k = true) : KdR d k := by
 unfold kdB at h
 split at h <;> simp_all [KdR]
def tabB (P : Program) : List (Nat × TI) → Bool
  | [] => true
  | (t, i) :: r =>
    (match P.info? t, P.underlying t with
     | some inf, some d =>
       inf.size == i.size && inf.bytes == i.bytes && i.zero.length == i.size && kdB d i.kd &&
       (match inf.zero with
        | some (.agg cs) => vsEq i.zero cs.toList
        | some z => !i.kd.agg && vsEq i.zero [z]
        | none => false)
     | _, _ => false) && tabB P r
theorem tabB_ok {P : Program} : ∀ {l : List (Nat × TI)}, tabB P l = true → ∀ t i, (t, i) ∈ l → TIok P t i
 | [], _, t, i, h => by simp at h
 | (t0, i0) :: r, h, t, i, hm => by
  simp only [tabB, Bool.and_eq_true] at h
  rcases List.mem_cons.1 hm with e | hm
  ·simp only [Prod.mk.injEq] at e
   obtain ⟨rfl, rfl⟩ := e
   have h := h.1
   split at h
   ·rename_i inf d hi hd
    simp only [Bool.and_eq_true, beq_iff_eq] at h
    obtain ⟨⟨⟨⟨h1, h2⟩, h3⟩, h4⟩, h5⟩ := h
    split at h5
    ·rename_i cs hz
     obtain ⟨h6, h7⟩ := vsEq_ok h5
     exact ⟨⟨inf, _, hi, h1, h2, hz, by simp [Value.cells, h6], fun _ => by rw [h6]⟩, h7, h3, d, hd, kdB_ok h4⟩
    ·rename_i z hne hz
     simp only [Bool.and_eq_true, Bool.not_eq_true'] at h5
     obtain ⟨h6, h7⟩ := vsEq_ok h5.2
     have hc : z.cells = #[z] := by cases z <;> first | rfl | exact absurd rfl (hne _)
     exact ⟨⟨inf, _, hi, h1, h2, hz, by rw [hc, h6], fun ha => by rw [h5.1] at ha; cases ha⟩, h7, h3, d, hd, kdB_ok h4⟩
    ·simp at h5
   ·simp at h
  ·exact tabB_ok h.2 t i hm
end Go.Proofs.YtlejbkfefpfolaaGreatDoor.AWP
