/- The rules of the walk, as one simp set. -/
import Derived.Test.YtlejbkfefpfolaaGreatDoorAwpR
set_option linter.unusedVariables false
set_option linter.unusedSimpArgs false
set_option linter.unusedSectionVars false
namespace Go.Proofs.YtlejbkfefpfolaaGreatDoor.AWP
open Go
inductive Tag {α : Type} (K : α) : Type where
 | mk
def hide {α : Type} (K : α) (t : Tag K) : α := K
theorem hide_at {α β : Type} {K : α → β} {t : Tag K} {x : α} : hide K t x = K x := _root_.id rfl
def condP (d : D) (A B : Unit → Prop) : Prop :=
 match d with
 | .v (.bool t) => if t then A () else B ()
 | _ => False
theorem condP_t {A B : Unit → Prop} : condP (.v (.bool true)) A B = A () := by simp [condP]
theorem condP_f {A B : Unit → Prop} : condP (.v (.bool false)) A B = B () := by simp [condP]
def pickP (d x y : D) (K : D → Prop) : Prop :=
 match d with
 | .v (.bool t) => K (if t then x else y)
 | _ => False
theorem pickP_t {x y : D} {K : D → Prop} : pickP (.v (.bool true)) x y K = K x := by simp [pickP]
theorem pickP_f {x y : D} {K : D → Prop} : pickP (.v (.bool false)) x y K = K y := by simp [pickP]
def guardP (d : D) (want : Bool) (A B : Unit → Prop) : Prop :=
 match gB d want with
 | some true => A ()
 | some false => B ()
 | none => False
theorem guardP_tt {A B : Unit → Prop} : guardP (.v (.bool true)) true A B = A () := by simp [guardP, gB]
theorem guardP_tf {A B : Unit → Prop} : guardP (.v (.bool true)) false A B = B () := by simp [guardP, gB]
theorem guardP_ft {A B : Unit → Prop} : guardP (.v (.bool false)) true A B = B () := by simp [guardP, gB]
theorem guardP_ff {A B : Unit → Prop} : guardP (.v (.bool false)) false A B = A () := by simp [guardP, gB]
theorem guardP_u {want : Bool} {A B : Unit → Prop} : guardP (.v undef) want A B = B () := by simp [guardP, gB, undef]
def fnP (d : D) (K : FuncId → List D → Prop) : Prop :=
 match d with
 | .fn g cap => K g cap
 | _ => False
theorem fnP_fn {g : FuncId} {cap : List D} {K : FuncId → List D → Prop} : fnP (.fn g cap) K = K g cap := _root_.id rfl
def fnY (d : D) (K : FuncId → List D → Prop) (KY : Nat → Prop) : Prop :=
 match d with
 | .fn g cap => K g cap
 | .yld k => KY k
 | _ => False
theorem fnY_fn {g : FuncId} {cap : List D} {K : FuncId → List D → Prop} {KY : Nat → Prop} : fnY (.fn g cap) K KY = K g cap := _root_.id rfl
theorem fnY_yld {k : Nat} {K : FuncId → List D → Prop} {KY : Nat → Prop} : fnY (.yld k) K KY = KY k := _root_.id rfl
def lpP (o : Option Ob) (K : LoopState → Option Code → Prop) : Prop :=
 match o with
 | some (.lp _ _ _ st pe _) => K st pe
 | _ => False
theorem lpP_lp {ps : Array Tmp} {as bo : Code} {st : LoopState} {pe : Option Code} {env : List D} {K : LoopState → Option Code → Prop} : lpP (some (.lp ps as bo st pe env)) K = K st pe := _root_.id rfl
def appendP (T : Tab) (om : List Ob) (t t' : Nat) (b x : D) (K : List Ob → D → Prop) : Prop :=
 match T t with
 | some ⟨.slice e, _, _, _⟩ =>
  match T e with
  | some ei =>
   match strArg T t' x with
   | some m =>
    ei.size = 1 ∧ ei.bytes = 1 ∧
    match b with
    | .v (.slice none 0 0) => m.size ≤ 140737488355328 ∧ K (om ++ [.slc e ei.size (strRows m)]) (.own om.length)
    | .own k =>
     match om[k]? with
     | some (.slc e' sz rows) => e' = e ∧ sz = ei.size ∧ rows.length + m.size ≤ 140737488355328 ∧ K (om.set k .dead ++ [.slc e' sz (rows ++ strRows m)]) (.own om.length)
     | _ => False
    | _ => False
   | none =>
   t' = t ∧ 0 < ei.size ∧ 0 < ei.bytes ∧
   match b with
   | .v (.slice none 0 0) =>
    opt (srcRows om ei.size x) (hide (fun rows' => (rows'.length) * ei.bytes ≤ 140737488355328 ∧ K (om ++ [.slc e ei.size rows']) (.own om.length)) .mk)
   | .own k =>
    match om[k]? with
    | some (.slc e' sz rows) => e' = e ∧ sz = ei.size ∧
     opt (srcRows om sz x) (hide (fun rows' => (rows.length + rows'.length) * ei.bytes ≤ 140737488355328 ∧ K (om.set k .dead ++ [.slc e' sz (rows ++ rows')]) (.own om.length)) .mk)
    | _ => False
   | _ => False
  | none => False
 | _ => False
def copyP (T : Tab) (om : List Ob) (t : Nat) (b x : D) (K : List Ob → D → Prop) : Prop :=
 match T t with
 | some ⟨.slice e, _, _, _⟩ =>
  match T e with
  | some ei =>
   ei.size = 1 ∧
   match b with
   | .own k =>
    match om[k]? with
    | some (.slc e' 1 rows) => opt (srcRows om 1 x) (hide (fun rows' => K (om.set k (.slc e' 1 (rows'.take rows.length ++ rows.drop rows'.length))) (.i (min rows'.length rows.length : Nat))) .mk)
    | _ => False
   | _ => False
  | none => False
 | _ => False
def tupP (d : D) (i : Nat) (K : D → Prop) : Prop :=
 match d with
 | .tup c => opt (c[i]?) K
 | _ => False
def nilP (d : D) (K : D → Prop) : Prop :=
 match d with
 | .pel r => K (.pel r)
 | .ref k o => K (.ref k o)
 | .rel k z i j => K (.rel k z i j)
 | _ => False
def mkslP (T : Tab) (ow : Bool) (om : List Ob) (t : Nat) (l c : D) (K : List Ob → D → Prop) : Prop :=
 match T t, l, c with
 | some ⟨.slice e, _, _, _⟩, .v (.int _ n), .v (.int _ m) =>
  match T e with
  | some ei => 0 < ei.size ∧ 0 ≤ n ∧ n ≤ m ∧ ei.bytes * m ≤ 281474976710656 ∧ m ≤ 281474976710656 ∧ (if ow then K (om ++ [.slc e ei.size (List.replicate n.toNat (zeroD ei))]) (.own om.length) else K om (.sl ei.size (List.replicate n.toNat (zeroD ei))))
  | none => False
 | _, _, _ => False
def panP (d : D) (K : D → Prop) : Prop :=
 match d with
 | .ifc t d => K (.ifc t d)
 | _ => False
def outP (o : Out) (om : List Ob) (K : D → List Ob → Prop) (KP : D → List Ob → Prop) : Prop :=
 match o with
 | .ret d => K d om
 | .panic d => KP d om
theorem outP_ret {d : D} {om : List Ob} {K KP : D → List Ob → Prop} : outP (.ret d) om K KP = K d om := _root_.id rfl
theorem outP_pan {d : D} {om : List Ob} {K KP : D → List Ob → Prop} : outP (.panic d) om K KP = KP d om := _root_.id rfl
theorem opt_s {α : Type} {a : α} {K : α → Prop} : opt (some a) K = K a := _root_.id rfl
theorem opt_n {α : Type} {K : α → Prop} : opt none K = False := _root_.id rfl
theorem thenQ_n {N : St → Prop} {Q : AX → St → Prop} {s : St} : thenQ N Q .norm s = N s := _root_.id rfl
theorem thenQ_r {N : St → Prop} {Q : AX → St → Prop} {s : St} : thenQ N Q .ret s = Q .ret s := _root_.id rfl
theorem thenQ_e {N : St → Prop} {Q : AX → St → Prop} {s : St} {i : Nat} : thenQ N Q (.exit i) s = Q (.exit i) s := _root_.id rfl
theorem thenQ_p {N : St → Prop} {Q : AX → St → Prop} {s : St} {d : D} : thenQ N Q (.panic d) s = Q (.panic d) s := _root_.id rfl
theorem blockQ_n {id : Nat} {Q : AX → St → Prop} {s : St} : blockQ id Q .norm s = Q .norm s := _root_.id rfl
theorem blockQ_r {id : Nat} {Q : AX → St → Prop} {s : St} : blockQ id Q .ret s = Q .ret s := _root_.id rfl
theorem blockQ_e {id : Nat} {Q : AX → St → Prop} {s : St} {i : Nat} : blockQ id Q (.exit i) s = if i = id then Q .norm s else Q (.exit i) s := _root_.id rfl
theorem blockQ_p {id : Nat} {Q : AX → St → Prop} {s : St} {d : D} : blockQ id Q (.panic d) s = Q (.panic d) s := _root_.id rfl
theorem finQ_n {T : Tab} {rs : List ResultVar} {om0 : List Ob} {R : Out → List Ob → Prop} {s : St} : finQ T rs om0 R .norm s = opt (resD T s rs) (hide (fun d => Fin om0 s.om (.ret d) R) .mk) := _root_.id rfl
theorem finQ_r {T : Tab} {rs : List ResultVar} {om0 : List Ob} {R : Out → List Ob → Prop} {s : St} : finQ T rs om0 R .ret s = opt (resD T s rs) (hide (fun d => Fin om0 s.om (.ret d) R) .mk) := _root_.id rfl
theorem finQ_p {T : Tab} {rs : List ResultVar} {om0 : List Ob} {R : Out → List Ob → Prop} {s : St} {d : D} : finQ T rs om0 R (.panic d) s = Fin om0 s.om (.panic d) R := _root_.id rfl
theorem finQ_e {T : Tab} {rs : List ResultVar} {om0 : List Ob} {R : Out → List Ob → Prop} {s : St} {i : Nat} : finQ T rs om0 R (.exit i) s = False := _root_.id rfl
theorem tupP_t {c : List D} {i : Nat} {K : D → Prop} : tupP (.tup c) i K = opt (c[i]?) K := _root_.id rfl
theorem nilP_pel {r : List D} {K : D → Prop} : nilP (.pel r) K = K (.pel r) := _root_.id rfl
theorem nilP_ref {k o : Nat} {K : D → Prop} : nilP (.ref k o) K = K (.ref k o) := _root_.id rfl
theorem nilP_rel {k a b c : Nat} {K : D → Prop} : nilP (.rel k a b c) K = K (.rel k a b c) := _root_.id rfl
theorem panP_i {t : Nat} {d : D} {K : D → Prop} : panP (.ifc t d) K = K (.ifc t d) := _root_.id rfl
def lpA (o : Option Ob) (K : Array Tmp → Code → Code → Option Code → List D → Prop) : Prop :=
 match o with
 | some (.lp ps as bo .ready pe env) => K ps as bo pe env
 | _ => False
theorem lpA_lp {ps : Array Tmp} {as bo : Code} {pe : Option Code} {env : List D} {K : Array Tmp → Code → Code → Option Code → List D → Prop} : lpA (some (.lp ps as bo .ready pe env)) K = K ps as bo pe env := _root_.id rfl
def lpB (o : Option Ob) (K : Array Tmp → Code → Code → List D → Prop) : Prop :=
 match o with
 | some (.lp ps as bo st pe env) => K ps as bo env
 | _ => False
theorem lpB_lp {ps : Array Tmp} {as bo : Code} {st : LoopState} {pe : Option Code} {env : List D} {K : Array Tmp → Code → Code → List D → Prop} : lpB (some (.lp ps as bo st pe env)) K = K ps as bo env := _root_.id rfl
theorem R_an {k : Nat} {K : St → Prop} {s : St} : assignQ k K .norm s = lpA (s.om[k]?) (hide (fun ps ca cb pe env => K ⟨s.env, s.om.set k (.lp ps ca cb .busy pe env)⟩) .mk) := by
 show assignP k K s = _
 unfold assignP lpA hide
 cases s.om[k]? with
 | none => rfl
 | some o => cases o <;> first | rfl | (rename_i st _ _; cases st <;> rfl)
theorem R_lp {k : Nat} {om0 : List Ob} {R : Out → List Ob → Prop} {v : Bool} {st : LoopState} {pe : Option Code} {om : List Ob} : roundP k om0 R v st pe om = lpB (om[k]?) (hide (fun ps ca cb env => Fin om0 (om.set k (.lp ps ca cb st pe env)) (.ret (.b v)) R) .mk) := by
 unfold roundP lpB hide
 cases om[k]? with
 | none => rfl
 | some o => cases o <;> rfl
theorem R_rn {k : Nat} {om0 : List Ob} {R : Out → List Ob → Prop} {s : St} : roundQ k om0 R .norm s = roundP k om0 R true .ready none s.om := _root_.id rfl
theorem R_rr {k : Nat} {om0 : List Ob} {R : Out → List Ob → Prop} {s : St} : roundQ k om0 R .ret s = roundP k om0 R false .done (some .ret) s.om := _root_.id rfl
theorem R_re {k i : Nat} {om0 : List Ob} {R : Out → List Ob → Prop} {s : St} : roundQ k om0 R (.exit i) s = roundP k om0 R false .done (some (.exit i)) s.om := _root_.id rfl
theorem R_s0 {env : List D} : setPs env [] [] = env := _root_.id rfl
theorem R_s1 {env ds : List D} {p : Tmp} {ps : List Tmp} {d : D} : setPs env (p :: ps) (d :: ds) = setPs (env.set p d) ps ds := by rw [setPs]
section
variable {P : Program} {T : Tab} {base : Nat} {Q : AX → St → Prop} {s : St} {reg os : List LOp} {own : List Nat} {i : Nat} {K : St → Prop} {KP : D → St → Prop} {dst : Option Tmp} {om : List Ob} {env : List D} {ρ : Operand → D} {KD : D → Prop} {KE : List D → Prop} {ow : Bool}
theorem W_skip : xl base P T .skip Q s = Q .norm s := _root_.id rfl
theorem W_reg {r : List LOp} {m : Option Nat} : xl base P T (.reg r own m) Q s = regP P T r own m s (hide (Q .norm) .mk) (hide (fun d => Q (.panic d)) .mk) := _root_.id rfl
theorem W_seq {a b : LC} : xl base P T (.seq a b) Q s = xl base P T a (hide (thenQ (xl base P T b Q) Q) .mk) s := by rw [xl]; rfl
theorem W_cond {o : Operand} {a b : LC} : xl base P T (.cond o a b) Q s = condP (evD s.env o) (hide (fun _ => xl base P T a Q s) .mk) (hide (fun _ => xl base P T b Q s) .mk) := by rw [xl]; unfold condP hide; rfl
theorem W_block {id : Nat} {a : LC} : xl base P T (.block id a) Q s = xl base P T a (hide (blockQ id Q) .mk) s := by rw [xl]; rfl
theorem W_exit {id : Nat} : xl base P T (.exit id) Q s = Q (.exit id) s := _root_.id rfl
theorem W_label {id : Nat} : xl base P T (.label id) Q s = Q .norm s := _root_.id rfl
theorem W_ret : xl base P T .ret Q s = Q .ret s := _root_.id rfl
theorem W_loop {a : LC} : xl base P T (.loop a) Q s = ALW base P (.loop a) Q s := by rw [xl]
theorem W_regN {r : List LOp} : regP P T r own none s K KP = aops P T r own 0 r s K KP := _root_.id rfl
theorem W_regS {r : List LOp} {m : Nat} : regP P T r own (some m) s K KP = qops P T r s.om (r.take m) s.env (hide (fun env => aops P T r own m (r.drop m) ⟨env, s.om⟩ K KP) .mk) := _root_.id rfl
theorem W_regt {r : List LOp} {m : Nat} {t : OT} : xl base P T (.regt r own m t) Q s = regtP P T r own m t s (hide (Q .norm) .mk) (hide (fun d => Q (.panic d)) .mk) := _root_.id rfl
theorem W_regq {r : List LOp} {m : Nat} {t : OT} : xl base P T (.regq r own m t) Q s = regtP P T r own m t s (hide (Q .norm) .mk) (hide (fun d => Q (.panic d)) .mk) := _root_.id rfl
theorem W_rega {r : List LOp} {m : Nat} : xl base P T (.rega r own m) Q s = regA P T r own m s (hide (Q .norm) .mk) (hide (fun d => Q (.panic d)) .mk) := _root_.id rfl
theorem W_regA {r : List LOp} {m : Nat} : regA P T r own m s K KP = qopsA P T r s.om (r.take m) s.env (hide (fun env => aops P T r own m (r.drop m) (adopt T (r.take m) env (r.take m) ⟨env, s.om⟩) K KP) .mk) := _root_.id rfl
theorem QA_nil {env : List D} {reg : List LOp} {om : List Ob} {K : List D → Prop} : qopsA P T reg om [] env K = K env := _root_.id rfl
theorem QA_al {t d : Nat} {os : List LOp} {env : List D} {reg : List LOp} {om : List Ob} {K : List D → Prop} : qopsA P T reg om (⟨some d, .alloc t, none⟩ :: os) env K = ((T t).isSome = true ∧ qopsA P T reg om os (putE env (some d) .any) K) := _root_.id rfl
theorem QA_st {t u : Nat} {x : Operand} {os : List LOp} {env : List D} {reg : List LOp} {om : List Ob} {K : List D → Prop} : qopsA P T reg om (⟨none, .store t (.tmp u) x, none⟩ :: os) env K = (u < env.length ∧ stFit T t (evD env x) ∧ qopsA P T reg om os env K) := _root_.id rfl
theorem CO_nil {env z : List D} {dst : Option Nat} : contA env dst z [] = z := _root_.id rfl
theorem CO_st {env z : List D} {dst : Option Nat} {t u : Nat} {x : Operand} {os : List LOp} : contA env dst z (⟨none, .store t (.tmp u) x, none⟩ :: os) = if dst = some u then (cellsOf (evD env x)).getD [] else contA env dst z os := _root_.id rfl
theorem CO_cons {env z : List D} {dst d' : Option Nat} {o : Op} {g : Option (Nat × Bool)} {os : List LOp} (h : ∀ t a x, o ≠ .store t a x) : contA env dst z (⟨d', o, g⟩ :: os) = contA env dst z os := by
 have e : stOf ⟨d', o, g⟩ = none := by
  unfold stOf
  split
  ·rename_i h1 h2 h3
   exact absurd h1 (h _ _ _)
  ·rfl
 conv => lhs; unfold contA
 rw [e]
theorem QA_cons {o : Op} {dst : Option Tmp} {os : List LOp} {env : List D} {reg : List LOp} {om : List Ob} {K : List D → Prop} (h : ∀ t, o ≠ .alloc t) (h2 : ∀ t a x, o ≠ .store t a x) : qopsA P T reg om (⟨dst, o, none⟩ :: os) env K = aopQ P T o (evD env) om (hide (fun d => qopsA P T reg om os (putE env dst d) K) .mk) := by
 have e : alOf ⟨dst, o, none⟩ = none := by
  unfold alOf
  split
  ·rename_i t d h1 h2 h3
   exact absurd h1 (h t)
  ·rfl
 have e2 : stOf ⟨dst, o, none⟩ = none := by
  unfold stOf
  split
  ·rename_i h1 _ _
   exact absurd h1 (h2 _ _ _)
  ·rfl
 simp only [qopsA, e, e2]
 rfl
theorem AD_nil {s : St} {full : List LOp} {env0 : List D} : adopt T full env0 [] s = s := _root_.id rfl
theorem AD_al {t d : Nat} {os : List LOp} {s : St} {zi : TI} {full : List LOp} {env0 : List D} (h : T t = some zi) : adopt T full env0 (⟨some d, .alloc t, none⟩ :: os) s = adopt T full env0 os ⟨putE s.env (some d) (.ref s.om.length 0), s.om ++ [.var t (contA env0 (some d) (zeroD zi) full)]⟩ := by
 simp only [adopt, alOf, h]
theorem AD_cons {o : Op} {dst : Option Tmp} {g : Option (Nat × Bool)} {os : List LOp} {s : St} {full : List LOp} {env0 : List D} (h : ∀ t, o ≠ .alloc t) : adopt T full env0 (⟨dst, o, g⟩ :: os) s = adopt T full env0 os s := by
 have e : alOf ⟨dst, o, g⟩ = none := by
  unfold alOf
  split
  ·rename_i t d h1 h2 h3
   exact absurd h1 (h t)
  ·rfl
 simp only [adopt, e]
theorem W_regtP {r : List LOp} {m : Nat} {t : OT} : regtP P T r own m t s K KP = qops P T r s.om (r.take m) s.env (hide (fun env => treeP P T r own t ⟨env, s.om⟩ K KP) .mk) := _root_.id rfl
theorem W_tdone : treeP P T reg own .done s K KP = K s := _root_.id rfl
theorem W_tboth {a b : OT} : treeP P T reg own (.both a b) s K KP = (treeP P T reg own a s K KP ∧ treeP P T reg own b s K KP) := _root_.id rfl
theorem W_top {i : Nat} {t : OT} : treeP P T reg own (.op i t) s K KP = opt (reg[i]?) (hide (fun o => aop P T (own.contains i) o.op o.dst s (hide (fun s' => treeP P T reg own t s' K KP) .mk) KP) .mk) := by
 simp only [treeP, hide]
 cases reg[i]? <;> rfl
theorem W_rfun {f : Operand} {ps : List Tmp} {a b : LC} : xl base P T (.rfun f ps a b) Q s = ∀ ca cb, lc ca = a.st → lc cb = b.st → rangeP P (evD s.env f) ps.toArray ca cb Q s := by rw [xl]
theorem W_range {f : FuncId} {cap : List D} {ps : Array Tmp} {ca cb : Code} : rangeP P (.fn f cap) ps ca cb Q s =
  ACall P f (.yld s.om.length :: cap) (s.om ++ [.lp ps ca cb .ready none s.env]) (hide (fun o om' => outP o om' (hide (fun _ om' => endP Q s.env s.om.length om') .mk) (hide (fun d om' => Q (.panic d) ⟨s.env, om'⟩) .mk)) .mk) := _root_.id rfl
theorem W_end {env : List D} {n : Nat} : endP Q env n om = lpP (om[n]?) (hide (fun st pe => st ≠ .busy ∧ jumpP Q pe ⟨env, om.set n .dead⟩) .mk) := by
 unfold endP lpP hide
 cases om[n]? with
 | none => rfl
 | some o => cases o <;> rfl
theorem W_jn : jumpP Q none s = Q .norm s := _root_.id rfl
theorem W_jr : jumpP Q (some .ret) s = Q .ret s := _root_.id rfl
theorem W_je {i : Nat} : jumpP Q (some (.exit i)) s = Q (.exit i) s := _root_.id rfl
theorem W_regp {r : List LOp} {pre : List Nat} {m : Nat} : xl base P T (.regp r own pre m) Q s = regD P T r own m s (hide (Q .norm) .mk) (hide (fun d s => ∀ env, Q (.panic d) ⟨env, s.om⟩) .mk) := _root_.id rfl
theorem W_regD {r : List LOp} {m : Nat} : regD P T r own m s K KP = qops P T r s.om (r.take m) s.env (hide (fun env => aops P T r own m (r.drop m) ⟨env, s.om⟩ K KP) .mk) := _root_.id rfl
theorem W_nil : aops P T reg own i [] s K KP = K s := _root_.id rfl
theorem W_cons {op : Op} : aops P T reg own i (⟨dst, op, none⟩ :: os) s K KP = aop P T (own.contains i) op dst s (hide (fun s' => aops P T reg own (i + 1) os s' K KP) .mk) KP := _root_.id rfl
theorem W_consG {op : Op} {j : Nat} {want : Bool} : aops P T reg own i (⟨dst, op, some (j, want)⟩ :: os) s K KP = opt ((reg[j]?).bind (·.dst)) (hide (fun t => guardP (s.env.getD t .any) want (hide (fun _ => aop P T (own.contains i) op dst s (hide (fun s' => aops P T reg own (i + 1) os s' K KP) .mk) KP) .mk) (hide (fun _ => aops P T reg own (i + 1) os (s.put dst (.v undef)) K KP) .mk)) .mk) := by
 simp only [aops]
 cases (reg[j]?).bind (·.dst) with
 | none => rfl
 | some t =>
  simp only [opt, hide, guardP]
  cases gB (s.env.getD t .any) want with
  | none => rfl
  | some b => cases b <;> rfl
theorem A_move {x : Operand} : aop P T ow (.move x) dst s K KP = K (s.put dst (evD s.env x)) := _root_.id rfl
theorem A_assign {x : Operand} : aop P T ow (.assign x) dst s K KP = K (s.put dst (evD s.env x)) := _root_.id rfl
theorem A_pick {c a b : Operand} : aop P T ow (.pick c a b) dst s K KP = pickP (evD s.env c) (evD s.env a) (evD s.env b) (hide (fun d => K (s.put dst d)) .mk) := _root_.id rfl
theorem A_load {t : Nat} {x : Operand} : aop P T ow (.load t x) dst s K KP = opt (qLoad T s.om t (evD s.env x)) (hide (fun d => K (s.put dst d)) .mk) := _root_.id rfl
theorem A_fieldAddr {t f : Nat} {x : Operand} : aop P T ow (.fieldAddr t x f) dst s K KP = opt (qFieldAddr T t (evD s.env x) f) (hide (fun d => K (s.put dst d)) .mk) := _root_.id rfl
theorem A_indexAddr {t : Nat} {x y : Operand} : aop P T ow (.indexAddr t x y) dst s K KP = opt (qIndexAddr T s.om t (evD s.env x) (evD s.env y)) (hide (fun d => K (s.put dst d)) .mk) := _root_.id rfl
theorem A_field {t f : Nat} {x : Operand} : aop P T ow (.field t x f) dst s K KP = opt (qField T t (evD s.env x) f) (hide (fun d => K (s.put dst d)) .mk) := _root_.id rfl
theorem A_index {t : Nat} {x y : Operand} : aop P T ow (.index t x y) dst s K KP = opt (qIndex T t (evD s.env x) (evD s.env y)) (hide (fun d => K (s.put dst d)) .mk) := _root_.id rfl
theorem A_slice {t : Nat} {x : Operand} {lo hi : Option Operand} : aop P T ow (.slice t x lo hi none) dst s K KP = opt (qSlice T s.om t (evD s.env x) (lo.map (evD s.env)) (hi.map (evD s.env))) (hide (fun d => K (s.put dst d)) .mk) := _root_.id rfl
theorem A_binOp {op : BinOp} {t t' : Nat} {x y : Operand} : aop P T ow (.binOp op t x y t') dst s K KP = opt (qBin T op t (evD s.env x) (evD s.env y)) (hide (fun d => K (s.put dst d)) .mk) := _root_.id rfl
theorem A_unOp {op : UnOp} {t : Nat} {x : Operand} : aop P T ow (.unOp op t x) dst s K KP = opt (qUn op (evD s.env x)) (hide (fun d => K (s.put dst d)) .mk) := _root_.id rfl
theorem A_convert {a b : Nat} {x : Operand} : aop P T ow (.convert a b x) dst s K KP = opt (qConvO T s.om a b (evD s.env x)) (hide (fun d => K (s.put dst d)) .mk) := _root_.id rfl
theorem A_extract {j : Nat} {x : Operand} : aop P T ow (.extract x j) dst s K KP = tupP (evD s.env x) j (hide (fun d => K (s.put dst d)) .mk) := _root_.id rfl
theorem A_nilCheck {x : Operand} : aop P T ow (.nilCheck x) dst s K KP = nilP (evD s.env x) (hide (fun d => K (s.put dst d)) .mk) := _root_.id rfl
theorem A_makeFunc {f : FuncId} {first cap : Array Operand} : aop P T ow (.makeFunc (.func f) first cap) dst s K KP = (first.size = 0 ∧ K (s.put dst (.fn f (cap.toList.map (evD s.env))))) := by
 simp only [aop]
 by_cases h : first.size = 0
 ·simp [h]
 ·simp [h]
theorem A_makeInterface {t : Nat} {x : Operand} : aop P T ow (.makeInterface t x) dst s K KP = (P.concrete t = true ∧ K (s.put dst (.ifc t (evD s.env x)))) := _root_.id rfl
theorem A_build {t : Nat} {parts : Array (Nat × Operand)} : aop P T ow (.build t parts) dst s K KP = opt (qBuild T t (parts.toList.map fun p => (p.1, evD s.env p.2))) (hide (fun d => K (s.put dst d)) .mk) := _root_.id rfl
theorem A_buildSlice {t n : Nat} {parts : Array (Nat × Operand)} : aop P T ow (.buildSlice t n parts) dst s K KP = opt (qRows T t n (parts.toList.map fun p => (p.1, evD s.env p.2))) (hide (fun r => if ow then K (St.put ⟨s.env, s.om ++ [.slc r.1 r.2.1 r.2.2]⟩ dst (.own s.om.length)) else K (s.put dst (.sl r.2.1 r.2.2))) .mk) := _root_.id rfl
theorem A_makeSlice {t : Nat} {l c : Operand} : aop P T ow (.makeSlice t l c) dst s K KP = mkslP T ow s.om t (evD s.env l) (evD s.env c) (hide (fun om' d => K (St.put ⟨s.env, om'⟩ dst d)) .mk) := _root_.id rfl
theorem A_box {t : Nat} {x : Operand} : aop P T ow (.box t x) dst s K KP = opt (cellsOf (evD s.env x)) (hide (fun c => if ow then K (St.put ⟨s.env, s.om ++ [.var t c]⟩ dst (.ref s.om.length 0)) else K (s.put dst (.pel c))) .mk) := _root_.id rfl
theorem A_alloc {t : Nat} : aop P T ow (.alloc t) dst s K KP = opt (T t) (hide (fun i => K (St.put ⟨s.env, s.om ++ [.var t (zeroD i)]⟩ dst (.ref s.om.length 0))) .mk) := _root_.id rfl
theorem A_store {t : Nat} {a x : Operand} : aop P T ow (.store t a x) dst s K KP = opt (qStore T s.om t (evD s.env a) (evD s.env x)) (hide (fun om' => K (St.put ⟨s.env, om'⟩ dst .any)) .mk) := _root_.id rfl
theorem A_call {f : Operand} {args : Array Operand} {tys : Array TypeId} : aop P T ow (.call ⟨.value f, args, tys⟩) dst s K KP =
  fnY (evD s.env f) (hide (fun g cap => ACall P g (args.toList.map (evD s.env) ++ cap) s.om (hide (fun o om' => outP o om' (hide (fun d om' => K (St.put ⟨s.env, om'⟩ dst d)) .mk) (hide (fun d om' => KP d ⟨s.env, om'⟩) .mk)) .mk)) .mk)
   (hide (fun k => YCall P k (args.toList.map (evD s.env)) s.om (hide (fun o om' => outP o om' (hide (fun d om' => K (St.put ⟨s.env, om'⟩ dst d)) .mk) (hide (fun d om' => KP d ⟨s.env, om'⟩) .mk)) .mk)) .mk) := _root_.id rfl
theorem A_len {x : Operand} {t : Nat} : aop P T ow (.call ⟨.builtin .len, #[x], #[t]⟩) dst s K KP = opt (qLen T s.om t (evD s.env x)) (hide (fun d => K (s.put dst d)) .mk) := _root_.id rfl
theorem A_copy {b x : Operand} {t t' : Nat} : aop P T ow (.call ⟨.builtin .copy, #[b, x], #[t, t']⟩) dst s K KP = copyP T s.om t (evD s.env b) (evD s.env x) (hide (fun om' d => K (St.put ⟨s.env, om'⟩ dst d)) .mk) := _root_.id rfl
theorem A_max {x y : Operand} {tys : Array Nat} : aop P T ow (.call ⟨.builtin .max, #[x, y], tys⟩) dst s K KP = maxP true (evD s.env x) (evD s.env y) (hide (fun d => K (s.put dst d)) .mk) := _root_.id rfl
theorem A_min {x y : Operand} {tys : Array Nat} : aop P T ow (.call ⟨.builtin .min, #[x, y], tys⟩) dst s K KP = maxP false (evD s.env x) (evD s.env y) (hide (fun d => K (s.put dst d)) .mk) := _root_.id rfl
theorem maxP_up {k k' : IntKind} {a b : Int} {K : D → Prop} : maxP true (.v (.int k a)) (.v (.int k' b)) K = K (.v (.int k (if b > a then b else a))) := _root_.id rfl
theorem maxP_dn {k k' : IntKind} {a b : Int} {K : D → Prop} : maxP false (.v (.int k a)) (.v (.int k' b)) K = K (.v (.int k (if b < a then b else a))) := _root_.id rfl
theorem A_append {b x : Operand} {t t' : Nat} : aop P T ow (.call ⟨.builtin .append, #[b, x], #[t, t']⟩) dst s K KP = appendP T s.om t t' (evD s.env b) (evD s.env x) (hide (fun om' d => K (St.put ⟨s.env, om'⟩ dst d)) .mk) := _root_.id rfl
theorem A_panic {x : Operand} : aop P T ow (.panic x) dst s K KP = panP (evD s.env x) (hide (fun d => KP d s) .mk) := _root_.id rfl
theorem Q_nil : qops P T reg om [] env KE = KE env := _root_.id rfl
theorem Q_cons {op : Op} : qops P T reg om (⟨dst, op, none⟩ :: os) env KE = aopQ P T op (evD env) om (hide (fun d => qops P T reg om os (putE env dst d) KE) .mk) := _root_.id rfl
theorem Q_consG {op : Op} {j : Nat} {want : Bool} : qops P T reg om (⟨dst, op, some (j, want)⟩ :: os) env KE = opt ((reg[j]?).bind (·.dst)) (hide (fun t => guardP (env.getD t .any) want (hide (fun _ => aopQ P T op (evD env) om (hide (fun d => qops P T reg om os (putE env dst d) KE) .mk)) .mk) (hide (fun _ => qops P T reg om os (putE env dst (.v undef)) KE) .mk)) .mk) := by
 simp only [qops]
 cases (reg[j]?).bind (·.dst) with
 | none => rfl
 | some t =>
  simp only [opt, hide, guardP]
  cases gB (env.getD t .any) want with
  | none => rfl
  | some b => cases b <;> rfl
theorem Q_move {x : Operand} : aopQ P T (.move x) ρ om KD = KD (ρ x) := _root_.id rfl
theorem Q_assign {x : Operand} : aopQ P T (.assign x) ρ om KD = KD (ρ x) := _root_.id rfl
theorem Q_pick {c a b : Operand} : aopQ P T (.pick c a b) ρ om KD = pickP (ρ c) (ρ a) (ρ b) KD := _root_.id rfl
theorem Q_load {t : Nat} {x : Operand} : aopQ P T (.load t x) ρ om KD = opt (qLoad T om t (ρ x)) KD := _root_.id rfl
theorem Q_fieldAddr {t f : Nat} {x : Operand} : aopQ P T (.fieldAddr t x f) ρ om KD = opt (qFieldAddr T t (ρ x) f) KD := _root_.id rfl
theorem Q_indexAddr {t : Nat} {x y : Operand} : aopQ P T (.indexAddr t x y) ρ om KD = opt (qIndexAddr T om t (ρ x) (ρ y)) KD := _root_.id rfl
theorem Q_field {t f : Nat} {x : Operand} : aopQ P T (.field t x f) ρ om KD = opt (qField T t (ρ x) f) KD := _root_.id rfl
theorem Q_index {t : Nat} {x y : Operand} : aopQ P T (.index t x y) ρ om KD = opt (qIndex T t (ρ x) (ρ y)) KD := _root_.id rfl
theorem Q_slice {t : Nat} {x : Operand} {lo hi : Option Operand} : aopQ P T (.slice t x lo hi none) ρ om KD = opt (qSlice T om t (ρ x) (lo.map ρ) (hi.map ρ)) KD := _root_.id rfl
theorem Q_binOp {op : BinOp} {t t' : Nat} {x y : Operand} : aopQ P T (.binOp op t x y t') ρ om KD = opt (qBin T op t (ρ x) (ρ y)) KD := _root_.id rfl
theorem Q_unOp {op : UnOp} {t : Nat} {x : Operand} : aopQ P T (.unOp op t x) ρ om KD = opt (qUn op (ρ x)) KD := _root_.id rfl
theorem Q_convert {a b : Nat} {x : Operand} : aopQ P T (.convert a b x) ρ om KD = opt (qConvO T om a b (ρ x)) KD := _root_.id rfl
theorem Q_extract {j : Nat} {x : Operand} : aopQ P T (.extract x j) ρ om KD = tupP (ρ x) j KD := _root_.id rfl
theorem Q_nilCheck {x : Operand} : aopQ P T (.nilCheck x) ρ om KD = nilP (ρ x) KD := _root_.id rfl
theorem Q_makeFunc {f : FuncId} {first cap : Array Operand} : aopQ P T (.makeFunc (.func f) first cap) ρ om KD = (first.size = 0 ∧ KD (.fn f (cap.toList.map ρ))) := by
 simp only [aopQ]
 by_cases h : first.size = 0
 ·simp [h]
 ·simp [h]
theorem Q_makeInterface {t : Nat} {x : Operand} : aopQ P T (.makeInterface t x) ρ om KD = (P.concrete t = true ∧ KD (.ifc t (ρ x))) := _root_.id rfl
theorem Q_build {t : Nat} {parts : Array (Nat × Operand)} : aopQ P T (.build t parts) ρ om KD = opt (qBuild T t (parts.toList.map fun p => (p.1, ρ p.2))) KD := _root_.id rfl
def mkslQ (T : Tab) (t : Nat) (l c : D) (K : D → Prop) : Prop :=
 match T t, l, c with
 | some ⟨.slice e, _, _, _⟩, .v (.int _ n), .v (.int _ m) =>
  match T e with
  | some ei => 0 < ei.size ∧ 0 ≤ n ∧ n ≤ m ∧ ei.bytes * m ≤ 281474976710656 ∧ m ≤ 281474976710656 ∧ K (.sl ei.size (List.replicate n.toNat (zeroD ei)))
  | none => False
 | _, _, _ => False
theorem Q_makeSlice {t : Nat} {l c : Operand} : aopQ P T (.makeSlice t l c) ρ om KD = mkslQ T t (ρ l) (ρ c) (hide KD .mk) := _root_.id rfl
theorem Q_buildSlice {t n : Nat} {parts : Array (Nat × Operand)} : aopQ P T (.buildSlice t n parts) ρ om KD = opt (qRows T t n (parts.toList.map fun p => (p.1, ρ p.2))) (hide (fun r => KD (.sl r.2.1 r.2.2)) .mk) := _root_.id rfl
theorem Q_call {f : Operand} {args : Array Operand} {tys : Array TypeId} : aopQ P T (.call ⟨.value f, args, tys⟩) ρ om KD = fnP (ρ f) (hide (fun g cap => QCall P g (args.toList.map ρ ++ cap) om KD) .mk) := _root_.id rfl
theorem Q_len {x : Operand} {t : Nat} : aopQ P T (.call ⟨.builtin .len, #[x], #[t]⟩) ρ om KD = opt (qLen T om t (ρ x)) KD := _root_.id rfl
end
attribute [go_sem]   evD ofConst St.put putE List.length_cons List.length_nil Nat.reduceAdd Nat.reduceSub Nat.reduceMul List.replicate List.replicate_succ List.replicate_zero List.cons_append List.nil_append List.append_nil List.append_assoc List.set_cons_succ List.set_cons_zero List.set_nil List.getD_cons_succ List.getD_cons_zero List.getD_nil List.getElem?_cons_succ List.getElem?_cons_zero List.take_succ_cons List.take_zero List.take_nil List.drop_succ_cons List.drop_zero List.drop_nil List.map_cons List.map_nil List.length_append List.length_set Array.toList List.contains_cons List.contains_nil Nat.reduceBEq Bool.or_false Bool.false_or Bool.or_true Bool.true_or qBin qUn qConv qConvO qLoad rdRow qFieldAddr shiftPtr qIndexAddr qField qIndex qLen qSlice qBuild fieldPlaces fillD splc qRows rowsPut zeroD cellsOf qStore obAt obPut obSet rs nat? srcRows sbin ibin   Option.map_some Option.map_none Option.bind_some Option.bind_none ite_true ite_false if_true if_false TK.agg Bool.false_eq_true reduceCtorEq Nat.reduceLT Nat.reduceLeDiff Nat.reduceDiv Nat.reduceMod Nat.reduceEqDiff Value.oneCell' LC.st decide_true decide_false Nat.zero_add Nat.add_zero Nat.sub_self true_and and_true false_and and_false not_true_eq_false not_false_eq_true gt_iff_lt Option.some.injEq List.size_toArray List.toList_toArray Array.size_empty Option.isSome_some
attribute [go_sem] hide_at condP_t condP_f pickP_t pickP_f guardP_tt guardP_tf guardP_ft guardP_ff guardP_u fnP_fn outP_ret outP_pan opt_s opt_n thenQ_n thenQ_r thenQ_e thenQ_p blockQ_n blockQ_r blockQ_e blockQ_p finQ_n finQ_r finQ_p finQ_e tupP_t nilP_pel nilP_ref nilP_rel panP_i W_skip W_reg W_seq W_cond W_block W_exit W_label W_ret W_loop lpA_lp lpB_lp R_an R_lp R_rn R_rr R_re R_s0 R_s1 W_regp W_regq W_rega W_regA QA_nil QA_al QA_st QA_cons CO_nil CO_st CO_cons Option.getD_some AD_nil AD_al AD_cons W_regD W_regt W_regtP W_tdone W_tboth W_top W_range W_end W_jn W_jr W_je lpP_lp fnY_fn fnY_yld W_regN W_regS W_nil W_cons W_consG A_move A_assign A_pick A_load A_fieldAddr A_indexAddr A_field A_index A_slice A_binOp A_unOp A_convert A_extract A_nilCheck A_makeFunc A_makeInterface A_build A_buildSlice A_makeSlice A_box A_alloc A_store A_call A_len A_append A_copy A_max A_min maxP_up maxP_dn A_panic Q_nil Q_cons Q_consG Q_move Q_assign Q_pick Q_load Q_fieldAddr Q_indexAddr Q_field Q_index Q_slice Q_binOp Q_unOp Q_convert Q_extract Q_nilCheck Q_makeFunc Q_makeInterface Q_build Q_buildSlice Q_makeSlice Q_call Q_len strArg appendP copyP mkslP mkslQ
end Go.Proofs.YtlejbkfefpfolaaGreatDoor.AWP
