/- Part of a program logic over data: rules of the walk, each proved. -/
import Derived.Test.YtlejbkfefpfolaaGreatDoorLogicA
import Derived.Test.YtlejbkfefpfolaaGreatDoorAwpY
import Derived.Laws.IdiomStrings
set_option linter.unusedVariables false
set_option linter.unusedSimpArgs false
set_option linter.unusedSectionVars false
namespace Go.Proofs.YtlejbkfefpfolaaGreatDoor.AWP
open Go
def bytesOfRows : List (List D) → Option (List UInt8)
 | [] => some []
 | [.v (.int .u8 n)] :: rows => if 0 ≤ n ∧ n < 256 then (bytesOfRows rows).map (UInt8.ofNat n.toNat :: ·) else none
 | _ => none
def byteRows (l : List UInt8) : List (List D) := l.map fun b => [.v (.int .u8 b.toNat)]
theorem bytesOfRows_of : ∀ (l : List UInt8), bytesOfRows (byteRows l) = some l
 | [] => rfl
 | b :: l => by
  have h := b.toNat_lt
  have ih := bytesOfRows_of l
  simp only [byteRows] at ih
  simp [byteRows, bytesOfRows, ih]
  omega
theorem bytesOfRows_inv : ∀ {rows : List (List D)} {l : List UInt8}, bytesOfRows rows = some l → rows = byteRows l
 | [], l, h => by simp only [bytesOfRows, Option.some.injEq] at h; subst h; rfl
 | r :: rows, l, h => by
  unfold bytesOfRows at h
  split at h
  ·rename_i h'; simp at h'
  ·rename_i n rows' h'
   simp only [List.cons.injEq] at h'
   obtain ⟨rfl, rfl⟩ := h'
   split at h
   ·rename_i hn
    simp only [Option.map_eq_some_iff] at h
    obtain ⟨l', hl', rfl⟩ := h
    rw [bytesOfRows_inv hl']
    have : ((UInt8.ofNat n.toNat).toNat : Int) = n := by
     rw [UInt8.toNat_ofNat']
     omega
    simp only [byteRows, List.map_cons, this]
   ·simp at h
  ·simp at h
def qConvO (T : Tab) (om : List Ob) (src dst : Nat) (x : D) : Option D :=
 match T src, T dst with
 | some ⟨.slice e, _, _, _⟩, some ⟨.str, _, _, _⟩ =>
  match T e with
  | some ⟨.int .u8, _, _, _⟩ => ((srcRows om 1 x).bind bytesOfRows).map fun l => .v (.string ⟨l.toArray⟩)
  | _ => none
 | _, _ => qConv T src dst x
theorem qConvO_ok {P : Program} {T : Tab} {E : Env} {om : List Ob} (hT : TabOk P T) (hR : Rel E om) {src dst : Nat} {x d : D} {a : Value} (h : qConvO T om src dst x = some d) (hx : Rd E x a) : ∃ z, (convert src dst a).run P E.w = .ok z E.w ∧ Rd E d z := by
 unfold qConvO at h
 split at h
 ·rename_i e _ _ _ _ _ _ hs hd
  split at h
  ·rename_i _ _ _ he
   simp only [Option.map_eq_some_iff, Option.bind_eq_some_iff] at h
   obtain ⟨l, ⟨rows, hr, hl⟩, rfl⟩ := h
   obtain rfl := bytesOfRows_inv hl
   obtain ⟨ad, m, c, rfl, _, hh⟩ := srcRows_ok hR hr hx
   have us := (hT _ _ hs).slice rfl
   have ud := (hT _ _ hd).str rfl
   have ue := (hT _ _ he).int rfl
   rcases hh with ⟨h1, rfl, rfl⟩ | ⟨hm, hh⟩
   ·have : l = [] := by simpa [byteRows] using h1
    subst this
    exact ⟨.string .empty, by simp [convert, run_underlying us, run_underlying ud, run_underlying ue, Conv.bytesToString], .v _⟩
   ·have hm : m = l.length := by simpa [byteRows] using hm
    subst hm
    cases ad with
    | none =>
     rcases hh with h1 | ⟨ad, h1, _⟩
     ·have : l = [] := by simpa [byteRows] using h1
      subst this
      exact ⟨.string .empty, by simp [convert, run_underlying us, run_underlying ud, run_underlying ue, Conv.bytesToString], .v _⟩
     ·cases h1
    | some ad =>
     refine ⟨_, run_convert_bytes_back E.w src dst e ad c l us ue ud (fun j hj => ?_), .v _⟩
     rcases hh with h1 | ⟨ad', h1, h2⟩
     ·have : l = [] := by simpa [byteRows] using h1
      subst this
      simp at hj
     ·injection h1 with h1
      subst h1
      obtain ⟨u, e1, _, e3⟩ := h2 j [.v (.int .u8 l[j].toNat)] (by simp [byteRows, hj]) 0 _ rfl
      rw [e3.v_inv] at e1
      simpa [add_add] using e1
  ·simp at h
 ·exact qConv_ok hT h hx
structure LOp where
 dst : Option Tmp
 op : Op
 guard : Option (Nat × Bool)
def lop (o : Oper) : LOp := ⟨o.dst, o.op, o.guard⟩
def opt {α : Type} : Option α → (α → Prop) → Prop
 | some a, K => K a
 | none, _ => False
@[simp] theorem opt_some {α : Type} (a : α) (K : α → Prop) : opt (some a) K = K a := rfl
@[simp] theorem opt_none {α : Type} (K : α → Prop) : opt none K = False := rfl
theorem opt_elim {α : Type} {x : Option α} {K : α → Prop} (h : opt x K) : ∃ a, x = some a ∧ K a := by
 cases x with
 | none => exact h.elim
 | some a => exact ⟨a, rfl, h⟩
def ACall (P : Program) (f : FuncId) (ds : List D) (om : List Ob) (K : Out → List Ob → Prop) : Prop :=
 ∃ R, AC P f ds om R ∧ ∀ o om', R o om' → K o om'
def AY (P : Program) (k : Nat) (ds : List D) (om : List Ob) (R : Out → List Ob → Prop) : Prop :=
 ∀ E vs b, Rel E om → RdA E ds vs → hb (E.g k) = some b → ∃ fn tmps assign body, (Instr.yield b vs).run P E.w = .ok (.round b fn tmps assign body) E.w ∧
  RoundIn Fence.wide 0 P b fn tmps assign body E.w fun e w' => ∃ E' o om', R o om' ∧ E'.w = w' ∧ Ext E om E' om' ∧ Rel E' om' ∧ OutR E' o e
def YCall (P : Program) (k : Nat) (ds : List D) (om : List Ob) (K : Out → List Ob → Prop) : Prop :=
 ∃ R, AY P k ds om R ∧ ∀ o om', R o om' → K o om'
def strArg (T : Tab) (t : Nat) (x : D) : Option ByteArray :=
 match T t with
 | some ⟨.str, _, _, _⟩ =>
  match x with
  | .v (.string m) => some m
  | _ => none
 | _ => none
theorem strArg_some {T : Tab} {t : Nat} {x : D} {m : ByteArray} (h : strArg T t x = some m) : (∃ i, T t = some i ∧ i.kd = .str) ∧ x = .v (.string m) := by
 unfold strArg at h
 split at h
 ·rename_i h1
  split at h
  ·cases h; exact ⟨⟨_, h1, rfl⟩, rfl⟩
  ·cases h
 ·cases h
def maxP (up : Bool) (x y : D) (K : D → Prop) : Prop :=
 match x, y with
 | .v (.int k a), .v (.int _ b) => K (.v (.int k (if up then (if b > a then b else a) else (if b < a then b else a))))
 | _, _ => False
def aCall (P : Program) (T : Tab) (c : Call) (dst : Option Tmp) (s : St) (K : St → Prop) (KP : D → St → Prop) : Prop :=
 match c.callee with
 | .value f =>
  match evD s.env f with
  | .fn g cap => ACall P g (c.args.toList.map (evD s.env) ++ cap) s.om fun o om' =>
    match o with
    | .ret d => K (St.put ⟨s.env, om'⟩ dst d)
    | .panic d => KP d ⟨s.env, om'⟩
  | .yld k => YCall P k (c.args.toList.map (evD s.env)) s.om fun o om' =>
    match o with
    | .ret d => K (St.put ⟨s.env, om'⟩ dst d)
    | .panic d => KP d ⟨s.env, om'⟩
  | _ => False
 | .builtin .len =>
  match c.args.toList, c.argTypes.toList with
  | [x], [t] => opt (qLen T s.om t (evD s.env x)) fun d => K (s.put dst d)
  | _, _ => False
 | .builtin .append =>
  match c.args.toList, c.argTypes.toList with
  | [b, x], [t, t'] =>
   match T t with
   | some ⟨.slice e, _, _, _⟩ =>
    match T e with
    | some ei =>
     match strArg T t' (evD s.env x) with
     | some m =>
      ei.size = 1 ∧ ei.bytes = 1 ∧
      match evD s.env b with
      | .v (.slice none 0 0) => m.size ≤ 140737488355328 ∧ K (St.put ⟨s.env, s.om ++ [.slc e ei.size (strRows m)]⟩ dst (.own s.om.length))
      | .own k =>
       match s.om[k]? with
       | some (.slc e' sz rows) => e' = e ∧ sz = ei.size ∧ rows.length + m.size ≤ 140737488355328 ∧ K (St.put ⟨s.env, s.om.set k .dead ++ [.slc e' sz (rows ++ strRows m)]⟩ dst (.own s.om.length))
       | _ => False
      | _ => False
     | none =>
     t' = t ∧ 0 < ei.size ∧ 0 < ei.bytes ∧
     match evD s.env b with
     | .v (.slice none 0 0) =>
      opt (srcRows s.om ei.size (evD s.env x)) fun rows' => (rows'.length) * ei.bytes ≤ 140737488355328 ∧ K (St.put ⟨s.env, s.om ++ [.slc e ei.size rows']⟩ dst (.own s.om.length))
     | .own k =>
      match s.om[k]? with
      | some (.slc e' sz rows) => e' = e ∧ sz = ei.size ∧
       opt (srcRows s.om sz (evD s.env x)) fun rows' => (rows.length + rows'.length) * ei.bytes ≤ 140737488355328 ∧ K (St.put ⟨s.env, s.om.set k .dead ++ [.slc e' sz (rows ++ rows')]⟩ dst (.own s.om.length))
      | _ => False
     | _ => False
    | none => False
   | _ => False
  | _, _ => False
 | .builtin .copy =>
  match c.args.toList, c.argTypes.toList with
  | [b, x], [t, t'] =>
   match T t with
   | some ⟨.slice e, _, _, _⟩ =>
    match T e with
    | some ei =>
     ei.size = 1 ∧
     match evD s.env b with
     | .own k =>
      match s.om[k]? with
      | some (.slc e' 1 rows) => opt (srcRows s.om 1 (evD s.env x)) fun rows' => K (St.put ⟨s.env, s.om.set k (.slc e' 1 (rows'.take rows.length ++ rows.drop rows'.length))⟩ dst (.i (min rows'.length rows.length : Nat)))
      | _ => False
     | _ => False
    | none => False
   | _ => False
  | _, _ => False
 | .builtin .max =>
  match c.args.toList with
  | [x, y] => maxP true (evD s.env x) (evD s.env y) fun d => K (s.put dst d)
  | _ => False
 | .builtin .min =>
  match c.args.toList with
  | [x, y] => maxP false (evD s.env x) (evD s.env y) fun d => K (s.put dst d)
  | _ => False
 | _ => False
def aop (P : Program) (T : Tab) (own : Bool) (o : Op) (dst : Option Tmp) (s : St) (K : St → Prop) (KP : D → St → Prop) : Prop :=
 match o with
 | .move x => K (s.put dst (evD s.env x))
 | .assign x => K (s.put dst (evD s.env x))
 | .pick c a b =>
  match evD s.env c with
  | .v (.bool t) => K (s.put dst (if t then evD s.env a else evD s.env b))
  | _ => False
 | .load t x => opt (qLoad T s.om t (evD s.env x)) fun d => K (s.put dst d)
 | .fieldAddr t x f => opt (qFieldAddr T t (evD s.env x) f) fun d => K (s.put dst d)
 | .indexAddr t x i => opt (qIndexAddr T s.om t (evD s.env x) (evD s.env i)) fun d => K (s.put dst d)
 | .field t x f => opt (qField T t (evD s.env x) f) fun d => K (s.put dst d)
 | .index t x i => opt (qIndex T t (evD s.env x) (evD s.env i)) fun d => K (s.put dst d)
 | .slice t x lo hi none => opt (qSlice T s.om t (evD s.env x) (lo.map (evD s.env)) (hi.map (evD s.env))) fun d => K (s.put dst d)
 | .binOp op t x y _ => opt (qBin T op t (evD s.env x) (evD s.env y)) fun d => K (s.put dst d)
 | .unOp op _ x => opt (qUn op (evD s.env x)) fun d => K (s.put dst d)
 | .convert a b x => opt (qConvO T s.om a b (evD s.env x)) fun d => K (s.put dst d)
 | .extract x i =>
  match evD s.env x with
  | .tup c => opt (c[i]?) fun d => K (s.put dst d)
  | _ => False
 | .nilCheck x =>
  match evD s.env x with
  | .pel r => K (s.put dst (.pel r))
  | .ref k o => K (s.put dst (.ref k o))
  | .rel k z i j => K (s.put dst (.rel k z i j))
  | _ => False
 | .makeFunc (.func f) first cap => if first.size = 0 then K (s.put dst (.fn f (cap.toList.map (evD s.env)))) else False
 | .makeInterface t x => P.concrete t = true ∧ K (s.put dst (.ifc t (evD s.env x)))
 | .build t parts => opt (qBuild T t (parts.toList.map fun p => (p.1, evD s.env p.2))) fun d => K (s.put dst d)
 | .buildSlice t len parts => opt (qRows T t len (parts.toList.map fun p => (p.1, evD s.env p.2))) fun r =>
   if own then K (St.put ⟨s.env, s.om ++ [.slc r.1 r.2.1 r.2.2]⟩ dst (.own s.om.length)) else K (s.put dst (.sl r.2.1 r.2.2))
 | .makeSlice t l c =>
  match T t, evD s.env l, evD s.env c with
  | some ⟨.slice e, _, _, _⟩, .v (.int _ n), .v (.int _ m) =>
   match T e with
   | some ei => 0 < ei.size ∧ 0 ≤ n ∧ n ≤ m ∧ ei.bytes * m ≤ 281474976710656 ∧ m ≤ 281474976710656 ∧ (if own then K (St.put ⟨s.env, s.om ++ [.slc e ei.size (List.replicate n.toNat (zeroD ei))]⟩ dst (.own s.om.length)) else K (s.put dst (.sl ei.size (List.replicate n.toNat (zeroD ei)))))
   | none => False
  | _, _, _ => False
 | .box t x => opt (cellsOf (evD s.env x)) fun c => if own then K (St.put ⟨s.env, s.om ++ [.var t c]⟩ dst (.ref s.om.length 0)) else K (s.put dst (.pel c))
 | .alloc t => opt (T t) fun i => K (St.put ⟨s.env, s.om ++ [.var t (zeroD i)]⟩ dst (.ref s.om.length 0))
 | .store t a x => opt (qStore T s.om t (evD s.env a) (evD s.env x)) fun om' => K (St.put ⟨s.env, om'⟩ dst .any)
 | .call c => aCall P T c dst s K KP
 | .panic x =>
  match evD s.env x with
  | .ifc t d => KP (.ifc t d) s
  | _ => False
 | _ => False
section
variable {P : Program} {T : Tab} {E : Env}
def notDefer (o : Oper) : Prop := ∀ c, o.op ≠ .defer c
def Done (lo : Lo) (P : Program) (o : Oper) (a : Act) (E : Env) (s : St) (K : St → Prop) (KP : D → St → Prop) (next : Act → World → Prop) (Q : Exit → Act → World → Prop) : Prop :=
 ∀ r, notDefer o → (∀ E' s' a', K s' → Ext E s.om E' s'.om → Sat lo E' s' a' → next a' E'.w) → (∀ E' s' y d, KP d s' → Ext E s.om E' s'.om → Sat lo E' s' a → Rd E' d y → Q (.panic [{ v := y, recovered := false }]) a E'.w) → o.wpIn (fence r) 0 P a E.w next Q
theorem Done.of {lo : Lo} {o : Oper} {a : Act} {s : St} {K : St → Prop} {KP : D → St → Prop} {next : Act → World → Prop} {Q : Exit → Act → World → Prop}
  (h : ∀ r, (∀ E' s' a', K s' → Ext E s.om E' s'.om → Sat lo E' s' a' → next a' E'.w) → (∀ E' s' y d, KP d s' → Ext E s.om E' s'.om → Sat lo E' s' a → Rd E' d y → Q (.panic [{ v := y, recovered := false }]) a E'.w) →
   o.uponIn (fence r) 0 P a next Q ((execOp a.eval o).run P E.w)) : Done lo P o a E s K KP next Q := by
 intro r hd h1 h2
 refine ⟨fun _ _ => trivial, ?_⟩
 rw [Oper.semAt_eq _ _ _ hd]
 exact h r h1 h2
theorem Done.value {lo : Lo} {o : Oper} {a : Act} {s : St} {K : St → Prop} {KP : D → St → Prop} {next : Act → World → Prop} {Q : Exit → Act → World → Prop} (hs : Sat lo E s a) {m : Sem Value} (ho : execOp a.eval o = (do pure (.value (← m)))) {d : D}
  {z : Value} (hrun : m.run P E.w = .ok z E.w) (hd : Rd E d z) (h : K (s.put o.dst d)) : Done lo P o a E s K KP next Q := by
 refine .of fun r hn _ => ?_
 rw [ho]
 simp only [Sem.run_bind, hrun, Result.andThen_ok, Sem.run_pure, Oper.uponIn]
 have hx := Ext.refl E s.om
 refine hn E _ _ h ?_ (hs.put hx hs.rel hd o.dst)
 cases o.dst <;> exact hx
theorem Done.eff {lo : Lo} {o : Oper} {a : Act} {s : St} {K : St → Prop} {KP : D → St → Prop} {next : Act → World → Prop} {Q : Exit → Act → World → Prop} (hs : Sat lo E s a) {m : Sem Value} (ho : execOp a.eval o = (do pure (.value (← m)))) {d : D} {om' : List Ob}
  (he : Eff P m E s.om d om') (h : K (St.put ⟨s.env, om'⟩ o.dst d)) : Done lo P o a E s K KP next Q := by
 refine .of fun r hn _ => ?_
 obtain ⟨E', z, hrun, hx, hr, hd⟩ := he
 rw [ho]
 simp only [Sem.run_bind, hrun, Result.andThen_ok, Sem.run_pure, Oper.uponIn]
 refine hn E' _ _ h ?_ (hs.put hx hr hd o.dst)
 cases o.dst <;> exact hx
theorem mapParts {lo : Lo} {s : St} {a : Act} (hs : Sat lo E s a) (parts : List (Nat × Operand)) :
  (∀ (j n : Nat) (d : D), (parts.map fun p => (p.1, evD s.env p.2))[j]? = some (n, d) → ∃ y, (parts.map fun p => (p.1, a.eval p.2))[j]? = some (n, y) ∧ Rd E d y) := by
 intro j n d hj
 simp only [List.getElem?_map, Option.map_eq_some_iff, Prod.mk.injEq] at hj
 obtain ⟨p, hp, rfl, rfl⟩ := hj
 exact ⟨a.eval p.2, by simp [hp], hs.ev p.2⟩
theorem optArg {lo : Lo} {s : St} {a : Act} (hs : Sat lo E s a) (x : Option Operand) : (∀ d, x.map (evD s.env) = some d → ∃ v, x.map a.eval = some v ∧ Rd E d v) ∧ (x.map (evD s.env) = none → x.map a.eval = none) := by
 cases x with
 | none => simp
 | some x => exact ⟨fun d hd => ⟨a.eval x, rfl, by simp only [Option.map_some, Option.some.injEq] at hd; subst hd; exact hs.ev x⟩, by simp⟩
theorem callFunc_ok {f : FuncId} (h : callOk P f = true) (w : World) (args : Array Value) : (callFunc f args).run P w = .ok (.enter f args) w := by
 unfold callOk at h
 cases hf : P.funcs[f]? with
 | none => simp [hf] at h
 | some fn =>
  simp only [hf, Bool.and_eq_true, Bool.not_eq_true', beq_eq_false_iff_ne] at h
  have hb : fn.body.isNone = false := by cases hb : fn.body <;> simp_all
  unfold callFunc
  simp [hf, h.2, hb]
  intro h0
  simp [h0] at h
theorem OutR.ret_inv {E : Env} {d : D} {e : Ending} (h : OutR E (.ret d) e) : ∃ y, e = .returned y ∧ Rd E d y := by
 cases e <;> simp only [OutR] at h
 exact ⟨_, rfl, h⟩
theorem OutR.panic_inv {E : Env} {d : D} {e : Ending} (h : OutR E (.panic d) e) : ∃ y, e = .panicked [{ v := y, recovered := false }] ∧ Rd E d y := by
 cases e <;> simp only [OutR] at h
 obtain ⟨y, rfl, hd⟩ := h
 exact ⟨y, rfl, hd⟩
theorem rdA_of_env {lo : Lo} {s : St} {a : Act} (hs : Sat lo E s a) (xs : Array Operand) (cap : List D) (vs : Array Value) (hvs : vs.size = cap.length) (hd : ∀ (j : Nat) (d : D), cap[j]? = some d → Rd E d (vs.getD j undef)) :
  RdA E (xs.toList.map (evD s.env) ++ cap) (xs.map a.eval ++ vs) := by
 refine ⟨by simp [hvs], fun j d hj => ?_⟩
 rw [List.getElem?_append] at hj
 simp only [List.length_map, Array.length_toList] at hj
 split at hj
 ·rename_i hlt
  simp only [List.getElem?_map, Option.map_eq_some_iff, Array.getElem?_toList] at hj
  obtain ⟨x, hx, rfl⟩ := hj
  have e : (xs.map a.eval ++ vs).getD j undef = a.eval x := by
   simp [Array.getD_eq_getD_getElem?, Array.getElem?_append, hlt]
   rw [(Array.getElem?_eq_some_iff.1 hx).2]
  rw [e]
  exact hs.ev x
 ·rename_i hge
  have e : (xs.map a.eval ++ vs).getD j undef = vs.getD (j - xs.size) undef := by
   simp [Array.getD_eq_getD_getElem?, Array.getElem?_append, hge]
  rw [e]
  exact hd _ _ hj
theorem aCall_ok {lo : Lo} (hT : TabOk P T) {o : Oper} {c : Call} (ho : o.op = .call c) {a : Act} {s : St} (hs : Sat lo E s a) {K : St → Prop} {KP : D → St → Prop} {next : Act → World → Prop} {Q : Exit → Act → World → Prop}
  (h : aCall P T c o.dst s K KP) : Done lo P o a E s K KP next Q := by
 unfold aCall at h
 split at h
 ·rename_i f hc
  split at h
  ·rename_i g cap hf
   obtain ⟨R, ⟨hok, hR⟩, hK⟩ := h
   have hv := hs.ev f
   rw [hf] at hv
   refine .of fun r hn hp => ?_
   generalize hvf : a.eval f = vf at hv
   cases hv with
   | fn vs hvs hd =>
    have hargs := rdA_of_env hs c.args cap vs hvs hd
    have hcall := hR E _ hs.rel hargs
    have hrun : (execOp a.eval o).run P E.w = .ok (.enter g (c.args.map a.eval ++ vs)) E.w := by
     simp only [execOp, ho, resolve, hc, hvf, Deferred.ofValue, Sem.run_bind, Sem.run_pure, Result.andThen_ok, invoke, Array.empty_append]
     rw [callFunc_ok hok]
    rw [hrun]
    simp only [Oper.uponIn]
    refine ⟨fun h => (by simp [Fence.wide] at h), ?_⟩
    refine (calls_fence hcall).mono ?_
    rintro e w' ⟨E', out, om', hRo, rfl, hx, hr, hout⟩
    have hk := hK out om' hRo
    cases out with
    | ret d =>
     obtain ⟨y, rfl, hd⟩ := hout.ret_inv
     refine hn E' _ _ hk ?_ (hs.put hx hr hd o.dst)
     cases o.dst <;> exact hx
    | panic d =>
     obtain ⟨y, rfl, hd⟩ := hout.panic_inv
     exact hp E' ⟨s.env, om'⟩ y d hk hx ⟨hr, hs.defs.ext hs.rel hx, hs.size, fun t => (hs.rd t).ext hs.rel hx⟩ hd
  ·rename_i k hf
   obtain ⟨R, hR, hK⟩ := h
   have hv := hs.ev f
   rw [hf] at hv
   refine .of fun r hn hp => ?_
   generalize hvf : a.eval f = vf at hv
   cases hv with
   | yld hk hg =>
    rename_i b
    have hargs : RdA E (c.args.toList.map (evD s.env)) (c.args.map a.eval) := by
     have := rdA_of_env hs c.args [] #[] rfl (fun j d hd => by simp at hd)
     simpa using this
    obtain ⟨fn, tmps, assign, body, hy, hround⟩ := hR E _ b hs.rel hargs hg
    have hrun : (execOp a.eval o).run P E.w = .ok (.round b fn tmps assign body) E.w := by
     simp only [execOp, ho, resolve, hc, hvf, Deferred.ofValue, Sem.run_bind, Sem.run_pure, Result.andThen_ok, invoke, Array.empty_append, Array.append_empty]
     exact hy
    rw [hrun]
    simp only [Oper.uponIn]
    refine ⟨fun h => (by simp [Fence.wide] at h), ?_⟩
    have hround' : RoundIn (fence r) (0 - 1) P b fn tmps assign body E.w _ := hround
    refine hround'.mono ?_
    rintro e w' ⟨E', out, om', hRo, rfl, hx, hr, hout⟩
    have hk := hK out om' hRo
    cases out with
    | ret d =>
     obtain ⟨y, rfl, hd⟩ := hout.ret_inv
     refine hn E' _ _ hk ?_ (hs.put hx hr hd o.dst)
     cases o.dst <;> exact hx
    | panic d =>
     obtain ⟨y, rfl, hd⟩ := hout.panic_inv
     exact hp E' ⟨s.env, om'⟩ y d hk hx ⟨hr, hs.defs.ext hs.rel hx, hs.size, fun t => (hs.rd t).ext hs.rel hx⟩ hd
  ·exact h.elim
 ·rename_i hc
  split at h
  ·rename_i x t hx ht
   obtain ⟨d, hd, hk⟩ := opt_elim h
   have ex : c.args = #[x] := by rw [← Array.toArray_toList (xs := c.args), hx]
   have et : c.argTypes = #[t] := by rw [← Array.toArray_toList (xs := c.argTypes), ht]
   obtain ⟨z, hz, hzd⟩ := qLen_ok hT hs.rel (ty := o.type) hd (hs.ev x)
   refine Done.value hs (m := Builtin.len_ #[t] o.type #[a.eval x]) ?_ hz hzd hk
   simp only [execOp, ho, resolve, hc, ex, et]
   simp [invoke, builtin]
  ·exact h.elim
 ·rename_i hc
  split at h
  ·rename_i b x t t' hx ht
   have ex : c.args = #[b, x] := by rw [← Array.toArray_toList (xs := c.args), hx]
   have et : c.argTypes = #[t, t'] := by rw [← Array.toArray_toList (xs := c.argTypes), ht]
   split at h
   ·rename_i e _ _ _ htt
    split at h
    ·rename_i ei he
     have hb0 := hs.ev b
     split at h
     ·rename_i m hsa
      obtain ⟨⟨ui, hui, huk⟩, hxe⟩ := strArg_some hsa
      obtain ⟨h0, h1, h⟩ := h
      have hxv : a.eval x = .string m := by
       have := hs.ev x
       rw [hxe] at this
       exact this.v_inv
      have hm : execOp a.eval o = (do pure (.value (← Builtin.append_ #[t, t'] o.type #[a.eval b, .string m])) : Sem Next) := by
       rw [← hxv]
       simp only [execOp, ho, resolve, hc, ex, et]
       simp [invoke, builtin]
      split at h
      ·rename_i hbv
       rw [hbv] at hb0
       have := append_str_ok hT hs.rel (ty := o.type) htt rfl hui huk he h0 h1 (rows := []) (s := m) (.inl ⟨hb0.v_inv, rfl, rfl⟩) (by simpa using h.1)
       exact Done.eff hs hm (by simpa using this) h.2
      ·rename_i k hbv
       rw [hbv] at hb0
       split at h
       ·rename_i e' sz rows ho'
        obtain ⟨rfl, rfl, hroom, hk⟩ := h
        have hbe : a.eval b = E.g k := by
         generalize a.eval b = y at hb0
         cases hb0 with
         | own hk => rfl
        have := append_str_ok hT hs.rel (ty := o.type) htt rfl hui huk he h0 h1 (.inr ⟨k, hbe, ho', rfl⟩) hroom
        exact Done.eff hs hm this hk
       ·exact h.elim
      ·exact h.elim
     obtain ⟨rfl, h0, h1, h⟩ := h
     have hm : execOp a.eval o = (do pure (.value (← Builtin.append_ #[t', t'] o.type #[a.eval b, a.eval x])) : Sem Next) := by
      simp only [execOp, ho, resolve, hc, ex, et]
      simp [invoke, builtin]
     have hb' := hs.ev b
     split at h
     ·rename_i hbv
      rw [hbv] at hb'
      obtain ⟨rows', hr, hroom, hk⟩ := opt_elim h
      have := append_ok hT hs.rel (ty := o.type) htt rfl he h0 (rows := []) (.inl ⟨hb'.v_inv, rfl, rfl⟩) hr (hs.ev x) (by simpa using hroom) h1
      exact Done.eff hs hm (by simpa using this) hk
     ·rename_i k hbv
      rw [hbv] at hb'
      split at h
      ·rename_i e' sz rows ho'
       obtain ⟨rfl, rfl, h⟩ := h
       obtain ⟨rows', hr, hroom, hk⟩ := opt_elim h
       have hbe : a.eval b = E.g k := by
        generalize a.eval b = y at hb'
        cases hb' with
        | own hk => rfl
       have := append_ok hT hs.rel (ty := o.type) htt rfl he h0 (.inr ⟨k, hbe, ho', rfl⟩) hr (hs.ev x) hroom h1
       exact Done.eff hs hm this hk
      ·exact h.elim
     ·exact h.elim
    ·exact h.elim
   ·exact h.elim
  ·exact h.elim
 ·rename_i hc
  split at h
  ·rename_i b x t t' hx ht
   have ex : c.args = #[b, x] := by rw [← Array.toArray_toList (xs := c.args), hx]
   have et : c.argTypes = #[t, t'] := by rw [← Array.toArray_toList (xs := c.argTypes), ht]
   split at h
   ·rename_i e _ _ _ htt
    split at h
    ·rename_i ei he
     obtain ⟨h1, h⟩ := h
     have hm : execOp a.eval o = (do pure (.value (← Builtin.copy_ #[t, t'] o.type #[a.eval b, a.eval x])) : Sem Next) := by
      simp only [execOp, ho, resolve, hc, ex, et]
      simp [invoke, builtin]
     have hb' := hs.ev b
     split at h
     ·rename_i k hbv
      rw [hbv] at hb'
      split at h
      ·rename_i e' rows ho'
       obtain ⟨rows', hr, hk⟩ := opt_elim h
       have hbe : a.eval b = E.g k := by
        generalize a.eval b = y at hb'
        cases hb' with
        | own hk => rfl
       rw [hbe] at hm
       exact Done.eff hs hm (copy_ok hT hs.rel (ty := o.type) htt rfl he h1 ho' hr (hs.ev x)) hk
      ·exact h.elim
     ·exact h.elim
    ·exact h.elim
   ·exact h.elim
  ·exact h.elim
 ·rename_i hc
  split at h
  ·rename_i x y hx
   have ex : c.args = #[x, y] := by rw [← Array.toArray_toList (xs := c.args), hx]
   unfold maxP at h
   split at h
   ·rename_i k a' k' b' e1 e2
    have h1 := hs.ev x
    have h2 := hs.ev y
    rw [e1] at h1
    rw [e2] at h2
    refine Done.value hs (m := Builtin.max_ c.argTypes o.type #[a.eval x, a.eval y]) ?_ ?_ (.v _) h
    ·simp only [execOp, ho, resolve, hc, ex]
     simp [invoke, builtin]
    ·rw [h1.v_inv, h2.v_inv]
     rfl
   ·exact h.elim
  ·exact h.elim
 ·rename_i hc
  split at h
  ·rename_i x y hx
   have ex : c.args = #[x, y] := by rw [← Array.toArray_toList (xs := c.args), hx]
   unfold maxP at h
   split at h
   ·rename_i k a' k' b' e1 e2
    have h1 := hs.ev x
    have h2 := hs.ev y
    rw [e1] at h1
    rw [e2] at h2
    refine Done.value hs (m := Builtin.min_ c.argTypes o.type #[a.eval x, a.eval y]) ?_ ?_ (.v _) h
    ·simp only [execOp, ho, resolve, hc, ex]
     simp [invoke, builtin]
    ·rw [h1.v_inv, h2.v_inv]
     rfl
   ·exact h.elim
  ·exact h.elim
 ·exact h.elim
theorem Eff.of_mk {m : Sem Value} {om om' : List Ob} {d : D} {z : Value} {w' : World} (hrun : m.run P E.w = .ok z w') (h : ∃ E', E'.w = w' ∧ Ext E om E' om' ∧ Rel E' om' ∧ Rd E' d z) : Eff P m E om d om' := by
 obtain ⟨E', rfl, h⟩ := h
 exact ⟨E', z, hrun, h⟩
set_option maxHeartbeats 1000000 in
theorem aop_ok {lo : Lo} (hT : TabOk P T) (own : Bool) {o : Oper} {a : Act} {s : St} (hs : Sat lo E s a) {K : St → Prop} {KP : D → St → Prop} {next : Act → World → Prop} {Q : Exit → Act → World → Prop}
  (h : aop P T own o.op o.dst s K KP) : Done lo P o a E s K KP next Q := by
 have hdep : 4 ≤ P.depth := by simp only [Program.depth, Made.depth]; omega
 generalize hop : o.op = op at h
 cases op <;> simp only [aop] at h
 case move x => exact Done.value hs (m := pure (a.eval x)) (by simp [execOp, hop]) rfl (hs.ev x) h
 case assign x => exact Done.value hs (m := pure (a.eval x)) (by simp [execOp, hop]) rfl (hs.ev x) h
 case pick c x y =>
  split at h
  ·rename_i t hc
   have hv := hs.ev c
   rw [hc] at hv
   have hcb := hv.v_inv
   refine Done.value hs (m := pure (if t then a.eval x else a.eval y)) ?_ rfl ?_ h
   ·simp only [execOp, hop, hcb, asBool, pure_bind]
   ·cases t
    ·exact hs.ev y
    ·exact hs.ev x
  ·exact h.elim
 case load t x =>
  obtain ⟨d, hd, hk⟩ := opt_elim h
  obtain ⟨z, hz, hzd⟩ := qLoad_ok hT hs.rel hd (hs.ev x)
  exact Done.value hs (by simp [execOp, hop]) hz hzd hk
 case fieldAddr t x f =>
  obtain ⟨d, hd, hk⟩ := opt_elim h
  obtain ⟨z, hz, hzd⟩ := qFieldAddr_ok hT hd (hs.ev x)
  exact Done.value hs (by simp [execOp, hop]) hz hzd hk
 case indexAddr t x i =>
  obtain ⟨d, hd, hk⟩ := opt_elim h
  obtain ⟨z, hz, hzd⟩ := qIndexAddr_ok hT hs.rel hd (hs.ev x) (hs.ev i)
  exact Done.value hs (by simp [execOp, hop]) hz hzd hk
 case field t x f =>
  obtain ⟨d, hd, hk⟩ := opt_elim h
  obtain ⟨z, hz, hzd⟩ := qField_ok hT hd (hs.ev x)
  exact Done.value hs (by simp [execOp, hop]) hz hzd hk
 case index t x i =>
  obtain ⟨d, hd, hk⟩ := opt_elim h
  obtain ⟨z, hz, hzd⟩ := qIndex_ok hT hd (hs.ev x) (hs.ev i)
  exact Done.value hs (by simp [execOp, hop]) hz hzd hk
 case slice t x lo hi mx =>
  cases mx with
  | some m => exact h.elim
  | none =>
   obtain ⟨d, hd, hk⟩ := opt_elim h
   obtain ⟨z, hz, hzd⟩ := qSlice_ok hT hs.rel hd (hs.ev x) (optArg hs lo).1 (optArg hs lo).2 (optArg hs hi).1 (optArg hs hi).2
   exact Done.value hs (by simp [execOp, hop]) hz hzd hk
 case binOp op t x y yt =>
  obtain ⟨d, hd, hk⟩ := opt_elim h
  obtain ⟨z, hz, hzd⟩ := qBin_ok hT hdep x y hd (hs.ev x) (hs.ev y)
  exact Done.value hs (by simp [execOp, hop]) hz hzd hk
 case unOp op t x =>
  obtain ⟨d, hd, hk⟩ := opt_elim h
  obtain ⟨z, hz, hzd⟩ := qUn_ok hd (hs.ev x)
  exact Done.value hs (by simp [execOp, hop]) hz hzd hk
 case convert t u x =>
  obtain ⟨d, hd, hk⟩ := opt_elim h
  obtain ⟨z, hz, hzd⟩ := qConvO_ok hT hs.rel hd (hs.ev x)
  exact Done.value hs (by simp [execOp, hop]) hz hzd hk
 case extract x i =>
  split at h
  ·rename_i c hc
   obtain ⟨d, hd, hk⟩ := opt_elim h
   have hv := hs.ev x
   rw [hc] at hv
   generalize hy : a.eval x = y at hv
   cases hv with
   | tup vs hvs hvd =>
    have hlt := (List.getElem?_eq_some_iff.1 hd).1
    have hlt' : i < vs.size := by omega
    have hg := hvd i d hd
    refine Done.value hs (m := Instr.extract (.tuple vs) i) (z := vs[i]) (by simp [execOp, hop, hy]) (by simp [Instr.extract, hlt']) (by simpa [Array.getD, hlt'] using hg) hk
  ·exact h.elim
 case nilCheck x =>
  have hv := hs.ev x
  split at h
  ·rename_i r hc
   rw [hc] at hv
   obtain ⟨ad, hy, _⟩ := hv.pel_inv
   exact Done.value hs (m := pure (a.eval x)) (by simp [execOp, hop, hy]) rfl hv h
  ·rename_i k off hc
   rw [hc] at hv
   have hy : ∃ ad, a.eval x = .pointer (some ad) := by
    generalize a.eval x = y at hv
    cases hv with
    | ref _ _ => exact ⟨_, rfl⟩
   obtain ⟨ad, hy⟩ := hy
   exact Done.value hs (m := pure (a.eval x)) (by simp [execOp, hop, hy]) rfl hv h
  ·rename_i k z i j hc
   rw [hc] at hv
   have hy : ∃ ad, a.eval x = .pointer (some ad) := by
    generalize a.eval x = y at hv
    cases hv with
    | rel _ _ => exact ⟨_, rfl⟩
   obtain ⟨ad, hy⟩ := hy
   exact Done.value hs (m := pure (a.eval x)) (by simp [execOp, hop, hy]) rfl hv h
  ·exact h.elim
 case makeFunc fn first cap =>
  cases fn <;> simp only at h <;> try exact h.elim
  rename_i f
  split at h
  ·rename_i h0
   have e0 : first = #[] := Array.eq_empty_of_size_eq_zero h0
   refine Done.value hs (m := Instr.makeFunc (.func f) (first.map a.eval) (cap.map a.eval)) (by simp [execOp, hop]) (z := .func (.func f) #[] (cap.map a.eval)) (by simp [Instr.makeFunc, e0]) ?_ h
   refine .fn _ (by simp) fun j d hj => ?_
   simp only [List.getElem?_map, Option.map_eq_some_iff, Array.getElem?_toList] at hj
   obtain ⟨x, hx, rfl⟩ := hj
   have e : (cap.map a.eval).getD j undef = a.eval x := by simp [Array.getD_eq_getD_getElem?, hx]
   rw [e]
   exact hs.ev x
  ·exact h.elim
 case makeInterface t x =>
  exact Done.value hs (m := Instr.makeInterface t (a.eval x)) (by simp [execOp, hop]) (run_makeInterface E.w t _ h.1) (.ifc (hs.ev x)) h.2
 case build t parts =>
  obtain ⟨d, hd, hk⟩ := opt_elim h
  obtain ⟨z, hz, hzd⟩ := qBuild_ok hT hs.rel (pv := parts.toList.map fun p => (p.1, a.eval p.2)) hd (by simp) (mapParts hs _)
  have hpe : (parts.map fun (i, x) => (i, a.eval x)) = (parts.toList.map fun p => (p.1, a.eval p.2)).toArray := by
   apply Array.ext'
   simp
  exact Done.value hs (m := Instr.build t (parts.map fun (i, x) => (i, a.eval x))) (by simp [execOp, hop]) (by rw [hpe]; exact hz) hzd hk
 case buildSlice t len parts =>
  obtain ⟨⟨e, sz, rows⟩, hd, hk⟩ := opt_elim h
  obtain ⟨cs, h1, h2, h3, h4, h5, h6⟩ := qRows_ok hT hs.rel (pv := parts.toList.map fun p => (p.1, a.eval p.2)) hd (by simp) (mapParts hs _)
  have hrun := h1 E.w rfl
  have hpe : (parts.map fun (i, x) => (i, a.eval x)) = (parts.toList.map fun p => (p.1, a.eval p.2)).toArray := by
   apply Array.ext'
   simp
  have hexec : execOp a.eval o = (do pure (.value (← Instr.buildSlice t len (parts.toList.map fun p => (p.1, a.eval p.2)).toArray)) : Sem Next) := by
   rw [← hpe]
   simp only [execOp, hop]
  dsimp only at hk
  cases own with
  | true =>
   simp only [if_true] at hk
   have hE := Eff.of_mk hrun (newRow_ok hs.rel e sz h2 h3 h4 h5 h6)
   exact Done.eff hs hexec hE hk
  | false =>
   simp only [Bool.false_eq_true, if_false] at hk
   have hE := Eff.of_mk hrun (newImm_ok hs.rel e sz h3 h5 h6)
   exact Done.eff hs hexec hE hk
 case makeSlice t l c =>
  split at h
  ·rename_i e _ _ _ k n k' m ht hl hc
   split at h
   ·rename_i ei he
    obtain ⟨h0, h1, hnm, h2, h3, hk⟩ := h
    have el := hs.ev l
    have ec := hs.ev c
    rw [hl] at el
    rw [hc] at ec
    have el := el.v_inv
    have ec := ec.v_inv
    obtain ⟨inf, z, hinf, hsize, hbytes, hzero, hz, _⟩ := (hT _ _ he).info
    obtain ⟨q, rfl⟩ := Int.eq_ofNat_of_zero_le h1
    obtain ⟨p, rfl⟩ := Int.eq_ofNat_of_zero_le (Int.le_trans h1 hnm)
    have hqp : q ≤ p := by omega
    have hzr : RowsR E ei.size (List.replicate q (zeroD ei)) ((Array.range (p * ei.size)).map (z.cells[· % z.cells.size]!)) := by
     intro i r j d hi hj
     have hi' := (List.getElem?_eq_some_iff.1 hi).1
     simp only [List.length_replicate] at hi'
     rw [List.getElem?_replicate_of_lt hi'] at hi
     exact zeroRows_ok (E := E) (hT _ _ he) hz p i r j d (by rw [List.getElem?_replicate_of_lt (by omega)]; exact hi) hj
    have hall : ∀ r ∈ List.replicate q (zeroD ei), r.length = ei.size := by intro r hr; rw [List.eq_of_mem_replicate hr]; simp [zeroD, (hT _ _ he).len]
    have hrun : (Instr.makeSlice t (a.eval l) (a.eval c)).run P E.w = .ok (.slice (some ⟨E.w.heap.size, 0, none⟩) q p) (E.w.alloc (.cells ((Array.range (p * ei.size)).map (z.cells[· % z.cells.size]!)) e)) := by
     rw [el, ec]
     have := run_make (P := P) E.w t e inf z ((hT _ _ ht).slice rfl) hinf hzero k k' (q : Int) (p : Int) h1 (by omega) (by rw [hbytes]; exact h2) (by omega)
     rw [hsize] at this
     simpa [madeCells] using this
    simp only [Int.toNat_natCast] at hk
    cases own with
    | true =>
     simp only [if_true] at hk
     have := newRowC_ok hs.rel e ei.size h0 hall (cs := (Array.range (p * ei.size)).map (z.cells[· % z.cells.size]!)) p (by simp) (by simp only [List.length_replicate]; exact hqp) (by simp only [maxLen]; omega) (hzr.cells hall)
     simp only [List.length_replicate] at this
     exact Done.eff hs (m := Instr.makeSlice t (a.eval l) (a.eval c)) (by simp [execOp, hop]) (Eff.of_mk hrun this) hk
    | false =>
     simp only [Bool.false_eq_true, if_false] at hk
     have := newImmC_ok hs.rel e ei.size hall (cs := (Array.range (p * ei.size)).map (z.cells[· % z.cells.size]!)) p (by simp only [List.length_replicate]; exact hqp) (by simp only [maxLen]; omega) (hzr.cells hall)
     simp only [List.length_replicate] at this
     exact Done.eff hs (m := Instr.makeSlice t (a.eval l) (a.eval c)) (by simp [execOp, hop]) (Eff.of_mk hrun this) hk
   ·exact h.elim
  ·exact h.elim
 case box t x =>
  obtain ⟨c, hc, hk⟩ := opt_elim h
  obtain ⟨h1, h2⟩ := cellsOf_ok hs.rel hc (hs.ev x)
  cases own
  ·refine Done.eff hs (om' := s.om) (m := Instr.box t (a.eval x)) (by simp [execOp, hop]) (Eff.of_mk (z := .pointer (some ⟨E.w.heap.size, 0, none⟩)) (w' := E.w.alloc (.cells (a.eval x).cells t)) ?_ (newImmVar_ok hs.rel t h1 h2)) hk
   simp [Instr.box, newVar, newRow]
  ·refine Done.eff hs (m := Instr.box t (a.eval x)) (by simp [execOp, hop]) (Eff.of_mk (z := .pointer (some ⟨E.w.heap.size, 0, none⟩)) (w' := E.w.alloc (.cells (a.eval x).cells t)) ?_ (newVar_ok hs.rel t h1 h2)) hk
   simp [Instr.box, newVar, newRow]
 case alloc t =>
  obtain ⟨i, hi, hk⟩ := opt_elim h
  obtain ⟨z, hz1, hz2, _⟩ := (hT _ _ hi).zeroValue (w := E.w)
  obtain ⟨h1, h2⟩ := zero_cells (E := E) (hT _ _ hi) hz2
  refine Done.eff hs (m := Instr.alloc t true (.tuple #[])) (by simp [execOp, hop]) (Eff.of_mk (z := .pointer (some ⟨E.w.heap.size, 0, none⟩)) (w' := E.w.alloc (.cells z.cells t)) ?_ (newVar_ok hs.rel t h1 h2)) hk
  simp [Instr.alloc, hz1, newVar, newRow]
 case store t x y =>
  obtain ⟨om', hd, hk⟩ := opt_elim h
  obtain ⟨E', hrun, hx, hr⟩ := qStore_ok hT hs.rel hd (hs.ev x) (hs.ev y)
  refine .of fun r hn _ => ?_
  simp only [execOp, hop, Sem.run_bind, hrun, Result.andThen_ok, Sem.run_pure, Oper.uponIn]
  refine hn E' _ _ hk ?_ (hs.put hx hr (.any undef) o.dst)
  cases o.dst <;> exact hx
 case call c => exact aCall_ok hT hop hs h
 case panic x =>
  split at h
  ·rename_i t d hc
   have hv := hs.ev x
   rw [hc] at hv
   refine .of fun r _ hp => ?_
   generalize hy : a.eval x = y at hv
   cases hv with
   | ifc hd =>
    simp only [execOp, hop, hy, Instr.panic, Sem.run_bind, run_goPanic, Result.andThen_halt, Oper.uponIn]
    exact hp E s _ _ h (Ext.refl _ _) hs (.ifc hd)
  ·exact h.elim
 all_goals exact h.elim
theorem aop_notDefer {own : Bool} {o : Oper} {dst : Option Tmp} {s : St} {K : St → Prop} {KP : D → St → Prop} (h : aop P T own o.op dst s K KP) : notDefer o := by
 intro c hc
 rw [hc] at h
 exact h
end
end Go.Proofs.YtlejbkfefpfolaaGreatDoor.AWP
