/- A function that defers one call of a function literal, behind its first region. -/
import Derived.Test.YtlejbkfefpfolaaGreatDoorAwpU
import Derived.RangeFuncLeaves
import Derived.RecoverIn
set_option linter.unusedVariables false
set_option linter.unusedSimpArgs false
set_option linter.unusedSectionVars false
namespace Go.Proofs.YtlejbkfefpfolaaGreatDoor.AWP
open Go
def ModeR (E : Env) : Option D → FrameMode → Prop
 | none, m => m = .returning
 | some d, m => ∃ y, m = .panicking [{ v := y, recovered := false }] ∧ Rd E d y
def DR (E : Env) (om : List Ob) (R : List Ob → Prop) : Ending → FrameMode → World → Prop
 | .returned _, u, w => settle u = .returning ∧ ∃ E' om', R om' ∧ E'.w = w ∧ Ext E om E' om' ∧ Rel E' om'
 | _, _, _ => False
def DC (P : Program) (f : FuncId) (ds : List D) (om : List Ob) (u : Option D) (R : List Ob → Prop) : Prop :=
 callOk P f = true ∧ ∀ E vs m, Rel E om → RdA E ds vs → ModeR E u m → CallsDIn Fence.wide 0 P f vs m E.w (DR E om R)
def defQ (P : Program) (T : Tab) (rs : List ResultVar) (om0 : List Ob) (R : Out → List Ob → Prop) (g : FuncId) (caps : List D) : AX → St → Prop
 | .norm, s | .ret, s => ∃ R1, DC P g caps s.om none R1 ∧ ∀ om1, R1 om1 → opt (resD T ⟨s.env, om1⟩ rs) fun d => Fin om0 om1 (.ret d) R
 | .panic e, s => ∃ R1, DC P g caps s.om (some e) R1 ∧ ∀ om1, R1 om1 → opt (resD T ⟨s.env, om1⟩ rs) fun d => Fin om0 om1 (.ret d) R
 | .exit _, _ => False
theorem CallsDIn.mono {F : Fence} {n : Nat} {P : Program} {f : FuncId} {args : Array Value} {u : FrameMode} {w : World} {R R' : Ending → FrameMode → World → Prop} (h : CallsDIn F n P f args u w R) (hr : ∀ e u w, R e u w → R' e u w) : CallsDIn F n P f args u w R' :=
 ⟨h.1, fun c cs hm hroom => let ⟨e, u', w', fr, h1, h2⟩ := h.2 c cs hm hroom; ⟨e, u', w', fr, hr _ _ _ h1, h2⟩⟩
theorem Rd.fn_inv {E : Env} {g : FuncId} {caps : List D} {y : Value} (h : Rd E (.fn g caps) y) : ∃ vs, y = .func (.func g) #[] vs ∧ RdA E caps vs := by
 cases h with
 | fn vs hs hd => exact ⟨vs, rfl, hs, hd⟩
theorem RdA.ext {E E' : Env} {om om' : List Ob} (hR : Rel E om) (hx : Ext E om E' om') {ds : List D} {vs : Array Value} (h : RdA E ds vs) : RdA E' ds vs :=
 ⟨h.1, fun j d hj => (h.2 j d hj).ext hR hx⟩
section
variable {P : Program} {T : Tab}
theorem Sat.enter {nr : Bool} {fn : Func} {E : Env} {ds : List D} {om : List Ob} {vs : Array Value} (hR : Rel E om) (hA : RdA E ds vs) :
  Sat ⟨E.w.heap.size, [], nr⟩ E ⟨ds ++ List.replicate (fn.ntmps - ds.length) D.any, om⟩ { tmps := vs ++ Array.replicate (fn.ntmps - vs.size) undef, defers := [] } := by
 refine ⟨hR, Marks.nil (Nat.le_refl _), by simp [hA.1], fun t => ?_⟩
 by_cases ht : t < ds.length
 ·have h1 : (ds ++ List.replicate (fn.ntmps - ds.length) D.any).getD t .any = ds[t] := by
   simp [List.getD_eq_getElem?_getD, List.getElem?_append, ht]
  have h2 : (vs ++ Array.replicate (fn.ntmps - vs.size) undef).getD t undef = vs.getD t undef := by
   have : t < vs.size := by rw [hA.1]; exact ht
   simp [Array.getD_eq_getD_getElem?, Array.getElem?_append, this]
  show Rd E ((ds ++ List.replicate (fn.ntmps - ds.length) D.any).getD t .any) _
  rw [h1]
  have := hA.2 t ds[t] (List.getElem?_eq_getElem ht)
  rwa [← h2] at this
 ·have h1 : (ds ++ List.replicate (fn.ntmps - ds.length) D.any).getD t .any = .any := by
   simp only [List.getD_eq_getElem?_getD, List.getElem?_append, ht, if_false, List.getElem?_replicate]
   split <;> rfl
  show Rd E ((ds ++ List.replicate (fn.ntmps - ds.length) D.any).getD t .any) _
  rw [h1]
  exact .any _
theorem leave_D (hT : TabOk P T) {fn : Func} {rs : List ResultVar} (hrs : fn.results.toList = rs) {g : FuncId} {caps : List D} {vs : Array Value} {om : List Ob} {E E1 E3 : Env} {s1 s3 : St} {a3 : Act} {u : Option D} {m : FrameMode} {bs : List Nat} {R : Out → List Ob → Prop}
  (hR : Rel E om) (hx1 : Ext E om E1 s1.om) (hR1 : Rel E1 s1.om) (hv : RdA E1 caps vs) (hnd : bs.Nodup) (hbs : ∀ b ∈ bs, E.w.heap.size ≤ b ∧ E1.w.heap[b]? = some (.deferred (some [])))
  (hx3 : Ext E1 s1.om E3 s3.om) (hs3 : Sat ⟨E1.w.heap.size, { target := .fn (.func g) vs, args := #[] } :: bs.map mark, false⟩ E3 s3 a3) (hm : ModeR E3 u m) (hrun : m ≠ .run)
  (h : ∃ R1, DC P g caps s3.om u R1 ∧ ∀ om1, R1 om1 → opt (resD T ⟨s3.env, om1⟩ rs) fun d => Fin om om1 (.ret d) R) :
  LeavesInM Fence.wide 0 P fn a3.tmps (fun e w' => ∃ E' o om', R o om' ∧ E'.w = w' ∧ Ext E om E' om' ∧ Rel E' om' ∧ OutR E' o e) a3.defers m E3.w := by
 subst hrs
 obtain ⟨R1, hdc, hres⟩ := h
 obtain ⟨h0, bs3, hnd3, hds3, hbs3, _⟩ := hs3.defs
 simp only at h0 hds3 hbs3
 rw [hds3]
 refine leave_marks hrun bs3 E3 hs3.rel hnd3 hbs3 fun E4 ht => ?_
 have hx4 : Ext E1 s1.om E4 s3.om := hx3.turn ht
 have hv4 : RdA E4 caps vs := hv.ext hR1 hx4
 have hm4 : ModeR E4 u m := by
  cases u with
  | none => exact hm
  | some d => obtain ⟨y, h1, h2⟩ := hm; exact ⟨y, h1, ht.rd _ _ h2⟩
 have hbs4 : ∀ b ∈ bs, E.w.heap.size ≤ b ∧ E4.w.heap[b]? = some (.deferred (some [])) := fun b hb => by
  refine ⟨(hbs b hb).1, ?_⟩
  rw [hx4.keep b (Array.getElem?_eq_some_iff.1 (hbs b hb).2).1 (hR1.no_df (hbs b hb).2)]
  exact (hbs b hb).2
 refine ⟨hrun, .inr ⟨by simp [Fence.wide], .func g, vs, g, vs, rfl, ?_, fun _ _ => trivial, ?_⟩⟩
 ·simp only [invoke, Array.empty_append]
  exact callFunc_ok hdc.1 _ _
 refine (hdc.2 E4 vs m ht.rel hv4 hm4).mono ?_
 rintro e u' w' hdr
 cases e with
 | panicked ch => exact hdr.elim
 | outgrown => exact hdr.elim
 | returned v =>
  obtain ⟨hset, E5, om1, hr1, rfl, hx5, hR5⟩ := hdr
  show LeavesInM Fence.wide 0 P fn a3.tmps _ (bs.map mark) (settle u') E5.w
  rw [hset, ← List.append_nil (bs.map mark)]
  have hbs5 : ∀ b ∈ bs, E.w.heap.size ≤ b ∧ E5.w.heap[b]? = some (.deferred (some [])) := fun b hb => by
   refine ⟨(hbs4 b hb).1, ?_⟩
   rw [hx5.keep b (Array.getElem?_eq_some_iff.1 (hbs4 b hb).2).1 (ht.rel.no_df (hbs4 b hb).2)]
   exact (hbs4 b hb).2
  refine leave_marks (by simp) bs E5 hR5 hnd hbs5 fun E6 ht6 => ?_
  obtain ⟨d, hd, hfin⟩ := opt_elim (hres om1 hr1)
  have hsat' : Sat ⟨0, [], false⟩ E6 ⟨s3.env, om1⟩ { a3 with defers := [] } := ⟨ht6.rel, Marks.nil (Nat.zero_le _), hs3.size, fun t => ht6.rd _ _ ((ht.rd _ _ (hs3.rd t)).ext ht.rel hx5)⟩
  obtain ⟨y, hy, hyd⟩ := resD_ok hT hsat' hd
  refine ⟨y, hy, hfin E E6 (.returned y) hR ?_ ht6.rel hyd⟩
  exact (hx1.trans (hx4.trans hx5)).turn ht6
theorem two_ops {ops : Array Oper} {x y : LOp} (h : ops.toList.map lop = [x, y]) : ∃ o0 o1, ops = #[o0, o1] ∧ lop o0 = x ∧ lop o1 = y := by
 obtain ⟨l⟩ := ops
 cases l with
 | nil => cases h
 | cons a l =>
  cases l with
  | nil => rw [List.map_cons] at h; injection h with _ h; cases h
  | cons b l =>
   cases l with
   | nil =>
    rw [List.map_cons, List.map_cons] at h
    injection h with h1 h
    injection h with h2 h
    exact ⟨a, b, rfl, h1, h2⟩
   | cons c l =>
    rw [List.map_cons, List.map_cons, List.map_cons] at h
    injection h with _ h
    injection h with _ h
    cases h
theorem run_defer {a : Act} {o : Oper} {t : Tmp} {tys : Array TypeId} {g : FuncId} {vc : Array Value} {w : World} (q : o.op = .defer ⟨.value (.tmp t), #[], tys⟩) (h : a.tmps.getD t undef = .func (.func g) #[] vc) :
  (execOp a.eval o).run P w = .ok (.defer { target := .fn (.func g) vc, args := #[] }) w := by
 have h' : a.eval (.tmp t) = .func (.func g) #[] vc := h
 simp [execOp, q, resolve, h', Deferred.ofValue]
theorem defer_ok (hT : TabOk P T) {lo : Lo} {o0 o1 : Oper} {t : Tmp} {dd : Option Tmp} {g : FuncId} {cap : Array Operand} {tys : Array TypeId} (e0 : lop o0 = ⟨some t, .makeFunc (.func g) #[] cap, none⟩) (e1 : lop o1 = ⟨dd, .defer ⟨.value (.tmp t), #[], tys⟩, none⟩)
  {E1 : Env} {s1 : St} {a1 : Act} (hsat : Sat lo E1 s1 a1) (ht : t < s1.env.length) {K : Exit → Act → World → Prop}
  (hk : ∀ (E2 : Env) (a2 : Act) (vc : Array Value), Ext E1 s1.om E2 s1.om → Rel E2 s1.om → RdA E2 (cap.toList.map (evD s1.env)) vc → Marks lo E2 a2.defers →
   Sat ⟨E2.w.heap.size, { target := .fn (.func g) vc, args := #[] } :: a2.defers, false⟩ E2 ((s1.put (some t) (.fn g (cap.toList.map (evD s1.env)))).put dd (.v undef)) ({ a2 with defers := { target := .fn (.func g) vc, args := #[] } :: a2.defers }.put dd undef) →
   K .normal ({ a2 with defers := { target := .fn (.func g) vc, args := #[] } :: a2.defers }.put dd undef) E2.w) :
  wpOpsIn (fence none) 0 P #[o0, o1] K [0, 1] a1 E1.w := by
 simp only [lop, LOp.mk.injEq] at e0 e1
 obtain ⟨d0, q0, g0⟩ := e0
 obtain ⟨d1, q1, g1⟩ := e1
 have ha : aop P T false o0.op o0.dst s1 (fun s' => s' = s1.put (some t) (.fn g (cap.toList.map (evD s1.env)))) (fun _ _ => False) := by
  rw [q0, d0]
  simp [aop]
 have w0 : Region.wanted o0 (yielded #[o0, o1] a1.tmps) = true := by unfold Region.wanted; rw [g0]
 have henv : (s1.put (some t) (.fn g (cap.toList.map (evD s1.env)))).env.getD t .any = .fn g (cap.toList.map (evD s1.env)) := by
  show (s1.env.set t _).getD t .any = _
  simp [List.getD_eq_getElem?_getD, ht]
 unfold wpOpsIn
 show if Region.wanted o0 (yielded #[o0, o1] a1.tmps) = true then _ else _
 rw [if_pos w0]
 refine aop_ok hT false hsat ha none (aop_notDefer ha) ?_ (fun E' s' y d hk _ _ _ => hk.elim)
 rintro E2 s2 a2 rfl hx2 hs2
 have w1 : Region.wanted o1 (yielded #[o0, o1] a2.tmps) = true := by unfold Region.wanted; rw [g1]
 have hval := hs2.rd t
 rw [henv] at hval
 obtain ⟨vc, hvc, hva⟩ := hval.fn_inv
 unfold wpOpsIn
 show if Region.wanted o1 (yielded #[o0, o1] a2.tmps) = true then _ else _
 rw [if_pos w1]
 refine ⟨fun _ _ => trivial, ?_⟩
 show o1.uponIn (fence none) 0 P a2 _ _ ((execOp a2.eval o1).run P E2.w)
 rw [run_defer q1 hvc, Oper.uponIn_defer, d1]
 unfold wpOpsIn
 refine hk E2 a2 vc hx2 hs2.rel hva hs2.defs ?_
 have hs2' : Sat ⟨E2.w.heap.size, { target := .fn (.func g) vc, args := #[] } :: a2.defers, false⟩ E2 (s1.put (some t) (.fn g (cap.toList.map (evD s1.env)))) { a2 with defers := { target := .fn (.func g) vc, args := #[] } :: a2.defers } :=
  ⟨hs2.rel, Marks.base (lo := ⟨E2.w.heap.size, _, false⟩) (Nat.le_refl _), hs2.size, hs2.rd⟩
 exact hs2'.put (Ext.refl E2 _) hs2.rel (.v undef) dd
theorem AC.bodyD (hT : TabOk P T) {f : FuncId} {fn : Func} {c0 c2 : Code} {id1 : Nat} {ops1 : Array Oper} (hf : P.funcs[f]? = some fn) (hb : fn.body = some (.seq c0 (.seq (.region id1 ops1 false) c2))) (hn : (fn.name == "runtime.NumGoroutine") = false)
  {rs : List ResultVar} (hrs : fn.results.toList = rs) {n : Nat} (hnt : fn.ntmps = n) {g : FuncId} {cap : Array Operand} {t : Tmp} {dd : Option Tmp} {tys : Array TypeId}
  (hops : ops1.toList.map lop = [⟨some t, .makeFunc (.func g) #[] cap, none⟩, ⟨dd, .defer ⟨.value (.tmp t), #[], tys⟩, none⟩]) {ds : List D} {om : List Ob} {R : Out → List Ob → Prop}
  (h : AW om.length P c0 (fun x s => x = .norm ∧ t < s.env.length ∧ AW s.om.length P c2 (defQ P T rs om R g (cap.toList.map (evD s.env))) ((s.put (some t) (.fn g (cap.toList.map (evD s.env)))).put dd (.v undef))) ⟨ds ++ List.replicate (n - ds.length) D.any, om⟩) : AC P f ds om R := by
 subst hnt
 obtain ⟨o0, o1, rfl, e0, e1⟩ := two_ops hops
 have hr2 : List.range (#[o0, o1] : Array Oper).size = [0, 1] := rfl
 have hom : ∀ (s : St) (x y : D), ((s.put (some t) x).put dd y).om = s.om := fun s x y => by cases dd <;> rfl
 refine ⟨by simp [callOk, hf, hb, hn], fun E vs hR hA => ?_⟩
 have st : c0.wpIn (fence none) 0 P (Exit.then ((Code.seq (.region id1 #[o0, o1] false) c2).wpIn Fence.wide 0 P (bodyPostM Fence.wide 0 P fn fun e w' => ∃ E' o om', R o om' ∧ E'.w = w' ∧ Ext E om E' om' ∧ Rel E' om' ∧ OutR E' o e)) (bodyPostM Fence.wide 0 P fn fun e w' => ∃ E' o om', R o om' ∧ E'.w = w' ∧ Ext E om E' om' ∧ Rel E' om' ∧ OutR E' o e))
   { tmps := vs ++ Array.replicate (fn.ntmps - vs.size) undef, defers := [] } E.w := by
  refine wpIn_mono (h none _ E _ ⟨.inl rfl, fun h => by cases h⟩ (Nat.le_of_eq hR.len) (Sat.enter (nr := false) hR hA)) ?_
  rintro e a1 w1 ⟨E1, x, s1, ⟨rfl, ht, h2⟩, hx, rfl, hext, hsat⟩
  have hext' : Ext E om E1 s1.om := ExtB.toExt (hR.len ▸ hext)
  cases e <;> simp only [cx] at hx
  show (Code.seq (.region id1 #[o0, o1] false) c2).wpIn Fence.wide 0 P _ a1 E1.w
  refine wpIn_seq (wpIn_region ?_)
  rw [hr2]
  refine defer_ok hT e0 e1 hsat ht ?_
  intro E2 a2 vc hx2 hR2 hva hm2 hs2
  obtain ⟨m0, bs, hnd, hds, hbs, _⟩ := hm2
  simp only at m0 hds hbs
  rw [List.append_nil] at hds
  have hx02 : Ext E om E2 s1.om := hext'.trans hx2
  have hlen : s1.om.length = E2.n := hR2.len
  show c2.wpIn Fence.wide 0 P _ _ E2.w
  refine wpIn_mono (h2 none _ E2 _ ⟨.inl rfl, fun h => by cases h⟩ (Nat.le_of_eq hlen) hs2) ?_
  rintro e a3 w3 ⟨E3, x, s3, hq, hx3, rfl, hext3, hs3⟩
  rw [hom] at hext3
  rw [hlen] at hext3
  have hx3' := ExtB.toExt hext3
  rw [hds] at hs3
  cases x <;> cases e <;> simp only [cx] at hx3 <;> simp only [defQ] at hq
  ·exact leave_D hT hrs (u := none) (m := .returning) hR hx02 hR2 hva hnd hbs hx3' hs3 rfl (by simp) hq
  ·exact leave_D hT hrs (u := none) (m := .returning) hR hx02 hR2 hva hnd hbs hx3' hs3 rfl (by simp) hq
  ·obtain ⟨y, rfl, hd⟩ := hx3
   exact leave_D hT hrs (u := some _) (m := .panicking _) hR hx02 hR2 hva hnd hbs hx3' hs3 ⟨_, rfl, hd⟩ (by simp) hq
 exact (callsIn_wide (n := 0)).1 (callsIn_of_wp_marks hf hb trivial (wpIn_seq st))
def recD : Option D → D
 | none => .v .nilIface
 | some d => d
theorem one_op {ops : Array Oper} {x : LOp} (h : ops.toList.map lop = [x]) : ∃ o0, ops = #[o0] ∧ lop o0 = x := by
 obtain ⟨l⟩ := ops
 cases l with
 | nil => cases h
 | cons a l =>
  cases l with
  | nil =>
   rw [List.map_cons] at h
   injection h with h1 h
   exact ⟨a, rfl, h1⟩
  | cons b l =>
   rw [List.map_cons, List.map_cons] at h
   injection h with _ h
   cases h
theorem run_recover {a : Act} {o : Oper} {tys : Array TypeId} {w : World} (q : o.op = .call ⟨.builtin .recover, #[], tys⟩) : (execOp a.eval o).run P w = .ok .recover w := by
 simp [execOp, q, resolve, invoke, builtin]
theorem recover_ok {F : Fence} {n : Nat} (hro : F.round = none) (hF : F.fn = fun _ => True) {o0 : Oper} {t : Option Tmp} {tys : Array TypeId} (e0 : lop o0 = ⟨t, .call ⟨.builtin .recover, #[], tys⟩, none⟩) {Q : Exit → Act → List Frame → World → Prop} {a : Act} {c₀ : Frame} {cs : List Frame} {w : World} {c2 : Code} {Q2 : Exit → Act → List Frame → World → Prop}
  {y : Value} {cs' : List Frame} (hrec : (recoverD (c₀ :: cs) = some (y, cs')) ∨ (recoverD (c₀ :: cs) = none ∧ y = .nilIface ∧ cs' = c₀ :: cs)) (h : Q .normal (a.put t y) cs' w) :
  wpOpsSIn F n P #[o0] Q [0] a (c₀ :: cs) w := by
 simp only [lop, LOp.mk.injEq] at e0
 obtain ⟨d0, q0, g0⟩ := e0
 have w0 : Region.wanted o0 (yielded #[o0] a.tmps) = true := by unfold Region.wanted; rw [g0]
 unfold wpOpsSIn
 refine ⟨fun f _ => by rw [hF]; trivial, ?_⟩
 show if Region.wanted o0 (yielded #[o0] a.tmps) = true then _ else _
 rw [if_pos w0, show (#[o0] : Array Oper)[0] = o0 from rfl, run_recover q0, d0]
 rcases hrec with hrec | ⟨hrec, rfl, rfl⟩
 ·rw [hrec]
  exact h
 ·rw [hrec]
  exact h
theorem DC.body (hT : TabOk P T) {f : FuncId} {fn : Func} {c2 : Code} {id0 : Nat} {ops0 : Array Oper} (hf : P.funcs[f]? = some fn) (hb : fn.body = some (.seq (.region id0 ops0 false) c2)) (hn : (fn.name == "runtime.NumGoroutine") = false)
  (hrs : fn.results.toList = []) {n : Nat} (hnt : fn.ntmps = n) {t : Option Tmp} {tys : Array TypeId} (hops : ops0.toList.map lop = [⟨t, .call ⟨.builtin .recover, #[], tys⟩, none⟩]) (hrf : noRF c2 = true) {ds : List D} {om : List Ob} {u : Option D} {R : List Ob → Prop}
  (h : AW om.length P c2 (fun x s => (x = .norm ∨ x = .ret) ∧ R s.om) ((⟨ds ++ List.replicate (n - ds.length) D.any, om⟩ : St).put t (recD u))) : DC P f ds om u R := by
 subst hnt
 obtain ⟨o0, rfl, e0⟩ := one_op hops
 refine ⟨by simp [callOk, hf, hb, hn], fun E vs m hR hA hm => callsDIn_of_wpSIn hf hb trivial fun c₀ cs hc => ?_⟩
 have fin : ∀ (y : Value) (u' : FrameMode), Rd E (recD u) y → settle u' = .returning →
   c2.wpIn Fence.wide 0 P (fun e a' w' => bodyPostS P fn c₀ cs (DR E om R) e a' ({ c₀ with mode := u' } :: cs) w') (({ tmps := vs ++ Array.replicate (fn.ntmps - vs.size) undef, defers := [] } : Act).put t y) E.w := by
  intro y u' hy hu
  have hs0 : Sat ⟨E.w.heap.size, [], true⟩ E ((⟨ds ++ List.replicate (fn.ntmps - ds.length) D.any, om⟩ : St).put t (recD u)) (({ tmps := vs ++ Array.replicate (fn.ntmps - vs.size) undef, defers := [] } : Act).put t y) :=
   (Sat.enter hR hA).put (Ext.refl E om) hR hy t
  refine wpIn_mono (h none _ E _ ⟨.inl rfl, fun _ => hrf⟩ (Nat.le_of_eq hR.len) hs0) ?_
  rintro e a' w' ⟨E', x, s', ⟨hx', hr⟩, hx, rfl, hext, hs'⟩
  have hom : ((⟨ds ++ List.replicate (fn.ntmps - ds.length) D.any, om⟩ : St).put t (recD u)).om = om := by cases t <;> rfl
  rw [hom, hR.len] at hext
  have hext' := ExtB.toExt hext
  obtain ⟨_, bs, _, hds, _, hnr⟩ := hs'.defs
  rw [hnr rfl] at hds
  have hdf : a'.defers = [] := hds
  obtain ⟨v, hv, hvd⟩ := resD_ok (fn := fn) hT hs' (d := .tup []) (by rw [hrs]; rfl)
  have hdr : DR E om R (.returned v) u' E'.w := ⟨hu, E', s'.om, hr, rfl, hext', hs'.rel⟩
  cases x <;> cases e <;> simp only [cx] at hx
  ·exact ⟨hdf, u', rfl, v, hv, hdr⟩
  ·rcases hx' with hx' | hx' <;> cases hx'
  ·exact ⟨hdf, u', rfl, v, hv, hdr⟩
  ·rcases hx' with hx' | hx' <;> cases hx'
 refine wpSIn_seq (wpSIn_region ?_)
 cases u with
 | none =>
  obtain rfl : m = .returning := hm
  have e : ({ c₀ with mode := .returning } : Frame) = c₀ := by rw [← hc]
  refine recover_ok (F := Fence.wide) rfl rfl e0 (y := .nilIface) (cs' := c₀ :: cs) (c2 := c2) (Q2 := bodyPostS P fn c₀ cs (DR E om R)) (.inr ⟨by simp [recoverD, hc], rfl, rfl⟩) ?_
  have := fin .nilIface .returning (.v _) rfl
  rw [e] at this
  exact wpSIn_of_wpIn rfl this
 | some d =>
  obtain ⟨y, rfl, hy⟩ := hm
  refine recover_ok (F := Fence.wide) rfl rfl e0 (y := y) (cs' := { c₀ with mode := .panicking [{ v := y, recovered := true }] } :: cs) (c2 := c2) (Q2 := bodyPostS P fn c₀ cs (DR E om R)) (.inl (by simp [recoverD, hc])) ?_
  exact wpSIn_of_wpIn rfl (fin y (.panicking [{ v := y, recovered := true }]) hy rfl)
def OpO (P : Program) (o : LOp) (s : St) (K : St → Prop) : Prop :=
 ∀ (lo : Lo) (E : Env) (a : Act) (oo : Oper) (next : Act → World → Prop) (Q : Exit → Act → World → Prop), lop oo = o → Sat lo E s a → notDefer oo ∧ Done lo P oo a E s K (fun _ _ => False) next Q
def opsO (P : Program) : List LOp → St → (St → Prop) → Prop
 | [], s, K => K s
 | o :: rest, s, K => o.guard = none ∧ OpO P o s (fun s' => opsO P rest s' K)
theorem OpO.aop (hT : TabOk P T) {o : LOp} {s : St} {K : St → Prop} (h : aop P T false o.op o.dst s K (fun _ _ => False)) : OpO P o s K := by
 intro lo E a oo next Q e hs
 subst e
 exact ⟨aop_notDefer h, aop_ok hT false hs h⟩
theorem OpO.value {o : LOp} {s : St} {K : St → Prop} {d : D} (hnd : ∀ c, o.op ≠ .defer c) (hrun : ∀ (E : Env) (ρ : Operand → Value) (oo : Oper), lop oo = o → (∀ x, Rd E (evD s.env x) (ρ x)) → ∃ m z, execOp ρ oo = (do pure (.value (← m))) ∧ m.run P E.w = .ok z E.w ∧ Rd E d z) (h : K (s.put o.dst d)) : OpO P o s K := by
 intro lo E a oo next Q e hs
 subst e
 obtain ⟨m, z, h1, h2, h3⟩ := hrun E a.eval oo rfl hs.ev
 exact ⟨hnd, Done.value hs h1 h2 h3 h⟩
theorem opsO_ok {lo : Lo} {base : Nat} {r : Option Nat} {ops : Array Oper} {Q : AX → St → Prop} {E0 : Env} {om0 : List Ob} (hb0 : base ≤ E0.n) :
  ∀ (reg : List LOp) (i m : Nat) (s : St) (E : Env) (a : Act), i + m = ops.size → (ops.toList.map lop).drop i = reg → Ext E0 om0 E s.om → Sat lo E s a → opsO P reg s (Q .norm) →
   wpOpsIn (fence r) 0 P ops (Post lo base Q E0 om0) (List.range' i m) a E.w := by
 intro reg
 induction reg with
 | nil =>
  intro i m s E a hi hd hx hs h
  have : (ops.toList.map lop).length ≤ i := List.drop_eq_nil_iff.1 hd
  simp at this
  obtain rfl : m = 0 := by omega
  exact ⟨E, .norm, s, h, trivial, rfl, hx.toB hb0, hs⟩
 | cons o reg ih =>
  intro i m s E a hi hd hx hs h
  have hlt : i < (ops.toList.map lop).length := by
   rcases Nat.lt_or_ge i (ops.toList.map lop).length with h | h
   ·exact h
   ·rw [List.drop_eq_nil_of_le h] at hd; cases hd
  have hlt' : i < ops.size := by simpa using hlt
  rw [List.drop_eq_getElem_cons hlt] at hd
  injection hd with h1 h2
  have ho : ops[i]? = some ops[i] := Array.getElem?_eq_getElem hlt'
  have hl : lop ops[i] = o := by simpa using h1
  cases m with
  | zero => omega
  | succ m =>
   rw [List.range'_succ]
   simp only [wpOpsIn, ho]
   obtain ⟨hg, hop⟩ := h
   have hg' : ops[i].guard = none := by rw [← hl] at hg; exact hg
   have hw : Region.wanted ops[i] (yielded ops a.tmps) = true := by unfold Region.wanted; rw [hg']
   rw [if_pos hw]
   obtain ⟨hnd, hdone⟩ := hop lo E a ops[i] (wpOpsIn (fence r) 0 P ops (Post lo base Q E0 om0) (List.range' (i + 1) m)) (Post lo base Q E0 om0) hl hs
   exact hdone r hnd (fun E' s' a' hk hx' hs' => ih (i + 1) m s' E' a' (by omega) h2 (hx.trans hx') hs' hk) fun E' s' y d hk _ _ _ => hk.elim
theorem AW.regionO {base : Nat} {id : Nat} {ops : Array Oper} {Q : AX → St → Prop} {s : St} (reg : List LOp) (hreg : ops.toList.map lop = reg) (h : opsO P reg s (Q .norm)) : AW base P (.region id ops false) Q s := by
 intro r lo E a hr hb hs
 refine wpIn_region ?_
 rw [List.range_eq_range']
 exact opsO_ok hb reg 0 ops.size s E a (by omega) (by rw [List.drop_zero, hreg]) (Ext.refl _ _) hs h
theorem ALW.regO {base : Nat} {reg : List LOp} {Q : AX → St → Prop} {s : St} (h : opsO P reg s (Q .norm)) : ALW base P (.reg reg [] none) Q s := by
 intro c hc
 obtain ⟨id, ops, draw, rfl⟩ := lc_inv.2.2.2.2.2.2.2.2.1 _ _ _ hc
 cases draw with
 | false =>
  simp only [lc, LC.st, Bool.false_eq_true, if_false, LC.reg.injEq, true_and] at hc
  exact AW.regionO reg hc.1 h
 | true =>
  simp only [lc, LC.st, if_true] at hc
  split at hc
  ·split at hc
   ·simp at hc
   ·split at hc
    ·simp at hc
    ·split at hc <;> simp at hc
  ·split at hc
   ·simp at hc
   ·split at hc
    ·simp at hc
    ·split at hc
     ·simp at hc
     ·split at hc <;> simp at hc
theorem run_eqNil {ty : Nat} {ms : Array (String × TypeId)} (hi : P.underlying ty = some (.interface ms)) {x : Operand} {z : Value} {b : Bool} {w : World} (hz : (z = .nilIface ∧ b = true) ∨ (∃ t v, z = .iface t v) ∧ b = false) :
  (do eqGuard .eql ty x (.const .nilIface) z .nilIface; binOp .eql ty z .nilIface : Sem Value).run P w = .ok (.bool b) w := by
 have h : ∀ d : Nat, (Op.equalIn (d + 1) ty z .nilIface).run P w = .ok b w := fun d => by
  rcases hz with ⟨rfl, rfl⟩ | ⟨⟨t, v, rfl⟩, rfl⟩ <;> simp [Op.equalIn, run_underlying hi]
 have hg : (eqGuard .eql ty x (.const .nilIface) z .nilIface).run P w = .ok () w := by
  rcases hz with ⟨rfl, rfl⟩ | ⟨⟨t, v, rfl⟩, rfl⟩ <;> simp [eqGuard]
 have hb : (binOp .eql ty z .nilIface).run P w = .ok (.bool b) w := by
  rcases hz with ⟨rfl, rfl⟩ | ⟨⟨t, v, rfl⟩, rfl⟩ <;> (simp only [binOp]; simp [Op.equal, Op.maxDepth, h 9999])
 simp only [Sem.run_bind, hg, Result.andThen_ok, hb]
theorem OpO.eqNil {dst : Option Tmp} {ty ty' : Nat} {x : Operand} {ms : Array (String × TypeId)} (hi : P.underlying ty = some (.interface ms)) {s : St} {K : St → Prop} {d : D} (hx : evD s.env x = d) {b : Bool}
  (hd : (d = .v .nilIface ∧ b = true) ∨ (∃ t d', d = .ifc t d') ∧ b = false) (h : K (s.put dst (.b b))) : OpO P ⟨dst, .binOp .eql ty x (.const .nilIface) ty', none⟩ s K := by
 refine OpO.value (d := .b b) (by simp) ?_ h
 intro E ρ oo e hρ
 simp only [lop, LOp.mk.injEq] at e
 have h1 := hρ x
 have e2 : ρ (.const .nilIface) = .nilIface := by
  have := hρ (.const .nilIface)
  simpa [evD, ofConst] using this.v_inv
 rw [hx] at h1
 refine ⟨(do eqGuard .eql ty x (.const .nilIface) (ρ x) (ρ (.const .nilIface)); binOp .eql ty (ρ x) (ρ (.const .nilIface))), .bool b, by simp only [execOp, e.2.1], ?_, .v _⟩
 rw [e2]
 refine run_eqNil hi ?_
 rcases hd with ⟨rfl, rfl⟩ | ⟨⟨t, d', rfl⟩, rfl⟩
 ·exact .inl ⟨h1.v_inv, rfl⟩
 ·generalize ρ x = z at h1
  cases h1
  exact .inr ⟨⟨_, _, rfl⟩, rfl⟩
theorem run_assert {t xt : Nat} (hc : P.concrete t = true) {v : Value} {w : World} : (Instr.typeAssert (.iface t v) xt t true).run P w = .ok (.tuple #[v, .bool true]) w := by
 unfold Program.concrete at hc
 split at hc
 ·cases hc
 ·cases hc
 ·rename_i h1 h2
  cases hu : P.underlying t with
  | none => exact absurd hu h2
  | some d =>
   have hni : ∀ ms, d ≠ .interface ms := fun ms e => h1 ms (by rw [hu, e])
   cases d <;> first | exact absurd rfl (hni _) | simp [Instr.typeAssert, run_underlying hu]
theorem OpO.assert {dst : Option Tmp} {xt t : Nat} {x : Operand} (hc : P.concrete t = true) {s : St} {K : St → Prop} {d : D} (hx : evD s.env x = .ifc t d) (h : K (s.put dst (.tup [d, .b true]))) : OpO P ⟨dst, .typeAssert x xt t true, none⟩ s K := by
 refine OpO.value (d := .tup [d, .b true]) (by simp) ?_ h
 intro E ρ oo e hρ
 simp only [lop, LOp.mk.injEq] at e
 have h1 := hρ x
 rw [hx] at h1
 obtain ⟨y, hz, h1⟩ : ∃ y, ρ x = .iface t y ∧ Rd E d y := by
  generalize ρ x = z at h1
  cases h1 with
  | ifc h1 => exact ⟨_, rfl, h1⟩
 refine ⟨Instr.typeAssert (ρ x) xt t true, .tuple #[y, .bool true], by simp only [execOp, e.2.1], ?_, .tup _ rfl fun j dd hj => ?_⟩
 ·rw [hz]; exact run_assert hc
 ·match j, hj with
  | 0, hj => cases hj; exact h1
  | 1, hj => cases hj; exact .v _
theorem reg_none {r : List LOp} {c : Code} (h : lc c = .reg r [] none) : ∃ id ops, c = .region id ops false ∧ ops.toList.map lop = r := by
 obtain ⟨id, ops, draw, rfl⟩ := lc_inv.2.2.2.2.2.2.2.2.1 _ _ _ h
 cases draw with
 | false =>
  simp only [lc, LC.st, Bool.false_eq_true, if_false, LC.reg.injEq, true_and] at h
  exact ⟨id, ops, rfl, h.1⟩
 | true =>
  simp only [lc, LC.st, if_true] at h
  split at h
  ·split at h
   ·simp at h
   ·split at h
    ·simp at h
    ·split at h <;> simp at h
  ·split at h
   ·simp at h
   ·split at h
    ·simp at h
    ·split at h
     ·simp at h
     ·split at h <;> simp at h
theorem AC.lbodyD (hT : TabOk P T) (hm : P.follows .mixedOrders = true) {f : FuncId} {fn : Func} {l0 l2 : LC} (hf : P.funcs[f]? = some fn) {g : FuncId} {cap : Array Operand} {t : Tmp} {dd : Option Tmp} {tys : Array TypeId}
  (hb : fn.body.map lc = some (.seq l0.st (.seq (.reg [⟨some t, .makeFunc (.func g) #[] cap, none⟩, ⟨dd, .defer ⟨.value (.tmp t), #[], tys⟩, none⟩] [] none) l2.st))) (hn : (fn.name == "runtime.NumGoroutine") = false)
  {rs : List ResultVar} (hrs : fn.results.toList = rs) {n : Nat} (hnt : fn.ntmps = n) {ds : List D} {om : List Ob} {R : Out → List Ob → Prop}
  (h : xl om.length P T l0 (fun x s => x = .norm ∧ t < s.env.length ∧ xl s.om.length P T l2 (defQ P T rs om R g (cap.toList.map (evD s.env))) ((s.put (some t) (.fn g (cap.toList.map (evD s.env)))).put dd (.v undef))) ⟨ds ++ List.replicate (n - ds.length) D.any, om⟩) : AC P f ds om R := by
 simp only [Option.map_eq_some_iff] at hb
 obtain ⟨c, hc, hl⟩ := hb
 obtain ⟨c0, cr, rfl, h0, hr⟩ := lc_inv.1 _ _ hl
 obtain ⟨c1, c2, rfl, h1, h2⟩ := lc_inv.1 _ _ hr
 obtain ⟨id, ops, rfl, hops⟩ := reg_none h1
 refine AC.bodyD hT hf hc hn hrs hnt hops ((xl_ok hT hm h c0 h0).mono ?_)
 rintro x s ⟨rfl, ht, hx⟩
 exact ⟨rfl, ht, xl_ok hT hm hx c2 h2⟩
theorem DC.lbody (hT : TabOk P T) {f : FuncId} {fn : Func} {l2 : LC} (hf : P.funcs[f]? = some fn) {t : Option Tmp} {tys : Array TypeId}
  (hb : fn.body.map lc = some (.seq (.reg [⟨t, .call ⟨.builtin .recover, #[], tys⟩, none⟩] [] none) l2.st)) (hrf : fn.body.map noRF = some true) (hn : (fn.name == "runtime.NumGoroutine") = false)
  (hrs : fn.results.toList = []) {n : Nat} (hnt : fn.ntmps = n) {ds : List D} {om : List Ob} {u : Option D} {R : List Ob → Prop}
  (h : ALW om.length P l2 (fun x s => (x = .norm ∨ x = .ret) ∧ R s.om) ((⟨ds ++ List.replicate (n - ds.length) D.any, om⟩ : St).put t (recD u))) : DC P f ds om u R := by
 simp only [Option.map_eq_some_iff] at hb
 obtain ⟨c, hc, hl⟩ := hb
 obtain ⟨c0, c2, rfl, h0, h2⟩ := lc_inv.1 _ _ hl
 obtain ⟨id, ops, rfl, hops⟩ := reg_none h0
 rw [hc] at hrf
 have hr2 : noRF c2 = true := by
  have : noRF (.seq (.region id ops false) c2) = true := by simpa using hrf
  simpa [noRF] using this
 exact DC.body hT hf hc hn hrs hnt hops hr2 (h c2 h2)
def drawn1 : Code → Option (Array Oper)
 | .region _ ops d => if d then some ops else none
 | .seq a b => (drawn1 a).or (drawn1 b)
 | .cond _ a b => (drawn1 a).or (drawn1 b)
 | .block _ a => drawn1 a
 | .loop a => drawn1 a
 | _ => none
theorem AW.regionT0 (hT : TabOk P T) (hm : P.follows .mixedOrders = true) {base : Nat} {id : Nat} {ops : Array Oper} {Q : AX → St → Prop} {s : St} {reg : List LOp} {t : OT} (hreg : ops.toList.map lop = reg) (hok : drawOk ops [] 0 false = true) (ht : mkTree ops ops.size (headMask ops.size 0) = t)
  (h : treeP P T reg [] t s (Q .norm) (fun d => Q (.panic d))) : AW base P (.region id ops true) Q s := by
 refine AW.regionT hT hm reg [] 0 hreg hok ?_
 rw [ht]
 exact h
theorem regq_inv {r : List LOp} {m : Nat} {t : OT} {c : Code} (h : lc c = .regq r [] m t) : ∃ id ops, c = .region id ops true := by
 obtain ⟨id, ops, draw, rfl⟩ := lc_inv.2.2.2.2.2.2.2.2.2.2.2.2.1 _ _ _ _ h
 cases draw with
 | false => simp [lc, LC.st] at h
 | true => exact ⟨id, ops, rfl⟩
end
end Go.Proofs.YtlejbkfefpfolaaGreatDoor.AWP
