/- Part of a program logic over data: rules of the walk, each proved. -/
import Derived.Test.YtlejbkfefpfolaaGreatDoorAwpW
set_option linter.unusedVariables false
set_option linter.unusedSimpArgs false
set_option linter.unusedSectionVars false
namespace Go.Proofs.YtlejbkfefpfolaaGreatDoor.AWP
open Go
section
variable {P : Program} {T : Tab}
def res1 (T : Tab) (s : St) : ResultVar → Option D
 | .tmp t => some (s.env.getD t .any)
 | .cell a ty => qLoad T s.om ty (s.env.getD a .any)
def resL (T : Tab) (s : St) : List ResultVar → Option (List D)
 | [] => some []
 | r :: rs =>
  match res1 T s r, resL T s rs with
  | some d, some ds => some (d :: ds)
  | _, _ => none
def resD (T : Tab) (s : St) (rs : List ResultVar) : Option D :=
 match resL T s rs with
 | some [d] => some d
 | some ds => some (.tup ds)
 | none => none
def resOne (tmps : Array Value) : ResultVar → Sem Value
 | .tmp t => pure (tmps.getD t undef)
 | .cell p t => do loadVar t (← asAddr (tmps.getD p undef))
theorem results_eq (fn : Func) (tmps : Array Value) : results fn tmps = (do let vs ← fn.results.mapM (resOne tmps); pure (if h : vs.size = 1 then vs[0] else .tuple vs)) := rfl
theorem resL_ok {lo : Lo} (hT : TabOk P T) {E : Env} {s : St} {a : Act} (hs : Sat lo E s a) : ∀ (rs : List ResultVar) (ds : List D), resL T s rs = some ds →
  ∃ vs : List Value, (rs.mapM (resOne a.tmps)).run P E.w = .ok vs E.w ∧ vs.length = ds.length ∧ ∀ (j : Nat) (d : D), ds[j]? = some d → ∃ y, vs[j]? = some y ∧ Rd E d y := by
 intro rs
 induction rs with
 | nil => intro ds h; simp only [resL, Option.some.injEq] at h; subst h; exact ⟨[], by simp, rfl, by simp⟩
 | cons r rs ih =>
  intro ds h
  simp only [resL] at h
  split at h
  ·rename_i d ds' h1 h2
   simp only [Option.some.injEq] at h
   subst h
   obtain ⟨vs, q1, q2, q3⟩ := ih ds' h2
   have hv : ∃ y, (resOne a.tmps r).run P E.w = .ok y E.w ∧ Rd E d y := by
    cases r with
    | tmp t =>
     simp only [res1, Option.some.injEq] at h1
     subst h1
     exact ⟨_, rfl, hs.rd t⟩
    | cell p t =>
     simp only [res1] at h1
     obtain ⟨z, hz, hd⟩ := qLoad_ok hT hs.rel h1 (hs.rd p)
     have hpe : ∃ ad, a.tmps.getD p undef = .pointer (some ad) := by
      have hp := hs.rd p
      unfold qLoad at h1
      split at h1
      ·simp at h1
      ·split at h1
       ·simp at h1
       ·rename_i row hrow
        obtain ⟨ad, e, _⟩ := rdRow_ok hs.rel hrow hp
        exact ⟨ad, e⟩
     obtain ⟨ad, hpe⟩ := hpe
     refine ⟨z, ?_, hd⟩
     rw [← hz]
     simp only [resOne, hpe, asAddr, Instr.loadAt, Instr.sureAddr, pure_bind]
   obtain ⟨y, hy, hd⟩ := hv
   refine ⟨y :: vs, ?_, by simp [q2], fun j d' hj => ?_⟩
   ·rw [List.mapM_cons]
    simp only [Sem.run_bind, Sem.run_pure, hy, Result.andThen_ok, q1]
   ·cases j with
    | zero =>
     simp only [List.getElem?_cons_zero, Option.some.injEq] at hj
     subst hj
     exact ⟨y, rfl, hd⟩
    | succ j => simpa using q3 j d' (by simpa using hj)
  ·simp at h
theorem resD_ok {lo : Lo} (hT : TabOk P T) {E : Env} {s : St} {a : Act} (hs : Sat lo E s a) {fn : Func} {d : D} (h : resD T s fn.results.toList = some d) : ∃ y, (results fn a.tmps).run P E.w = .ok y E.w ∧ Rd E d y := by
 unfold resD at h
 have key : ∀ ds, resL T s fn.results.toList = some ds → ∃ vs : List Value, (results fn a.tmps).run P E.w = .ok (if h : vs.toArray.size = 1 then vs.toArray[0] else .tuple vs.toArray) E.w ∧ vs.length = ds.length ∧ ∀ (j : Nat) (d : D), ds[j]? = some d → ∃ y, vs[j]? = some y ∧ Rd E d y := by
  intro ds hds
  obtain ⟨vs, q1, q2, q3⟩ := resL_ok hT hs _ ds hds
  refine ⟨vs, ?_, q2, q3⟩
  rw [results_eq, Array.mapM_eq_mapM_toList]
  simp only [Sem.run_bind, Sem.run_map, Sem.run_pure]
  rw [q1]
  rfl
 split at h
 ·rename_i d' hd'
  simp only [Option.some.injEq] at h
  subst h
  obtain ⟨vs, q1, q2, q3⟩ := key _ hd'
  obtain ⟨y, hy, hd⟩ := q3 0 d' (by simp)
  match vs, q2, hy with
  | [v], _, hy =>
   simp only [List.getElem?_cons_zero, Option.some.injEq] at hy
   subst hy
   exact ⟨v, by simpa using q1, hd⟩
 ·rename_i ds hne hds
  simp only [Option.some.injEq] at h
  subst h
  obtain ⟨vs, q1, q2, q3⟩ := key _ hds
  have hn1 : vs.length ≠ 1 := by
   intro h1
   rw [q2] at h1
   match ds, h1 with
   | [d], _ => exact hne d rfl
  refine ⟨.tuple vs.toArray, by simpa [hn1] using q1, .tup _ (by simp [q2]) fun j d hj => ?_⟩
  obtain ⟨y, h1, h2⟩ := q3 j d hj
  simpa [Array.getD_eq_getD_getElem?, h1] using h2
 ·simp at h
def Fin (om0 om : List Ob) (o : Out) (R : Out → List Ob → Prop) : Prop :=
 ∀ E0 E e, Rel E0 om0 → Ext E0 om0 E om → Rel E om → OutR E o e → ∃ E' o' om', R o' om' ∧ E'.w = E.w ∧ Ext E0 om0 E' om' ∧ Rel E' om' ∧ OutR E' o' e
def finQ (T : Tab) (rs : List ResultVar) (om0 : List Ob) (R : Out → List Ob → Prop) : AX → St → Prop
 | .norm, s | .ret, s => opt (resD T s rs) fun d => Fin om0 s.om (.ret d) R
 | .panic d, s => Fin om0 s.om (.panic d) R
 | .exit _, _ => False
theorem AC.body (hT : TabOk P T) {f : FuncId} {fn : Func} {c : Code} (hf : P.funcs[f]? = some fn) (hb : fn.body = some c) (hn : (fn.name == "runtime.NumGoroutine") = false) {rs : List ResultVar} (hrs : fn.results.toList = rs) {n : Nat} (hnt : fn.ntmps = n) {ds : List D} {om : List Ob} {R : Out → List Ob → Prop}
  (h : AW om.length P c (finQ T rs om R) ⟨ds ++ List.replicate (n - ds.length) D.any, om⟩) : AC P f ds om R := by
 subst hrs hnt
 refine ⟨by simp [callOk, hf, hb, hn], fun E vs hR hA => ?_⟩
 refine (callsIn_wide (n := 0)).1 ?_
 refine callsIn_of_wp_marks hf hb trivial ?_
 have hs : Sat ⟨E.w.heap.size, [], false⟩ E ⟨ds ++ List.replicate (fn.ntmps - ds.length) D.any, om⟩ { tmps := vs ++ Array.replicate (fn.ntmps - vs.size) undef, defers := [] } := by
  refine ⟨hR, Marks.nil (Nat.le_refl _), by simp [hA.1], fun t => ?_⟩
  by_cases ht : t < ds.length
  ·have h1 : (ds ++ List.replicate (fn.ntmps - ds.length) D.any).getD t .any = ds[t] := by
    simp [List.getD_eq_getElem?_getD, List.getElem?_append, ht]
   have h2 : (vs ++ Array.replicate (fn.ntmps - vs.size) undef).getD t undef = vs.getD t undef := by
    have : t < vs.size := by rw [hA.1]; exact ht
    simp [Array.getD_eq_getD_getElem?, Array.getElem?_append, this]
   show Rd E ((ds ++ List.replicate (fn.ntmps - ds.length) D.any).getD t .any) _
   rw [h1]
   have := hA.2 t ds[t] (List.getElem?_eq_getElem ht)
   rwa [← h2] at this
  ·have h1 : (ds ++ List.replicate (fn.ntmps - ds.length) D.any).getD t .any = .any := by
    simp only [List.getD_eq_getElem?_getD, List.getElem?_append, ht, if_false, List.getElem?_replicate]
    split <;> rfl
   show Rd E ((ds ++ List.replicate (fn.ntmps - ds.length) D.any).getD t .any) _
   rw [h1]
   exact .any _
 refine wpIn_mono (h none _ E _ ⟨.inl rfl, fun h => by cases h⟩ (Nat.le_of_eq hR.len) hs) ?_
 rintro e a' w' ⟨E', x, s', hq, hx, rfl, hext, hsat⟩
 have hext' : Ext E om E' s'.om := ExtB.toExt (hR.len ▸ hext)
 have fin : ∀ (o : Out) (en : Ending) (E'' : Env), Turn E.w.heap.size E' E'' s'.om → Fin om s'.om o R → OutR E'' o en → ∃ E3 o' om', R o' om' ∧ E3.w = E''.w ∧ Ext E om E3 om' ∧ Rel E3 om' ∧ OutR E3 o' en :=
  fun o en E'' ht hfin ho => hfin E E'' en hR (hext'.turn ht) ht.rel ho
 obtain ⟨h0, bs, hnd, hds, hbs, _⟩ := hsat.defs
 simp only at h0 hds hbs
 have ret : ∀ d, resD T s' fn.results.toList = some d → Fin om s'.om (.ret d) R → LeavesInM Fence.wide 0 P fn a'.tmps (fun e w' => ∃ E' o om', R o om' ∧ E'.w = w' ∧ Ext E om E' om' ∧ Rel E' om' ∧ OutR E' o e) a'.defers .returning E'.w := by
  intro d hd hfin
  rw [hds]
  refine leave_marks (by simp) bs E' hsat.rel hnd hbs fun E'' ht => ?_
  have hsat' : Sat ⟨0, [], false⟩ E'' s' { a' with defers := [] } := ⟨ht.rel, Marks.nil (Nat.zero_le _), hsat.size, fun t => ht.rd _ _ (hsat.rd t)⟩
  obtain ⟨y, hy, hyd⟩ := resD_ok hT hsat' hd
  exact ⟨y, hy, fin _ (.returned y) E'' ht hfin hyd⟩
 cases x <;> cases e <;> simp only [cx] at hx <;> simp only [finQ] at hq
 ·obtain ⟨d, hd, hfin⟩ := opt_elim hq
  exact ret d hd hfin
 ·obtain ⟨d, hd, hfin⟩ := opt_elim hq
  exact ret d hd hfin
 ·show LeavesInM Fence.wide 0 P fn a'.tmps _ a'.defers (.panicking _) E'.w
  rw [hds]
  refine leave_marks (by simp) bs E' hsat.rel hnd hbs fun E'' ht => ?_
  obtain ⟨y, h1, h2⟩ := hx
  exact fin _ (.panicked _) E'' ht hq ⟨y, h1, ht.rd _ _ h2⟩
theorem Rd.toBl {E : Env} {d : D} {y : Value} (h : Rd E d y) : Bl E.n d := by
 induction h with
 | v x => exact .v x
 | any y => exact .any
 | sl ad u hr hl hm ha hc hd ih =>
  refine .sl fun r hr' d hd' => ?_
  obtain ⟨i, hi⟩ := List.getElem?_of_mem hr'
  obtain ⟨j, hj⟩ := List.getElem?_of_mem hd'
  exact ih i r j d hi hj
 | pel ad u hA hc hd ih =>
  refine .pel fun d hd' => ?_
  obtain ⟨j, hj⟩ := List.getElem?_of_mem hd'
  exact ih j d hj
 | agg vs hs h1 hd ih =>
  refine .agg fun d hd' => ?_
  obtain ⟨j, hj⟩ := List.getElem?_of_mem hd'
  exact ih j d hj
 | tup vs hs hd ih =>
  refine .tup fun d hd' => ?_
  obtain ⟨j, hj⟩ := List.getElem?_of_mem hd'
  exact ih j d hj
 | ref hk hg => exact .ref hk
 | rel hk hg => exact .rel hk
 | own hk => exact .own hk
 | fn vs hs hd ih =>
  refine .fn fun d hd' => ?_
  obtain ⟨j, hj⟩ := List.getElem?_of_mem hd'
  exact ih j d hj
 | ifc h ih => exact .ifc ih
 | yld hk hg => exact .yld hk
theorem Fin.pure {om0 om : List Ob} {d : D} {R : Out → List Ob → Prop} (h : om.take om0.length = om0) (hd : Bl 0 d) (hr : R (.ret d) om0) : Fin om0 om (.ret d) R := by
 intro E0 E e hR0 hx hR ho
 refine ⟨{ E with n := E0.n }, .ret d, om0, hr, rfl, ?_, ?_, ?_⟩
 ·refine ⟨Nat.le_refl _, hx.g, hx.A, hx.size, hx.os, hx.tape, hx.output, hx.keep, ?_, hx.newA⟩
  rintro b ⟨k, o, hk, hl, hg⟩
  refine hx.live b ⟨k, o, ?_, hl, hg⟩
  rw [← h] at hk
  rw [List.getElem?_take] at hk
  split at hk
  ·exact hk
  ·simp at hk
 ·have hx' : Ext E0 om0 { E with n := E0.n } om0 := by
   refine ⟨Nat.le_refl _, hx.g, hx.A, hx.size, hx.os, hx.tape, hx.output, hx.keep, ?_, hx.newA⟩
   rintro b ⟨k, o, hk, hl, hg⟩
   refine hx.live b ⟨k, o, ?_, hl, hg⟩
   rw [← h, List.getElem?_take] at hk
   split at hk
   ·exact hk
   ·simp at hk
  have up : ∀ (k : Nat) (o : Ob), om0[k]? = some o → om[k]? = some o := by
   intro k o hk
   rw [← h, List.getElem?_take] at hk
   split at hk
   ·exact hk
   ·simp at hk
  refine ⟨hR0.len, fun k o hk => ?_, fun k k' o o' b hk hk' hl hl' h1 h2 => hR.inj k k' o o' b (up k o hk) (up k' o' hk') hl hl' h1 h2, hR.old, fun k hk => hR.one k (Nat.lt_of_lt_of_le hk hx.n), fun g c h => Rd.bl (E := E) (E2 := ⟨E0.n, E.g, E.A, E.w⟩) (n := 0) (Nat.zero_le _) (fun _ h => absurd h (Nat.not_lt_zero _)) (fun _ h => h) rfl (hR.gt g c h) (gtab_bl h)⟩
  have hk0 : k < E0.n := by rw [← hR0.len]; exact (List.getElem?_eq_some_iff.1 hk).1
  have hob0 := hR0.ob k o hk
  have hob := hR.ob k o (up k o hk)
  have down : ∀ (d : D) (y : Value), Bl E0.n d → Rd E d y → Rd { E with n := E0.n } d y := fun d y hb hd => Rd.bl (E := E) (E2 := { E with n := E0.n }) (Nat.le_refl _) (fun _ _ => rfl) (fun _ h => h) rfl hd hb
  have cells : ∀ (c : List D) (cs0 cs : Array Value), CellsR E0 c cs0 → CellsR E c cs → CellsR { E with n := E0.n } c cs := fun c cs0 cs h0 h j d hj => by
   obtain ⟨y0, _, _, r0⟩ := h0 j d hj
   obtain ⟨y, e1, e2, e3⟩ := h j d hj
   exact ⟨y, e1, e2, down d y r0.toBl e3⟩
  cases o with
  | var ty c =>
   obtain ⟨b, cs, h1, h2, h3, h4, h5⟩ := hob
   obtain ⟨_, cs0, _, _, _, _, h50⟩ := hob0
   exact ⟨b, cs, h1, h2, h3, h4, cells c cs0 cs h50 h5⟩
  | slc ty sz rows =>
   obtain ⟨h0, hs, hh | ⟨b, cs, cap, q1, q2, q3, q4, q5, q6, q7⟩⟩ := hob
   ·exact ⟨h0, hs, .inl hh⟩
   ·obtain ⟨_, _, hh | ⟨_, cs0, _, _, _, _, _, _, _, q70⟩⟩ := hob0
    ·refine ⟨h0, hs, .inr ⟨b, cs, cap, q1, q2, q3, q4, q5, q6, ?_⟩⟩
     rw [hh.2]
     intro j d hj
     simp at hj
    ·exact ⟨h0, hs, .inr ⟨b, cs, cap, q1, q2, q3, q4, q5, q6, cells _ cs0 cs q70 q7⟩⟩
  | frz sz rows => exact ⟨down _ _ hob0.1.toBl hob.1, hob.2⟩
  | frv c => exact ⟨down _ _ hob0.1.toBl hob.1, hob.2⟩
  | lp ps as bo st pe env =>
   obtain ⟨b, r, q1, q2, q3, q4, q5, q6, q7, q8, q9, q10⟩ := hob
   obtain ⟨b0, r0, _, _, _, _, _, _, _, _, _, q100⟩ := hob0
   exact ⟨b, r, q1, q2, q3, q4, q5, q6, q7, q8, q9, fun t => down _ _ (q100 t).toBl (q10 t)⟩
  | dead => trivial
 ·obtain ⟨y, rfl, hy⟩ := ho.ret_inv
  exact Rd.bl (E := E) (E2 := { E with n := E0.n }) (Nat.zero_le _) (fun k hk => absurd hk (by omega)) (fun _ h => h) rfl hy hd
end
end Go.Proofs.YtlejbkfefpfolaaGreatDoor.AWP
