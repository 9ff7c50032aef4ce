/- A slice of one's own is cut short; its end is cleared. -/
import Derived.Test.YtlejbkfefpfolaaGreatDoorAwpV
set_option linter.unusedVariables false
set_option linter.unusedSimpArgs false
set_option linter.unusedSectionVars false
namespace Go.Proofs.YtlejbkfefpfolaaGreatDoor.AWP
open Go
inductive ER where
 | go (s : St)
 | pan (d : D) (s : St)
abbrev EV := Bool → Nat → List D → List Ob → Option (Out × List Ob)
abbrev exQ (r : Out × List Ob) : Out → List Ob → Prop := fun o om => o = r.1 ∧ om = r.2
structure EVok (P : Program) (F : EV) : Prop where
 call : ∀ f ds om r, F true f ds om = some r → AC P f ds om (exQ r)
 yld : ∀ k ds om r, F false k ds om = some r → AY P k ds om (exQ r)
section
variable {om : List Ob} {F : Nat → Bool} {ks : List (Option Nat)}
def CvRs (om : List Ob) (F : Nat → Bool) (ks : List (Option Nat)) : List (List D) → List (List D) → Prop
 | [], [] => True
 | r :: l, r' :: l' => CvL om F ks r r' ∧ CvRs om F ks l l'
 | _, _ => False
theorem CvRs.len : ∀ {e e' : List (List D)}, CvRs om F ks e e' → e'.length = e.length
 | [], [], _ => rfl
 | d :: e, d' :: e', h => by simp only [List.length_cons]; rw [h.2.len]
theorem CvRs.get : ∀ {e e' : List (List D)}, CvRs om F ks e e' → ∀ (j : Nat) (d d' : List D), e[j]? = some d → e'[j]? = some d' → CvL om F ks d d'
 | [], [], _, j, d, d', h1, h2 => by simp at h1
 | d :: e, d' :: e', h, 0, x, x', h1, h2 => by
  simp only [List.getElem?_cons_zero, Option.some.injEq] at h1 h2
  subst h1; subst h2
  exact h.1
 | d :: e, d' :: e', h, j + 1, x, x', h1, h2 => by
  simp only [List.getElem?_cons_succ] at h1 h2
  exact h.2.get j x x' h1 h2
theorem CvRs.hr {e e' : List (List D)} (h : CvRs om F ks e e') : ∀ (i : Nat) (r r' : List D), e[i]? = some r → e'[i]? = some r' → r'.length = r.length := fun i r r' h1 h2 => (h.get i r r' h1 h2).len
theorem CvRs.hc {e e' : List (List D)} (h : CvRs om F ks e e') : ∀ (i : Nat) (r r' : List D) (j : Nat) (d d' : D), e[i]? = some r → e'[i]? = some r' → r[j]? = some d → r'[j]? = some d' → Cv om F ks d d' := fun i r r' j d d' h1 h2 h3 h4 => (h.get i r r' h1 h2).get j d d' h3 h4
end
section
variable {om : List Ob} {n : Nat}
end
theorem AC.fin {P : Program} {f : FuncId} {ds : List D} {om : List Ob} {r : Out × List Ob} {R : Out → List Ob → Prop} (h : AC P f ds om (exQ r)) (hf : Fin om r.2 r.1 R) : AC P f ds om R := by
 refine ⟨h.1, fun E vs hR hA => (h.2 E vs hR hA).mono ?_⟩
 rintro e w' ⟨E1, o, om1, ⟨rfl, rfl⟩, rfl, hx, hR1, ho⟩
 obtain ⟨E2, o2, om2, q1, q2, q3, q4, q5⟩ := hf E E1 e hR hx hR1 ho
 exact ⟨E2, o2, om2, q1, q2, q3, q4, q5⟩
end Go.Proofs.YtlejbkfefpfolaaGreatDoor.AWP
namespace Go.Proofs.YtlejbkfefpfolaaGreatDoor.AWP
open Go
section
variable {P : Program} {T : Tab} {F : EV}
def OpX (P : Program) (o : LOp) (s : St) (K : St → Prop) (KP : D → St → Prop) : Prop :=
 ∀ (lo : Lo) (E : Env) (a : Act) (oo : Oper) (next : Act → World → Prop) (Q : Exit → Act → World → Prop), lop oo = o → Sat lo E s a → notDefer oo ∧ Done lo P oo a E s K KP next Q
theorem OpX.aop (hT : TabOk P T) {own : Bool} {o : LOp} {s : St} {K : St → Prop} {KP : D → St → Prop} (h : aop P T own o.op o.dst s K KP) : OpX P o s K KP := by
 intro lo E a oo next Q e hs
 subst e
 exact ⟨aop_notDefer h, aop_ok hT own hs h⟩
theorem OpX.o {o : LOp} {s : St} {K : St → Prop} {KP : D → St → Prop} (h : OpO P o s K) : OpX P o s K KP := by
 intro lo E a oo next Q e hs
 obtain ⟨h1, h2⟩ := h lo E a oo next Q e hs
 exact ⟨h1, fun r hd hn hp => h2 r hd hn fun E' s' y d hk => hk.elim⟩
def opsX (P : Program) (reg : List LOp) : List LOp → St → (St → Prop) → (D → St → Prop) → Prop
 | [], s, K, _ => K s
 | o :: rest, s, K, KP =>
  match o.guard with
  | none => OpX P o s (fun s' => opsX P reg rest s' K KP) KP
  | some (j, want) =>
   match (reg[j]?).bind (·.dst) with
   | some t =>
    match gB (s.env.getD t .any) want with
    | some true => OpX P o s (fun s' => opsX P reg rest s' K KP) KP
    | some false => opsX P reg rest (s.put o.dst (.v undef)) K KP
    | none => False
   | none => False
theorem opsX_ok {lo : Lo} {base : Nat} {r : Option Nat} {ops : Array Oper} {reg : List LOp} (hreg : ops.toList.map lop = reg) {Q : AX → St → Prop} {E0 : Env} {om0 : List Ob} (hb0 : base ≤ E0.n) :
  ∀ (m i : Nat) (s : St) (E : Env) (a : Act), i + m = reg.length → Ext E0 om0 E s.om → Sat lo E s a → opsX P reg (reg.drop i) s (Q .norm) (fun d => Q (.panic d)) →
   wpOpsIn (fence r) 0 P ops (Post lo base Q E0 om0) (List.range' i m) a E.w := by
 have hlen : ops.size = reg.length := by rw [← hreg]; simp
 intro m
 induction m with
 | zero =>
  intro i s E a hi hx hs h
  rw [List.drop_eq_nil_of_le (by omega)] at h
  simp only [opsX] at h
  simp only [List.range'_zero, wpOpsIn]
  exact ⟨E, .norm, s, h, trivial, rfl, hx.toB hb0, hs⟩
 | succ m ih =>
  intro i s E a hi hx hs h
  have hlt : i < reg.length := by omega
  have hlt' : i < ops.size := by omega
  rw [List.drop_eq_getElem_cons hlt] at h
  have ho : ops[i]? = some ops[i] := Array.getElem?_eq_getElem hlt'
  have hl : reg[i] = lop ops[i] := by
   have : reg[i]? = some (lop ops[i]) := by rw [← hreg]; simp [ho]
   rw [List.getElem?_eq_getElem hlt] at this
   simpa using this
  rw [List.range'_succ]
  simp only [wpOpsIn, ho]
  simp only [opsX, hl] at h
  have run : OpX P (lop ops[i]) s (fun s' => opsX P reg (reg.drop (i + 1)) s' (Q .norm) (fun d => Q (.panic d))) (fun d => Q (.panic d)) →
    ops[i].wpIn (fence r) 0 P a E.w (wpOpsIn (fence r) 0 P ops (Post lo base Q E0 om0) (List.range' (i + 1) m)) (Post lo base Q E0 om0) := by
   intro h
   obtain ⟨hnd, hdone⟩ := h lo E a ops[i] (wpOpsIn (fence r) 0 P ops (Post lo base Q E0 om0) (List.range' (i + 1) m)) (Post lo base Q E0 om0) rfl hs
   refine hdone r hnd ?_ ?_
   ·intro E' s' a' hk hx' hs'
    exact ih (i + 1) s' E' a' (by omega) (hx.trans hx') hs' hk
   ·intro E' s' y d hk hx' hs' hd
    exact ⟨E', .panic d, s', hk, ⟨y, rfl, hd⟩, rfl, (hx.trans hx').toB hb0, hs'⟩
  split at h
  ·rename_i hg
   have : Region.wanted ops[i] (yielded ops a.tmps) = true := by unfold Region.wanted; rw [show ops[i].guard = none from hg]
   rw [if_pos this]
   exact run h
  ·rename_i j want hg
   split at h
   ·rename_i t ht
    split at h
    ·rename_i hb
     have hw := wanted_ok hreg hs (show ops[i].guard = some (j, want) from hg) ht hb
     rw [if_pos hw]
     exact run h
    ·rename_i hb
     have hw := wanted_ok hreg hs (show ops[i].guard = some (j, want) from hg) ht hb
     rw [if_neg (by rw [hw]; simp)]
     refine ⟨fun _ _ => trivial, ?_⟩
     refine ih (i + 1) _ E _ (by omega) ?_ (hs.put (Ext.refl E s.om) hs.rel (.v undef) _) h
     show Ext E0 om0 E (s.put ops[i].dst (.v undef)).om
     cases ops[i].dst <;> exact hx
    ·exact h.elim
   ·exact h.elim
theorem AW.regionX {base : Nat} {id : Nat} {ops : Array Oper} {Q : AX → St → Prop} {s : St} (reg : List LOp) (hreg : ops.toList.map lop = reg) (h : opsX P reg reg s (Q .norm) (fun d => Q (.panic d))) : AW base P (.region id ops false) Q s := by
 intro r lo E a hr hb hs
 have hlen : ops.size = reg.length := by rw [← hreg]; simp
 refine wpIn_region ?_
 rw [List.range_eq_range', hlen]
 exact opsX_ok hreg hb reg.length 0 s E a (by omega) (Ext.refl _ _) hs (by simpa using h)
end
end Go.Proofs.YtlejbkfefpfolaaGreatDoor.AWP
namespace Go.Proofs.YtlejbkfefpfolaaGreatDoor.AWP
open Go
section
variable {P : Program} {T : Tab} {E : Env} {om : List Ob}
theorem run_sliceOwn (hT : TabOk P T) {t e : Nat} {i ei : TI} (ht : T t = some i) (hk : i.kd = .slice e) (he : T e = some ei) {a : Option Addr} {len cap : Nat} {lo hi : Option D} {ylo yhi : Option Value} {l h : Nat}
  (hlo : nat? lo 0 = some l) (hhi : nat? hi len = some h) (h1 : ∀ d, lo = some d → ∃ v, ylo = some v ∧ Rd E d v) (h1' : lo = none → ylo = none)
  (h2 : ∀ d, hi = some d → ∃ v, yhi = some v ∧ Rd E d v) (h2' : hi = none → yhi = none) (hle : l ≤ h) (hc : h ≤ cap) (hlc : len ≤ cap) :
  (Instr.sliceAt t (.slice a len cap) ylo yhi none).run P E.w = .ok (.slice (if cap = l then a else a.map (·.add (l * ei.size))) (h - l) (cap - l)) E.w := by
 have hu := (hT _ _ ht).slice hk
 unfold Instr.sliceAt
 simp only [Sem.run_bind, run_underlying hu, Result.andThen_ok]
 unfold Instr.slice
 simp only [Sem.run_bind, run_underlying hu, Result.andThen_ok, bounds_ok (P := P) (w := E.w) (isSl := true) hlo hhi h1 h1' h2 h2' hle hc hlc, (hT _ _ he).sizeOf, Sem.run_pure]
theorem OpX.cut (hT : TabOk P T) {dst : Option Tmp} {t e : Nat} {i ei : TI} {x y : Operand} {k sz ty h : Nat} {ik : IntKind} {rows : List (List D)} {s : St} {K : St → Prop} {KP : D → St → Prop} (ht : T t = some i) (hk : i.kd = .slice e) (he : T e = some ei)
  (hx : evD s.env x = .own k) (hy : evD s.env y = .v (.int ik h)) (ho : s.om[k]? = some (.slc ty sz rows)) (hh : h ≤ rows.length)
  (hK : K (St.put ⟨s.env, s.om.set k .dead ++ [.slc ty sz (rows.take h)]⟩ dst (.own s.om.length))) : OpX P ⟨dst, .slice t x none (some y) none, none⟩ s K KP := by
 intro lo E a oo next Q e0 hs
 simp only [lop, LOp.mk.injEq] at e0
 obtain ⟨d0, q0, g0⟩ := e0
 refine ⟨?_, ?_⟩
 ·intro c hc
  rw [q0] at hc
  cases hc
 have hxv := hs.ev x
 rw [hx] at hxv
 have hbe : a.eval x = E.g k := by
  generalize a.eval x = z at hxv
  cases hxv with
  | own hk => rfl
 have hyv := hs.ev y
 rw [hy] at hyv
 obtain ⟨h0, hss, hh'⟩ := hs.rel.ob k _ ho
 obtain ⟨hR', hsub⟩ := hs.rel.kill k
 have hl : (s.om.set k Ob.dead).length = s.om.length := by simp
 have hexec : execOp a.eval oo = (do pure (.value (← Instr.sliceAt t (a.eval x) none (some (a.eval y)) none)) : Sem Next) := by
  simp only [execOp, q0, Option.map_none, Option.map_some]
 have hnat : nat? (some (D.v (.int ik h))) 0 = some h := by simp [nat?]
 have hargs : ∀ d, (some (D.v (.int ik h))) = some d → ∃ v, some (a.eval y) = some v ∧ Rd E d v := fun d hd => by cases hd; exact ⟨_, rfl, hyv⟩
 have hE : Eff P (Instr.sliceAt t (a.eval x) none (some (a.eval y)) none) E s.om (.own s.om.length) (s.om.set k .dead ++ [.slc ty sz (rows.take h)]) := by
  rw [hbe]
  rcases hh' with ⟨hg, hr⟩ | ⟨b, cs, cap, q1, q2, q3, q4, q5, q6, q7⟩
  ·subst hr
   simp only [List.length_nil, Nat.le_zero_eq] at hh
   subst hh
   have hrun := run_sliceOwn (E := E) hT ht hk he (a := none) (len := 0) (cap := 0) (lo := none) (hi := some (D.v (.int ik (0 : Nat)))) (ylo := none) (yhi := some (a.eval y)) (l := 0) (h := 0) rfl (by simp [nat?]) (by simp) (fun _ => rfl) hargs (by simp) (Nat.le_refl _) (Nat.le_refl _) (Nat.le_refl _)
   rw [hg]
   obtain ⟨p1, p2, p3, _⟩ := push_ok' hs.rel hR' hsub none (fun b hb' => by cases hb') (.slice none 0 0) E.w (.slc ty sz []) rfl (Nat.le_refl _) rfl rfl rfl (fun b _ _ => rfl)
    (fun b _ hb' => by simp [hb] at hb') (fun hx => ⟨h0, by simp, .inl ⟨by simp [Env.push], rfl⟩⟩)
   rw [hl] at p3
   exact ⟨E.push (.slice none 0 0) E.w, _, hrun, p1, p2, p3⟩
  ·have hrun := run_sliceOwn (E := E) hT ht hk he (a := some ⟨b, 0, none⟩) (len := rows.length) (cap := cap) (lo := none) (hi := some (D.v (.int ik h))) (ylo := none) (yhi := some (a.eval y)) (l := 0) (h := h) rfl (by simp [nat?]) (by simp) (fun _ => rfl) hargs (by simp) (Nat.zero_le _) (by omega) q5
   have hv : (if cap = 0 then some (⟨b, 0, none⟩ : Addr) else (some (⟨b, 0, none⟩ : Addr)).map (·.add (0 * ei.size))) = some ⟨b, 0, none⟩ := by
    split
    ·rfl
    ·simp [Addr.add]
   rw [hv, Nat.sub_zero, Nat.sub_zero] at hrun
   rw [q1]
   have hgb : hb (E.g k) = some b := by rw [q1]; rfl
   obtain ⟨p1, p2, p3, _⟩ := push_ok' hs.rel hR' hsub (some b) (fun b' hb' => by cases hb'; exact hs.rel.killed ho rfl hgb) (.slice (some ⟨b, 0, none⟩) h cap) E.w (.slc ty sz (rows.take h)) rfl (Nat.le_refl _) rfl rfl rfl (fun b _ _ => rfl)
    (fun b' _ hb' => by simp only [hb, Option.some.injEq] at hb'; exact .inr (by rw [hb']))
    (fun hx => ⟨h0, fun r hr => hss r (List.mem_of_mem_take hr), .inr ⟨b, cs, cap, by simp [Env.push]; omega, q2, q3, q4, by simp; omega, q6, fun j d hj => by
     have hj' : rows.flatten[j]? = some d := by
      have : (rows.take h).flatten ++ (rows.drop h).flatten = rows.flatten := by rw [← List.flatten_append, List.take_append_drop]
      rw [← this, List.getElem?_append_left (List.getElem?_eq_some_iff.1 hj).1]
      exact hj
     obtain ⟨u, u1, u2, u3⟩ := q7 j d hj'
     exact ⟨u, u1, u2, u3.ext hs.rel hx⟩⟩⟩)
   rw [hl] at p3
   exact ⟨E.push (.slice (some ⟨b, 0, none⟩) h cap) E.w, _, hrun, p1, p2, p3⟩
 rw [← d0] at hK
 exact Done.eff hs hexec hE hK
theorem obPut_app : ∀ (c d : List D) (o : Ob) (p : Nat), obPut o p (c ++ d) = (obPut o p c).bind fun o' => obPut o' (p + c.length) d
 | [], d, o, p => by simp [obPut]
 | x :: c, d, o, p => by
  simp only [List.cons_append, obPut]
  cases obSet 0 p x o with
  | none => rfl
  | some o' => simp only [obPut_app c d o' (p + 1), List.length_cons]; congr 1; funext o2; congr 1; omega
theorem obPut_anys {ty sz : Nat} : ∀ (m l : Nat) (rows : List (List D)), (∀ r ∈ rows, r.length = sz) → l + m = rows.length → obPut (.slc ty sz rows) (l * sz) (List.replicate (m * sz) .any) = some (.slc ty sz (rows.take l ++ List.replicate m (List.replicate sz .any)))
 | 0, l, rows, hr, hl => by
  have : rows.take l = rows := List.take_of_length_le (by omega)
  simp [obPut, this]
 | m + 1, l, rows, hr, hl => by
  have e : List.replicate ((m + 1) * sz) D.any = List.replicate sz .any ++ List.replicate (m * sz) .any := by
   rw [List.replicate_append_replicate]; congr 1; rw [Nat.succ_mul]; omega
  have hrow : ∀ r ∈ rows.set l (List.replicate sz D.any), r.length = sz := fun r hr' => by
   rcases List.mem_or_eq_of_mem_set hr' with h | h
   ·exact hr r h
   ·rw [h]; simp
  rw [e, obPut_app, obPut_slc (by omega) hr (by simp), Option.bind_some, List.length_replicate, show l * sz + sz = (l + 1) * sz by rw [Nat.succ_mul], obPut_anys m (l + 1) _ hrow (by simp; omega)]
  congr 2
  rw [List.take_set, List.take_add_one, List.getElem?_eq_getElem (by omega), Option.toList_some, List.set_append_right _ _ (by simp; omega), List.length_take, Nat.min_eq_left (by omega), Nat.sub_self, List.set_cons_zero, List.append_assoc]
  rfl
theorem run_clearOwn (hT : TabOk P T) (hR : Rel E om) {t e : Nat} {i ei : TI} (ht : T t = some i) (hk : i.kd = .slice e) (he : T e = some ei) {k l ty cap b tt : Nat} {cs : Array Value} {rows : List (List D)}
  (ho : om[k]? = some (.slc ty ei.size rows)) (hg : E.g k = .slice (some ⟨b, 0, none⟩) rows.length cap) (hl : l ≤ rows.length) :
  ∃ E', (Builtin.clear_ #[t] tt #[.slice (if cap = l then some ⟨b, 0, none⟩ else (some (⟨b, 0, none⟩ : Addr)).map (·.add (l * ei.size))) (rows.length - l) (cap - l)]).run P E.w = .ok (.tuple #[]) E'.w ∧ Ext E om E' (om.set k (.slc ty ei.size (rows.take l ++ List.replicate (rows.length - l) (List.replicate ei.size .any)))) ∧ Rel E' (om.set k (.slc ty ei.size (rows.take l ++ List.replicate (rows.length - l) (List.replicate ei.size .any)))) := by
 have hu := (hT _ _ ht).slice hk
 obtain ⟨_, hss, _⟩ := hR.ob k _ ho
 by_cases h0 : rows.length - l = 0
 ·have er : rows.take l ++ List.replicate (rows.length - l) (List.replicate ei.size D.any) = rows := by
   rw [h0, List.take_of_length_le (by omega)]; simp
  rw [er, set_same ho, h0]
  refine ⟨E, ?_, Ext.refl _ _, hR⟩
  split <;> simp [Builtin.clear_, run_underlying hu]
 ·have hcap : ¬ cap = l := by
   have := hR.ob k _ ho
   obtain ⟨_, _, hh | ⟨b', cs', cap', q1, _, _, _, q5, _⟩⟩ := this
   ·rw [hh.2] at h0; simp at h0
   ·rw [q1] at hg; cases hg; omega
  rw [if_neg hcap]
  obtain ⟨z, hz1, hz2, _⟩ := (hT _ _ he).zeroValue (w := E.w)
  have hzs : z.cells.size = ei.size := by rw [← (hT _ _ he).len, ← hz2]; simp
  have hsize : (Builtin.zeroCells z.cells (rows.length - l)).toList.length = (rows.length - l) * ei.size := by simp [Builtin.zeroCells, hzs]
  have hone : ∀ v ∈ (Builtin.zeroCells z.cells (rows.length - l)).toList, v.oneCell' = true := by
   intro v hv
   simp only [Builtin.zeroCells, Array.toList_map, List.mem_map] at hv
   obtain ⟨q, hq, rfl⟩ := hv
   have hq' : q < (rows.length - l) * z.cells.size := by simpa using hq
   have hpos : 0 < z.cells.size := by
    rcases Nat.eq_zero_or_pos z.cells.size with h | h
    ·rw [h] at hq'; simp at hq'
    ·exact h
   have hlt : q % z.cells.size < z.cells.size := Nat.mod_lt _ hpos
   refine (hT _ _ he).one _ ?_
   rw [← hz2]
   rw [getElem!_pos z.cells _ hlt]
   simp
  obtain ⟨E', p1, p2, p3⟩ := storeCells_ok (P := P) (List.replicate ((rows.length - l) * ei.size) D.any) (Builtin.zeroCells z.cells (rows.length - l)).toList 0 E om k b (l * ei.size) (.slc ty ei.size rows) _ hR ho rfl (by rw [hg]; rfl) (obPut_anys (rows.length - l) l rows hss (by omega)) (by rw [hsize]; simp)
   (fun j d hj => by
    have hj' := (List.getElem?_eq_some_iff.1 hj).1
    simp only [List.length_replicate] at hj'
    have hlt : j < (Builtin.zeroCells z.cells (rows.length - l)).toList.length := by rw [hsize]; exact hj'
    rw [List.getElem?_replicate_of_lt hj'] at hj
    cases hj
    exact ⟨_, List.getElem?_eq_getElem hlt, hone _ (List.getElem_mem hlt), .any _⟩)
  refine ⟨E', ?_, p2, p3⟩
  have ha : (some (⟨b, 0, none⟩ : Addr)).map (·.add (l * ei.size)) = some ⟨b, l * ei.size, none⟩ := by simp [add_mk]
  rw [ha]
  obtain ⟨m, hm⟩ : ∃ m, rows.length - l = m + 1 := ⟨rows.length - l - 1, by omega⟩
  rw [hm] at p1 ⊢
  simp only [Builtin.clear_]
  simp [run_underlying hu, hz1, p1]
theorem AW.regionClr (hT : TabOk P T) {base id : Nat} {ops : Array Oper} {Q : AX → St → Prop} {s : St} {x y : Operand} {ta ti ts t e k l ty : Nat} {ik : IntKind} {dd : Option Tmp} {i ei : TI} {rows : List (List D)}
  (hops : ops.toList.map lop = [⟨some ta, .move x, none⟩, ⟨some ti, .move y, none⟩, ⟨some ts, .slice t (.tmp ta) (some (.tmp ti)) none none, none⟩, ⟨dd, .call ⟨.builtin .clear, #[.tmp ts], #[t]⟩, none⟩])
  (ht : T t = some i) (hk : i.kd = .slice e) (he : T e = some ei) (hne : ta ≠ ti) (hta : ta < s.env.length) (hti : ti < s.env.length) (hts0 : ts < s.env.length) (hx : evD s.env x = .own k) (hy : evD (s.env.set ta (.own k)) y = .v (.int ik l)) (ho : s.om[k]? = some (.slc ty ei.size rows)) (hl : l ≤ rows.length)
  (h : Q .norm (St.put ⟨((s.env.set ta (.own k)).set ti (.v (.int ik l))).set ts .any, s.om.set k (.slc ty ei.size (rows.take l ++ List.replicate (rows.length - l) (List.replicate ei.size .any)))⟩ dd .any)) : AW base P (.region id ops false) Q s := by
 obtain ⟨o0, o1, o2, o3, rfl, e0, e1, e2, e3⟩ : ∃ o0 o1 o2 o3, ops = #[o0, o1, o2, o3] ∧ lop o0 = ⟨some ta, .move x, none⟩ ∧ lop o1 = ⟨some ti, .move y, none⟩ ∧ lop o2 = ⟨some ts, .slice t (.tmp ta) (some (.tmp ti)) none none, none⟩ ∧ lop o3 = ⟨dd, .call ⟨.builtin .clear, #[.tmp ts], #[t]⟩, none⟩ := by
  obtain ⟨L⟩ := ops
  match L, hops with
  | [a, b, c, d], hops =>
   simp only [List.map_cons, List.map_nil, List.cons.injEq, and_true] at hops
   exact ⟨a, b, c, d, rfl, hops.1, hops.2.1, hops.2.2.1, hops.2.2.2⟩
  | [], hops => cases hops
  | [_], hops => simp at hops
  | [_, _], hops => simp at hops
  | [_, _, _], hops => simp at hops
  | _ :: _ :: _ :: _ :: _ :: _, hops => simp at hops
 intro r lo E a hr hbase hs
 refine wpIn_region ?_
 rw [show List.range (#[o0, o1, o2, o3] : Array Oper).size = [0, 1, 2, 3] from rfl]
 simp only [lop, LOp.mk.injEq] at e0 e1 e2 e3
 obtain ⟨d0, q0, g0⟩ := e0
 obtain ⟨d1, q1, g1⟩ := e1
 obtain ⟨d2, q2, g2⟩ := e2
 obtain ⟨d3, q3, g3⟩ := e3
 have w0 : Region.wanted o0 (yielded #[o0, o1, o2, o3] a.tmps) = true := by unfold Region.wanted; rw [g0]
 unfold wpOpsIn
 show if Region.wanted o0 (yielded #[o0, o1, o2, o3] a.tmps) = true then _ else _
 rw [if_pos w0]
 have ha0 : aop P T false o0.op o0.dst s (fun s' => s' = s.put (some ta) (.own k)) (fun _ _ => False) := by rw [q0, d0]; simp [aop, hx]
 refine aop_ok hT false hs ha0 r (aop_notDefer ha0) ?_ (fun E' s' y d hk _ _ _ => hk.elim)
 rintro E1 s1 a1 rfl hx1 hs1
 have w1 : Region.wanted o1 (yielded #[o0, o1, o2, o3] a1.tmps) = true := by unfold Region.wanted; rw [g1]
 unfold wpOpsIn
 show if Region.wanted o1 (yielded #[o0, o1, o2, o3] a1.tmps) = true then _ else _
 rw [if_pos w1]
 have ha1 : aop P T false o1.op o1.dst (s.put (some ta) (.own k)) (fun s' => s' = (s.put (some ta) (.own k)).put (some ti) (.v (.int ik l))) (fun _ _ => False) := by
  rw [q1, d1]
  have : evD (s.put (some ta) (.own k)).env y = .v (.int ik l) := hy
  simp only [aop, this]
 refine aop_ok hT false hs1 ha1 r (aop_notDefer ha1) ?_ (fun E' s' y d hk _ _ _ => hk.elim)
 rintro E2 s2 a2 rfl hx2 hs2
 have om2 : ((s.put (some ta) (.own k)).put (some ti) (.v (.int ik l))).om = s.om := rfl
 have ho2 : ((s.put (some ta) (.own k)).put (some ti) (.v (.int ik l))).om[k]? = some (.slc ty ei.size rows) := ho
 have va : a2.tmps.getD ta undef = E2.g k := by
  have := hs2.rd ta
  have e : ((s.put (some ta) (.own k)).put (some ti) (.v (.int ik l))).env.getD ta .any = .own k := by
   show ((s.env.set ta (.own k)).set ti _).getD ta .any = _
   simp [List.getD_eq_getElem?_getD, List.getElem?_set, hta, hne, Ne.symm hne]
  rw [e] at this
  generalize a2.tmps.getD ta undef = z at this
  cases this with
  | own hk => rfl
 have vi : a2.tmps.getD ti undef = .int ik l := by
  have := hs2.rd ti
  have e : ((s.put (some ta) (.own k)).put (some ti) (.v (.int ik l))).env.getD ti .any = .v (.int ik l) := by
   show ((s.env.set ta (.own k)).set ti _).getD ti .any = _
   simp [List.getD_eq_getElem?_getD, List.getElem?_set, hti]
  rw [e] at this
  exact this.v_inv
 have w2 : Region.wanted o2 (yielded #[o0, o1, o2, o3] a2.tmps) = true := by unfold Region.wanted; rw [g2]
 have hx02 := hx1.trans hx2
 have hu := (hT _ _ ht).slice hk
 obtain ⟨v, hrun2, hv⟩ : ∃ v, (Instr.sliceAt t (E2.g k) (some (.int ik l)) none none).run P E2.w = .ok v E2.w ∧
   ((rows = [] ∧ v = .slice none 0 0) ∨ ∃ b cap, E2.g k = .slice (some ⟨b, 0, none⟩) rows.length cap ∧ v = .slice (if cap = l then some ⟨b, 0, none⟩ else (some (⟨b, 0, none⟩ : Addr)).map (·.add (l * ei.size))) (rows.length - l) (cap - l)) := by
  have hbd : ∀ d, (some (D.v (.int ik l))) = some d → ∃ v, some (Value.int ik l) = some v ∧ Rd E2 d v := fun d hd => by cases hd; exact ⟨_, rfl, .v _⟩
  obtain ⟨h0, hss, ⟨hg, hr0⟩ | ⟨b, cs, cap, p1, p2, p3, p4, p5, p6, p7⟩⟩ := hs2.rel.ob k _ ho2
  ·subst hr0
   simp only [List.length_nil, Nat.le_zero_eq] at hl
   subst hl
   have hrun := run_sliceOwn (E := E2) hT ht hk he (a := none) (len := 0) (cap := 0) (lo := some (D.v (.int ik (0 : Nat)))) (hi := none) (ylo := some (.int ik (0 : Nat))) (yhi := none) (l := 0) (h := 0) (by simp [nat?]) rfl hbd (by simp) (by simp) (fun _ => rfl) (Nat.le_refl _) (Nat.le_refl _) (Nat.le_refl _)
   rw [hg]
   exact ⟨_, hrun, .inl ⟨rfl, by simp⟩⟩
  ·have hrun := run_sliceOwn (E := E2) hT ht hk he (a := some ⟨b, 0, none⟩) (len := rows.length) (cap := cap) (lo := some (D.v (.int ik l))) (hi := none) (ylo := some (.int ik l)) (yhi := none) (l := l) (h := rows.length) (by simp [nat?]) rfl hbd (by simp) (by simp) (fun _ => rfl) hl p5 p5
   rw [p1]
   exact ⟨_, hrun, .inr ⟨b, cap, rfl, rfl⟩⟩
 unfold wpOpsIn
 show if Region.wanted o2 (yielded #[o0, o1, o2, o3] a2.tmps) = true then _ else _
 rw [if_pos w2]
 have hex2 : execOp a2.eval o2 = (do pure (.value (← Instr.sliceAt t (E2.g k) (some (.int ik l)) none none)) : Sem Next) := by
  simp only [execOp, q2, Option.map_none, Option.map_some, Act.eval, va, vi]
 have hD2 : Done lo P o2 a2 E2 ((s.put (some ta) (.own k)).put (some ti) (.v (.int ik l))) (fun s' => s' = ((s.put (some ta) (.own k)).put (some ti) (.v (.int ik l))).put (some ts) (.v v)) (fun _ _ => False)
   (wpOpsIn (fence r) 0 P #[o0, o1, o2, o3] (Post lo base Q E s.om) [3]) (Post lo base Q E s.om) := Done.value hs2 hex2 hrun2 (.v v) (by rw [d2])
 refine hD2 r ?_ ?_ (fun E' s' y d hk _ _ _ => hk.elim)
 ·intro c hc
  rw [q2] at hc
  cases hc
 rintro E2' s3 a3 rfl hx3' hs3
 have ho3 : (((s.put (some ta) (.own k)).put (some ti) (.v (.int ik l))).put (some ts) (.v v)).om[k]? = some (.slc ty ei.size rows) := ho
 have hk2 : k < E2.n := by
  have h1 : k < s.om.length := (List.getElem?_eq_some_iff.1 ho).1
  have h2 := hs2.rel.len
  rw [om2] at h2
  omega
 have vs : a3.tmps.getD ts undef = v ∨ ts ≥ a3.tmps.size := by
  by_cases hts : ts < a3.tmps.size
  ·left
   have := hs3.rd ts
   have hsz := hs3.size
   have e : (((s.put (some ta) (.own k)).put (some ti) (.v (.int ik l))).put (some ts) (.v v)).env.getD ts .any = .v v := by
    show (((s.env.set ta (.own k)).set ti _).set ts _).getD ts .any = _
    have : ts < s.env.length := by
     have h3 : (((s.env.set ta (.own k)).set ti (D.v (.int ik l))).set ts (D.v v)).length = s.env.length := by simp
     have : a3.tmps.size = (((s.env.set ta (.own k)).set ti (D.v (.int ik l))).set ts (D.v v)).length := hsz
     omega
    simp [List.getD_eq_getElem?_getD, List.getElem?_set, this]
   rw [e] at this
   exact this.v_inv
  ·exact .inr (by omega)
 have hts : ts < a3.tmps.size := by
  have : a3.tmps.size = (((s.env.set ta (.own k)).set ti (D.v (.int ik l))).set ts (D.v v)).length := hs3.size
  simp at this
  omega
 have vs : a3.tmps.getD ts undef = v := vs.resolve_right (by omega)
 obtain ⟨E4, hrun3, hx4, hR4⟩ : ∃ E4, (Builtin.clear_ #[t] o3.type #[v]).run P E2'.w = .ok (.tuple #[]) E4.w ∧
   Ext E2' s.om E4 (s.om.set k (.slc ty ei.size (rows.take l ++ List.replicate (rows.length - l) (List.replicate ei.size .any)))) ∧ Rel E4 (s.om.set k (.slc ty ei.size (rows.take l ++ List.replicate (rows.length - l) (List.replicate ei.size .any)))) := by
  rcases hv with ⟨hr0, rfl⟩ | ⟨b, cap, hg, rfl⟩
  ·subst hr0
   simp only [List.length_nil, Nat.le_zero_eq] at hl
   subst hl
   refine ⟨E2', by simp [Builtin.clear_, run_underlying hu], ?_, ?_⟩
   ·simp only [List.take_nil, List.length_nil, Nat.sub_self, List.replicate_zero, List.append_nil]
    rw [set_same ho]; exact Ext.refl _ _
   ·simp only [List.take_nil, List.length_nil, Nat.sub_self, List.replicate_zero, List.append_nil]
    rw [set_same ho]; exact hs3.rel
  ·exact run_clearOwn (cs := #[]) hT hs3.rel ht hk he ho3 ((hx3'.g k hk2).trans hg) hl
 have w3 : Region.wanted o3 (yielded #[o0, o1, o2, o3] a3.tmps) = true := by unfold Region.wanted; rw [g3]
 unfold wpOpsIn
 show if Region.wanted o3 (yielded #[o0, o1, o2, o3] a3.tmps) = true then _ else _
 rw [if_pos w3]
 have hex3 : execOp a3.eval o3 = (do pure (.value (← Builtin.clear_ #[t] o3.type #[v])) : Sem Next) := by
  have : a3.eval (.tmp ts) = v := vs
  simp only [execOp, q3, resolve]
  simp [invoke, builtin, this]
 have hs3' : Sat lo E2' ⟨((s.env.set ta (.own k)).set ti (.v (.int ik l))).set ts .any, s.om⟩ a3 := ⟨hs3.rel, hs3.defs, by have := hs3.size; simpa [St.put] using this, fun u => by
  have := hs3.rd u
  show Rd E2' ((((s.env.set ta (.own k)).set ti (.v (.int ik l))).set ts .any).getD u .any) _
  by_cases hu' : u = ts
  ·have e : (((s.env.set ta (.own k)).set ti (D.v (.int ik l))).set ts .any).getD u .any = .any := by
    rw [hu', List.getD_eq_getElem?_getD, List.getElem?_set, if_pos rfl]
    split <;> rfl
   rw [e]
   exact .any _
  ·have e : (((s.env.set ta (.own k)).set ti (D.v (.int ik l))).set ts .any).getD u .any = (((s.env.set ta (.own k)).set ti (D.v (.int ik l))).set ts (.v v)).getD u .any := by
    simp [List.getD_eq_getElem?_getD, List.getElem?_set, Ne.symm hu']
   rw [e]
   exact this⟩
 have hD3 : Done lo P o3 a3 E2' ⟨((s.env.set ta (.own k)).set ti (.v (.int ik l))).set ts .any, s.om⟩ (Q .norm) (fun _ _ => False)
   (wpOpsIn (fence r) 0 P #[o0, o1, o2, o3] (Post lo base Q E s.om) []) (Post lo base Q E s.om) := Done.eff hs3' hex3 ⟨E4, _, hrun3, hx4, hR4, .any _⟩ (by rw [d3]; exact h)
 have hxa : Ext E s.om E2' s.om := (hx1.trans hx2).trans hx3'
 refine hD3 r ?_ ?_ (fun E' s' y d hk _ _ _ => hk.elim)
 ·intro c hc
  rw [q3] at hc
  cases hc
 ·intro E' s' a' hq hx' hs'
  exact ⟨E', .norm, s', hq, trivial, rfl, (hxa.trans hx').toB hbase, hs'⟩
theorem ALW.regX {base : Nat} {reg : List LOp} {own : List Nat} {Q : AX → St → Prop} {s : St} (h : opsX P reg reg s (Q .norm) (fun d => Q (.panic d))) : ALW base P (.reg reg own none) Q s := by
 intro c hc
 obtain ⟨id, ops, rfl, hops⟩ := reg_none (show lc c = .reg reg [] none from hc)
 exact AW.regionX reg hops h
theorem ALW.regClr (hT : TabOk P T) {base : Nat} {own : List Nat} {Q : AX → St → Prop} {s : St} {x y : Operand} {ta ti ts t e k l ty : Nat} {ik : IntKind} {dd : Option Tmp} {i ei : TI} {rows : List (List D)}
  (ht : T t = some i) (hk : i.kd = .slice e) (he : T e = some ei) (hne : ta ≠ ti) (hta : ta < s.env.length) (hti : ti < s.env.length) (hts0 : ts < s.env.length) (hx : evD s.env x = .own k) (hy : evD (s.env.set ta (.own k)) y = .v (.int ik l)) (ho : s.om[k]? = some (.slc ty ei.size rows)) (hl : l ≤ rows.length)
  (h : Q .norm (St.put ⟨((s.env.set ta (.own k)).set ti (.v (.int ik l))).set ts .any, s.om.set k (.slc ty ei.size (rows.take l ++ List.replicate (rows.length - l) (List.replicate ei.size .any)))⟩ dd .any)) :
  ALW base P (.reg [⟨some ta, .move x, none⟩, ⟨some ti, .move y, none⟩, ⟨some ts, .slice t (.tmp ta) (some (.tmp ti)) none none, none⟩, ⟨dd, .call ⟨.builtin .clear, #[.tmp ts], #[t]⟩, none⟩] own none) Q s := by
 intro c hc
 obtain ⟨id, ops, rfl, hops⟩ := reg_none (show lc c = .reg _ [] none from hc)
 exact AW.regionClr hT hops ht hk he hne hta hti hts0 hx hy ho hl h
theorem AC.lbodyA (hT : TabOk P T) {f : FuncId} {fn : Func} (hf : P.funcs[f]? = some fn) (hn : (fn.name == "runtime.NumGoroutine") = false) {l : LC} (hb : fn.body.map lc = some l.st) {rs : List ResultVar} (hrs : fn.results.toList = rs) {n : Nat} (hnt : fn.ntmps = n) {ds : List D} {R : Out → List Ob → Prop}
  (h : ALW om.length P l (finQ T rs om R) ⟨ds ++ List.replicate (n - ds.length) D.any, om⟩) : AC P f ds om R := by
 simp only [Option.map_eq_some_iff] at hb
 obtain ⟨c, hc, hl⟩ := hb
 exact AC.body hT hf hc hn hrs hnt (h c hl)
end
end Go.Proofs.YtlejbkfefpfolaaGreatDoor.AWP
