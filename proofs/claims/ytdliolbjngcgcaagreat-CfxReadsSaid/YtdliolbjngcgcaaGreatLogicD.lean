/- A slice held against nil: both answers, unless it holds something. -/
import Derived.Test.YtdliolbjngcgcaaGreatEvalA
import Derived.Lib.SliceRun
set_option linter.unusedVariables false
set_option linter.unusedSimpArgs false
set_option linter.unusedSectionVars false
/- A slice of one's own is cut short; its end is cleared. -/
namespace Go.Proofs.YtdliolbjngcgcaaGreat.AWP
open Go
section
variable {P : Program} {T : Tab} {E : Env} {om : List Ob}
theorem run_sliceOwn (hT : TabOk P T) {t e : Nat} {i ei : TI} (ht : T t = some i) (hk : i.kd = .slice e) (he : T e = some ei) {a : Option Addr} {len cap : Nat} {lo hi : Option D} {ylo yhi : Option Value} {l h : Nat}
    (hlo : nat? lo 0 = some l) (hhi : nat? hi len = some h) (h1 : ∀ d, lo = some d → ∃ v, ylo = some v ∧ Rd E d v) (h1' : lo = none → ylo = none)
    (h2 : ∀ d, hi = some d → ∃ v, yhi = some v ∧ Rd E d v) (h2' : hi = none → yhi = none) (hle : l ≤ h) (hc : h ≤ cap) (hlc : len ≤ cap) :
    (Instr.sliceAt t (.slice a len cap) ylo yhi none).run P E.w = .ok (.slice (if cap = l then a else a.map (·.add (l * ei.size))) (h - l) (cap - l)) E.w := by
  have hu := (hT _ _ ht).slice hk
  unfold Instr.sliceAt
  simp only [Sem.run_bind, run_underlying hu, Result.andThen_ok]
  unfold Instr.slice
  simp only [Sem.run_bind, run_underlying hu, Result.andThen_ok, bounds_ok (P := P) (w := E.w) (isSl := true) hlo hhi h1 h1' h2 h2' hle hc hlc, (hT _ _ he).sizeOf, Sem.run_pure]
/-- Its first ones alone. -/
theorem OpX.cut (hT : TabOk P T) {dst : Option Tmp} {t e : Nat} {i ei : TI} {x y : Operand} {k sz ty h : Nat} {ik : IntKind} {rows : List (List D)} {s : St} {K : St → Prop} {KP : D → St → Prop} (ht : T t = some i) (hk : i.kd = .slice e) (he : T e = some ei)
    (hx : evD s.env x = .own k) (hy : evD s.env y = .v (.int ik h)) (ho : s.om[k]? = some (.slc ty sz rows)) (hh : h ≤ rows.length)
    (hK : K (St.put ⟨s.env, s.om.set k .dead ++ [.slc ty sz (rows.take h)]⟩ dst (.own s.om.length))) : OpX P ⟨dst, .slice t x none (some y) none, none⟩ s K KP := by
  intro lo E a oo next Q e0 hs
  simp only [lop, LOp.mk.injEq] at e0
  obtain ⟨d0, q0, g0⟩ := e0
  refine ⟨?_, ?_⟩
  · intro c hc
    rw [q0] at hc
    cases hc
  have hxv := hs.ev x
  rw [hx] at hxv
  have hbe : a.eval x = E.g k := by
    generalize a.eval x = z at hxv
    cases hxv with
    | own hk => rfl
  have hyv := hs.ev y
  rw [hy] at hyv
  obtain ⟨h0, hss, hh'⟩ := hs.rel.ob k _ ho
  obtain ⟨hR', hsub⟩ := hs.rel.kill k
  have hl : (s.om.set k Ob.dead).length = s.om.length := by simp
  have hexec : execOp a.eval oo = (do pure (.value (← Instr.sliceAt t (a.eval x) none (some (a.eval y)) none)) : Sem Next) := by
    simp only [execOp, q0, Option.map_none, Option.map_some]
  have hnat : nat? (some (D.v (.int ik h))) 0 = some h := by simp [nat?]
  have hargs : ∀ d, (some (D.v (.int ik h))) = some d → ∃ v, some (a.eval y) = some v ∧ Rd E d v := fun d hd => by cases hd; exact ⟨_, rfl, hyv⟩
  have hE : Eff P (Instr.sliceAt t (a.eval x) none (some (a.eval y)) none) E s.om (.own s.om.length) (s.om.set k .dead ++ [.slc ty sz (rows.take h)]) := by
    rw [hbe]
    rcases hh' with ⟨hg, hr⟩ | ⟨b, cs, cap, q1, q2, q3, q4, q5, q6, q7⟩
    · subst hr
      simp only [List.length_nil, Nat.le_zero_eq] at hh
      subst hh
      have hrun := run_sliceOwn (E := E) hT ht hk he (a := none) (len := 0) (cap := 0) (lo := none) (hi := some (D.v (.int ik (0 : Nat)))) (ylo := none) (yhi := some (a.eval y)) (l := 0) (h := 0) rfl (by simp [nat?]) (by simp) (fun _ => rfl) hargs (by simp) (Nat.le_refl _) (Nat.le_refl _) (Nat.le_refl _)
      rw [hg]
      obtain ⟨p1, p2, p3, _⟩ := push_ok' hs.rel hR' hsub none (fun b hb' => by cases hb') (.slice none 0 0) E.w (.slc ty sz []) rfl (Nat.le_refl _) rfl rfl rfl (fun b _ _ => rfl)
        (fun b _ hb' => by simp [hb] at hb') (fun hx => ⟨h0, by simp, .inl ⟨by simp [Env.push], rfl⟩⟩)
      rw [hl] at p3
      exact ⟨E.push (.slice none 0 0) E.w, _, hrun, p1, p2, p3⟩
    · have hrun := run_sliceOwn (E := E) hT ht hk he (a := some ⟨b, 0, none⟩) (len := rows.length) (cap := cap) (lo := none) (hi := some (D.v (.int ik h))) (ylo := none) (yhi := some (a.eval y)) (l := 0) (h := h) rfl (by simp [nat?]) (by simp) (fun _ => rfl) hargs (by simp) (Nat.zero_le _) (by omega) q5
      have hv : (if cap = 0 then some (⟨b, 0, none⟩ : Addr) else (some (⟨b, 0, none⟩ : Addr)).map (·.add (0 * ei.size))) = some ⟨b, 0, none⟩ := by
        split
        · rfl
        · simp [Addr.add]
      rw [hv, Nat.sub_zero, Nat.sub_zero] at hrun
      rw [q1]
      have hgb : hb (E.g k) = some b := by rw [q1]; rfl
      obtain ⟨p1, p2, p3, _⟩ := push_ok' hs.rel hR' hsub (some b) (fun b' hb' => by cases hb'; exact hs.rel.killed ho rfl hgb) (.slice (some ⟨b, 0, none⟩) h cap) E.w (.slc ty sz (rows.take h)) rfl (Nat.le_refl _) rfl rfl rfl (fun b _ _ => rfl)
        (fun b' _ hb' => by simp only [hb, Option.some.injEq] at hb'; exact .inr (by rw [hb']))
        (fun hx => ⟨h0, fun r hr => hss r (List.mem_of_mem_take hr), .inr ⟨b, cs, cap, by simp [Env.push]; omega, q2, q3, q4, by simp; omega, q6, fun j d hj => by
          have hj' : rows.flatten[j]? = some d := by
            have : (rows.take h).flatten ++ (rows.drop h).flatten = rows.flatten := by rw [← List.flatten_append, List.take_append_drop]
            rw [← this, List.getElem?_append_left (List.getElem?_eq_some_iff.1 hj).1]
            exact hj
          obtain ⟨u, u1, u2, u3⟩ := q7 j d hj'
          exact ⟨u, u1, u2, u3.ext hs.rel hx⟩⟩⟩)
      rw [hl] at p3
      exact ⟨E.push (.slice (some ⟨b, 0, none⟩) h cap) E.w, _, hrun, p1, p2, p3⟩
  rw [← d0] at hK
  exact Done.eff hs hexec hE hK
/-! ### Cleared -/
/-! ### In light code -/
theorem ALW.regX {base : Nat} {reg : List LOp} {own : List Nat} {Q : AX → St → Prop} {s : St} (h : opsX P reg reg s (Q .norm) (fun d => Q (.panic d))) : ALW base P (.reg reg own none) Q s := by
  intro c hc
  obtain ⟨id, ops, rfl, hops⟩ := reg_none (show lc c = .reg reg [] none from hc)
  exact AW.regionX reg hops h
theorem AC.lbodyA (hT : TabOk P T) {f : FuncId} {fn : Func} (hf : P.funcs[f]? = some fn) (hn : (fn.name == "runtime.NumGoroutine") = false) {l : LC} (hb : fn.body.map lc = some l.st) {rs : List ResultVar} (hrs : fn.results.toList = rs) {n : Nat} (hnt : fn.ntmps = n) {ds : List D} {R : Out → List Ob → Prop}
    (h : ALW om.length P l (finQ T rs om R) ⟨ds ++ List.replicate (n - ds.length) D.any, om⟩) : AC P f ds om R := by
  simp only [Option.map_eq_some_iff] at hb
  obtain ⟨c, hc, hl⟩ := hb
  exact AC.body hT hf hc hn hrs hnt (h c hl)
end
end Go.Proofs.YtdliolbjngcgcaaGreat.AWP
/- A slice held against nil: both answers, unless it holds something. -/
namespace Go.Proofs.YtdliolbjngcgcaaGreat.AWP
open Go
section
variable {P : Program} {T : Tab}
theorem OpX.eqNil (hT : TabOk P T) {dst : Option Tmp} {t ty' e : Nat} {i : TI} {x : Operand} {sz : Nat} {rows : List (List D)} {s : St} {K : St → Prop} {KP : D → St → Prop} (ht : T t = some i) (hk : i.kd = .slice e)
    (hx : evD s.env x = .sl sz rows) (h1 : rows = [] → K (s.put dst (.b true))) (h0 : K (s.put dst (.b false))) : OpX P ⟨dst, .binOp .eql t x (.const (.slice none 0 0)) ty', none⟩ s K KP := by
  intro lo E a oo next Q e0 hs
  simp only [lop, LOp.mk.injEq] at e0
  obtain ⟨d0, q0, g0⟩ := e0
  refine ⟨?_, ?_⟩
  · intro c hc
    rw [q0] at hc
    cases hc
  have hxv := hs.ev x
  rw [hx] at hxv
  have hexec : execOp a.eval oo = (do pure (.value (← (do eqGuard .eql t x (.const (.slice none 0 0)) (a.eval x) (.slice none 0 0); binOp .eql t (a.eval x) (.slice none 0 0) : Sem Value))) : Sem Next) := by
    simp only [execOp, q0]; rfl
  have key : ∃ b : Bool, (b = true → rows = []) ∧ Eff P (do eqGuard .eql t x (.const (.slice none 0 0)) (a.eval x) (.slice none 0 0); binOp .eql t (a.eval x) (.slice none 0 0) : Sem Value) E s.om (.b b) s.om := by
    generalize a.eval x = y at hxv
    cases hxv with
    | @sl _ _ ao cap ad u hr hl hm ha hc hd =>
      refine ⟨ao.isNone, fun hn => ?_, E, _, (?_ : _ = Result.ok (.bool ao.isNone) E.w), Ext.refl _ _, hs.rel, .v _⟩
      · rcases ha with rfl | ⟨rfl, _⟩
        · rfl
        · cases hn
      · have hg : (eqGuard .eql t x (.const (.slice none 0 0)) (.slice ao rows.length cap) (.slice none 0 0)).run P E.w = .ok () E.w := by simp [eqGuard]
        simp only [Sem.run_bind, hg, Result.andThen_ok]
        exact Go.Lib.run_eql_slice_nil E.w t e ao rows.length cap 0 0 ((hT _ _ ht).slice hk)
  obtain ⟨b, hb, hE⟩ := key
  have hK : K (s.put dst (.b b)) := by
    cases b with
    | true => exact h1 (hb rfl)
    | false => exact h0
  rw [← d0] at hK
  exact Done.eff hs hexec hE hK
end
end Go.Proofs.YtdliolbjngcgcaaGreat.AWP
