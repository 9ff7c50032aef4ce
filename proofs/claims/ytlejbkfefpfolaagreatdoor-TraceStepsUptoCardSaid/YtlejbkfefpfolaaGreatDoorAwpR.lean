/- Moves: objects are frozen, dropped, numbered anew; what is read is weakened. -/
import Derived.Test.YtlejbkfefpfolaaGreatDoorAwpQ
set_option linter.unusedVariables false
set_option linter.unusedSimpArgs false
set_option linter.unusedSectionVars false
namespace Go.Proofs.YtlejbkfefpfolaaGreatDoor.AWP
open Go
inductive Cv (om : List Ob) (F : Nat → Bool) (ks : List (Option Nat)) : D → D → Prop where
 | same {d : D} (h : Bl 0 d) : Cv om F ks d d
 | any {d : D} : Cv om F ks d .any
 | nil {sz : Nat} : Cv om F ks (.v (.slice none 0 0)) (.sl sz [])
 | nilOwn {j : Nat} (h : ks[j]? = some none) : Cv om F ks (.v (.slice none 0 0)) (.own j)
 | own {k j : Nat} (h : ks[j]? = some (some k)) : Cv om F ks (.own k) (.own j)
 | ref {k j off : Nat} (h : ks[j]? = some (some k)) : Cv om F ks (.ref k off) (.ref j off)
 | rel {k j sz i l : Nat} (h : ks[j]? = some (some k)) : Cv om F ks (.rel k sz i l) (.rel j sz i l)
 | yld {k j : Nat} (h : ks[j]? = some (some k)) : Cv om F ks (.yld k) (.yld j)
 | frz {k ty sz : Nat} {rows rows' : List (List D)} (h : om[k]? = some (.slc ty sz rows)) (hF : F k = true) (hl : rows'.length = rows.length)
   (hr : ∀ (i : Nat) (r r' : List D), rows[i]? = some r → rows'[i]? = some r' → r'.length = r.length)
   (hc : ∀ (i : Nat) (r r' : List D) (j : Nat) (d d' : D), rows[i]? = some r → rows'[i]? = some r' → r[j]? = some d → r'[j]? = some d' → Cv om F ks d d') : Cv om F ks (.own k) (.sl sz rows')
 | frz' {k sz : Nat} {rows rows' : List (List D)} (h : om[k]? = some (.frz sz rows)) (hl : rows'.length = rows.length)
   (hr : ∀ (i : Nat) (r r' : List D), rows[i]? = some r → rows'[i]? = some r' → r'.length = r.length)
   (hc : ∀ (i : Nat) (r r' : List D) (j : Nat) (d d' : D), rows[i]? = some r → rows'[i]? = some r' → r[j]? = some d → r'[j]? = some d' → Cv om F ks d d') : Cv om F ks (.own k) (.sl sz rows')
 | frv {k ty off : Nat} {c c' : List D} (h : om[k]? = some (.var ty c)) (hF : F k = true) (hl : c'.length + off ≤ c.length)
   (hc : ∀ (j : Nat) (d d' : D), c[off + j]? = some d → c'[j]? = some d' → Cv om F ks d d') : Cv om F ks (.ref k off) (.pel c')
 | frv' {k off : Nat} {c c' : List D} (h : om[k]? = some (.frv c)) (hl : c'.length + off ≤ c.length)
   (hc : ∀ (j : Nat) (d d' : D), c[off + j]? = some d → c'[j]? = some d' → Cv om F ks d d') : Cv om F ks (.ref k off) (.pel c')
 | sl {sz : Nat} {rows rows' : List (List D)} (hl : rows'.length = rows.length)
   (hr : ∀ (i : Nat) (r r' : List D), rows[i]? = some r → rows'[i]? = some r' → r'.length = r.length)
   (hc : ∀ (i : Nat) (r r' : List D) (j : Nat) (d d' : D), rows[i]? = some r → rows'[i]? = some r' → r[j]? = some d → r'[j]? = some d' → Cv om F ks d d') : Cv om F ks (.sl sz rows) (.sl sz rows')
 | agg {c c' : List D} (hl : c'.length = c.length) (hc : ∀ (j : Nat) (d d' : D), c[j]? = some d → c'[j]? = some d' → Cv om F ks d d') : Cv om F ks (.agg c) (.agg c')
 | tup {c c' : List D} (hl : c'.length = c.length) (hc : ∀ (j : Nat) (d d' : D), c[j]? = some d → c'[j]? = some d' → Cv om F ks d d') : Cv om F ks (.tup c) (.tup c')
 | pel {c c' : List D} (hl : c'.length = c.length) (hc : ∀ (j : Nat) (d d' : D), c[j]? = some d → c'[j]? = some d' → Cv om F ks d d') : Cv om F ks (.pel c) (.pel c')
 | fn {f : FuncId} {c c' : List D} (hl : c'.length = c.length) (hc : ∀ (j : Nat) (d d' : D), c[j]? = some d → c'[j]? = some d' → Cv om F ks d d') : Cv om F ks (.fn f c) (.fn f c')
 | ifc {t : TypeId} {d d' : D} (h : Cv om F ks d d') : Cv om F ks (.ifc t d) (.ifc t d')
structure CvOk (E E' : Env) (om : List Ob) (F : Nat → Bool) (ks : List (Option Nat)) : Prop where
 A : ∀ b, E.A b → E'.A b
 w : E'.w = E.w
 n : ks.length ≤ E'.n
 g : ∀ j k : Nat, ks[j]? = some (some k) → E'.g j = E.g k
 g0 : ∀ j : Nat, ks[j]? = some none → E'.g j = .slice none 0 0
 frz : ∀ (k : Nat) (o : Ob) (b : Nat), om[k]? = some o → o.live = true → F k = true → hb (E.g k) = some b → E'.A b
section
variable {E E' : Env} {om om' : List Ob} {F : Nat → Bool} {ks : List (Option Nat)}
theorem get_of_len {α : Type} {c c' : List α} {j : Nat} {d' : α} (hl : c'.length = c.length) (h : c'[j]? = some d') : ∃ d, c[j]? = some d := by
 have := (List.getElem?_eq_some_iff.1 h).1
 exact ⟨c[j], List.getElem?_eq_getElem (by omega)⟩
theorem Cv.rd (hR : Rel E om) (ok : CvOk E E' om F ks) {d d' : D} (h : Cv om F ks d d') : ∀ {y : Value}, Rd E d y → Rd E' d' y := by
 have kl : ∀ {j : Nat} {x : Option Nat}, ks[j]? = some x → j < E'.n := fun h => Nat.lt_of_lt_of_le (List.getElem?_eq_some_iff.1 h).1 ok.n
 induction h with
 | same h => intro y hd; exact Rd.bl (n := 0) (Nat.zero_le _) (fun k hk => by omega) ok.A ok.w hd h
 | any => intro y _; exact .any _
 | nil => intro y hd; rw [hd.v_inv]; exact Rd.sl (rows := []) ⟨0, 0, none⟩ (fun _ => .nilFunc) (by simp) (Nat.le_refl _) (Nat.zero_le _) (.inl rfl) (by simp) (by simp)
 | nilOwn h => intro y hd; rw [hd.v_inv, ← ok.g0 _ h]; exact .own (kl h)
 | own h => intro y hd; cases hd with | own hk => rw [← ok.g _ _ h]; exact .own (kl h)
 | ref h => intro y hd; cases hd with | ref hk hg => exact .ref (kl h) (by rw [ok.g _ _ h]; exact hg)
 | rel h => intro y hd; cases hd with | rel hk hg => exact .rel (kl h) (by rw [ok.g _ _ h]; exact hg)
 | yld h => intro y hd; cases hd with | yld hk hg => exact .yld (kl h) (by rw [ok.g _ _ h]; exact hg)
 | @frz k ty sz rows rows' h hF hl hr hc ih =>
  intro y hd
  cases hd with
  | own hk =>
   obtain ⟨h0, hs, ⟨e1, e2⟩ | ⟨b, cs, cap, q1, q2, q3, q4, q5, q6, q7⟩⟩ := hR.ob k _ h
   ·subst e2
    have : rows' = [] := List.eq_nil_of_length_eq_zero (by simpa using hl)
    subst this
    rw [e1]
    exact Rd.sl (rows := []) ⟨0, 0, none⟩ (fun _ => .nilFunc) (by simp) (Nat.le_refl _) (Nat.zero_le _) (.inl rfl) (by simp) (by simp)
   ·rw [q1, ← hl]
    have hA := ok.frz k _ b h rfl hF (by rw [q1]; rfl)
    refine Rd.sl_mk rfl (fun r' hr' => ?_) (by omega) q6 (.inr ⟨⟨b, 0, none⟩, rfl, hA, fun i r' hi j d' hj => ?_⟩)
    ·obtain ⟨i, hi⟩ := List.getElem?_of_mem hr'
     obtain ⟨r, hri⟩ := get_of_len hl hi
     rw [hr i r r' hri hi]
     exact hs r (List.mem_of_getElem? hri)
    ·obtain ⟨r, hri⟩ := get_of_len hl hi
     obtain ⟨d, hdj⟩ := get_of_len (hr i r r' hri hi) hj
     obtain ⟨v, e1, e2, e3⟩ := q7 _ d (flatten_get hs hri hdj)
     refine ⟨v, ?_, e2, ih i r r' j d d' hri hi hdj hj e3⟩
     rw [ok.w, add_mk, add_mk, cell_of_heap q2, Nat.zero_add]
     exact e1
 | @frz' k sz rows rows' h hl hr hc ih =>
  intro y hd
  cases hd with
  | own hk =>
   have hob := (hR.ob k _ h).1
   generalize E.g k = y at hob
   cases hob with
   | sl ad u hr0 hl0 hm ha hcc hd0 =>
    rw [← hl]
    refine .sl ad u (fun r' hr' => ?_) (by omega) hm ?_ (fun i r' j d' hi hj => ?_) (fun i r' j d' hi hj => ?_)
    ·obtain ⟨i, hi⟩ := List.getElem?_of_mem hr'
     obtain ⟨r, hri⟩ := get_of_len hl hi
     rw [hr i r r' hri hi]
     exact hr0 r (List.mem_of_getElem? hri)
    ·rcases ha with rfl | ha
     ·exact .inl (List.eq_nil_of_length_eq_zero (by simpa using hl))
     ·exact .inr ⟨ha.1, ok.A _ ha.2⟩
    ·obtain ⟨r, hri⟩ := get_of_len hl hi
     obtain ⟨d, hdj⟩ := get_of_len (hr i r r' hri hi) hj
     rw [ok.w]
     exact hcc i r j d hri hdj
    ·obtain ⟨r, hri⟩ := get_of_len hl hi
     obtain ⟨d, hdj⟩ := get_of_len (hr i r r' hri hi) hj
     exact ih i r r' j d d' hri hi hdj hj (hd0 i r j d hri hdj)
 | @frv k ty off c c' h hF hl hc ih =>
  intro y hd
  cases hd with
  | ref hk hg =>
   obtain ⟨b, cs, q1, q2, q3, q4, q5⟩ := hR.ob k _ h
   rw [q1] at hg
   simp only [hb, Option.some.injEq] at hg
   subst hg
   have hA := ok.frz k _ b h rfl hF (by rw [q1]; rfl)
   refine Rd.pel_mk hA fun j d' hj => ?_
   have hjl := (List.getElem?_eq_some_iff.1 hj).1
   obtain ⟨v, e1, e2, e3⟩ := q5 (off + j) c[off + j] (List.getElem?_eq_getElem (by omega))
   refine ⟨v, ?_, e2, ih j _ d' (List.getElem?_eq_getElem (by omega)) hj e3⟩
   rw [ok.w, add_mk, cell_of_heap q2]
   exact e1
 | @frv' k off c c' h hl hc ih =>
  intro y hd
  cases hd with
  | ref hk hg =>
   obtain ⟨hp, b, q1⟩ := hR.ob k _ h
   rw [q1] at hg hp
   simp only [hb, Option.some.injEq] at hg
   subst hg
   cases hp with
   | pel ad u hA hcc hd0 =>
    refine Rd.pel_mk (ok.A _ hA) fun j d' hj => ?_
    have hjl := (List.getElem?_eq_some_iff.1 hj).1
    have e := List.getElem?_eq_getElem (l := c) (i := off + j) (by omega)
    refine ⟨u (off + j), ?_, (hcc _ _ e).2, ih j _ d' e hj (hd0 _ _ e)⟩
    rw [ok.w, add_mk]
    have := (hcc _ _ e).1
    rw [add_mk, Nat.zero_add] at this
    exact this
 | @sl sz rows rows' hl hr hc ih =>
  intro y hd
  cases hd with
  | sl ad u hr0 hl0 hm ha hcc hd0 =>
   rw [← hl]
   refine .sl ad u (fun r' hr' => ?_) (by omega) hm ?_ (fun i r' j d' hi hj => ?_) (fun i r' j d' hi hj => ?_)
   ·obtain ⟨i, hi⟩ := List.getElem?_of_mem hr'
    obtain ⟨r, hri⟩ := get_of_len hl hi
    rw [hr i r r' hri hi]
    exact hr0 r (List.mem_of_getElem? hri)
   ·rcases ha with rfl | ha
    ·exact .inl (List.eq_nil_of_length_eq_zero (by simpa using hl))
    ·exact .inr ⟨ha.1, ok.A _ ha.2⟩
   ·obtain ⟨r, hri⟩ := get_of_len hl hi
    obtain ⟨d, hdj⟩ := get_of_len (hr i r r' hri hi) hj
    rw [ok.w]
    exact hcc i r j d hri hdj
   ·obtain ⟨r, hri⟩ := get_of_len hl hi
    obtain ⟨d, hdj⟩ := get_of_len (hr i r r' hri hi) hj
    exact ih i r r' j d d' hri hi hdj hj (hd0 i r j d hri hdj)
 | agg hl hc ih =>
  intro y hd
  cases hd with
  | agg vs hs h1 hd =>
   refine .agg vs (by omega) h1 fun j d' hj => ?_
   obtain ⟨d, hdj⟩ := get_of_len hl hj
   exact ih j d d' hdj hj (hd j d hdj)
 | tup hl hc ih =>
  intro y hd
  cases hd with
  | tup vs hs hd =>
   refine .tup vs (by omega) fun j d' hj => ?_
   obtain ⟨d, hdj⟩ := get_of_len hl hj
   exact ih j d d' hdj hj (hd j d hdj)
 | pel hl hc ih =>
  intro y hd
  cases hd with
  | pel ad u hA hcc hd =>
   refine .pel ad u (ok.A _ hA) (fun j d' hj => ?_) fun j d' hj => ?_
   ·obtain ⟨d, hdj⟩ := get_of_len hl hj
    rw [ok.w]
    exact hcc j d hdj
   ·obtain ⟨d, hdj⟩ := get_of_len hl hj
    exact ih j d d' hdj hj (hd j d hdj)
 | fn hl hc ih =>
  intro y hd
  cases hd with
  | fn vs hs hd =>
   refine .fn vs (by omega) fun j d' hj => ?_
   obtain ⟨d, hdj⟩ := get_of_len hl hj
   exact ih j d d' hdj hj (hd j d hdj)
 | ifc h ih => intro y hd; cases hd with | ifc hd => exact .ifc (ih hd)
inductive MvO (om : List Ob) (F : Nat → Bool) (ks : List (Option Nat)) : Option Nat → Ob → Prop where
 | nil {ty sz : Nat} (h : 0 < sz) : MvO om F ks none (.slc ty sz [])
 | var {k ty : Nat} {c c' : List D} (h : om[k]? = some (.var ty c)) (hl : c'.length = c.length) (hc : ∀ (j : Nat) (d d' : D), c[j]? = some d → c'[j]? = some d' → Cv om F ks d d') : MvO om F ks (some k) (.var ty c')
 | slc {k ty sz : Nat} {rows rows' : List (List D)} (h : om[k]? = some (.slc ty sz rows)) (hl : rows'.length = rows.length)
   (hr : ∀ (i : Nat) (r r' : List D), rows[i]? = some r → rows'[i]? = some r' → r'.length = r.length)
   (hc : ∀ (i : Nat) (r r' : List D) (j : Nat) (d d' : D), rows[i]? = some r → rows'[i]? = some r' → r[j]? = some d → r'[j]? = some d' → Cv om F ks d d') : MvO om F ks (some k) (.slc ty sz rows')
 | lp {k : Nat} {ps : Array Tmp} {as bo : Code} {st : LoopState} {pe : Option Code} {c c' : List D} (h : om[k]? = some (.lp ps as bo st pe c)) (hl : c'.length = c.length) (hc : ∀ (j : Nat) (d d' : D), c[j]? = some d → c'[j]? = some d' → Cv om F ks d d') : MvO om F ks (some k) (.lp ps as bo st pe c')
 | dead {k : Nat} {o : Ob} (h : om[k]? = some o) : MvO om F ks (some k) .dead
theorem mv_ok {base : Nat} (hF : ∀ (k : Nat) (j : Nat), F k = true → ks[j]? = some (some k) → False) (hnd : ∀ (j j' k : Nat), ks[j]? = some (some k) → ks[j']? = some (some k) → j = j') (hlen : om'.length = ks.length)
  (hbase : ∀ j : Nat, j < base → ks[j]? = some (some j)) (hob : ∀ (j : Nat) (x : Option Nat) (o : Ob), ks[j]? = some x → om'[j]? = some o → MvO om F ks x o) (hR : Rel E om) :
  ∃ E', E'.w = E.w ∧ ExtB base E om E' om' ∧ Rel E' om' ∧ CvOk E E' om F ks := by
 let E' : Env := ⟨ks.length, fun j => match ks[j]? with | some (some k) => E.g k | _ => .slice none 0 0, fun b => E.A b ∨ ∃ k o, om[k]? = some o ∧ o.live = true ∧ F k = true ∧ hb (E.g k) = some b, E.w⟩
 have hg : ∀ j k : Nat, ks[j]? = some (some k) → E'.g j = E.g k := fun j k h => by simp only [E', h]
 have hg0 : ∀ j : Nat, ks[j]? = some none → E'.g j = .slice none 0 0 := fun j h => by simp only [E', h]
 have ok : CvOk E E' om F ks := ⟨fun b h => .inl h, rfl, Nat.le_refl _, hg, hg0, fun k o b h1 h2 h3 h4 => .inr ⟨k, o, h1, h2, h3, h4⟩⟩
 have kget : ∀ {j : Nat} {o : Ob}, om'[j]? = some o → ∃ x, ks[j]? = some x ∧ MvO om F ks x o := by
  intro j o h
  have hj := (List.getElem?_eq_some_iff.1 h).1
  have e := List.getElem?_eq_getElem (l := ks) (i := j) (by omega)
  exact ⟨_, e, hob j _ o e h⟩
 have notA : ∀ {j k b : Nat} {o : Ob}, ks[j]? = some (some k) → om[k]? = some o → o.live = true → hb (E.g k) = some b → ¬ E'.A b := by
  intro j k b o h1 h2 h3 h4 hA
  rcases hA with hA | ⟨k', o', q1, q2, q3, q4⟩
  ·exact (hR.live_lt ⟨k, o, h2, h3, h4⟩).2 hA
  ·obtain rfl := hR.inj _ _ _ _ b q1 h2 q2 h3 q4 h4
   exact hF _ _ q3 h1
 have live : ∀ {j b : Nat} {o : Ob}, om'[j]? = some o → o.live = true → hb (E'.g j) = some b → ∃ k o0, ks[j]? = some (some k) ∧ om[k]? = some o0 ∧ o0.live = true ∧ hb (E.g k) = some b := by
  intro j b o h1 h2 h3
  obtain ⟨x, hx, ho⟩ := kget h1
  cases ho with
  | nil h => rw [hg0 _ hx] at h3; simp [hb] at h3
  | var h hl hc => exact ⟨_, _, hx, h, rfl, by rw [← hg _ _ hx]; exact h3⟩
  | slc h hl hr hc => exact ⟨_, _, hx, h, rfl, by rw [← hg _ _ hx]; exact h3⟩
  | lp h hl hc => exact ⟨_, _, hx, h, rfl, by rw [← hg _ _ hx]; exact h3⟩
  | dead h => simp [Ob.live] at h2
 refine ⟨E', rfl, ⟨?_, fun j hj => hg j j (hbase j hj), ok.A, Nat.le_refl _, rfl, rfl, rfl, fun _ _ _ => rfl, ?_, ?_⟩, ⟨hlen, ?_, ?_, ?_, ?_, ?_⟩, ok⟩
 ·rcases Nat.eq_zero_or_pos base with h | h
  ·omega
  ·have := (List.getElem?_eq_some_iff.1 (hbase (base - 1) (by omega))).1
   show base ≤ ks.length
   omega
 ·rintro b ⟨j, o, h1, h2, h3⟩
  obtain ⟨k, o0, q1, q2, q3, q4⟩ := live h1 h2 h3
  exact .inl ⟨k, o0, q2, q3, q4⟩
 ·rintro b (hA | ⟨k, o, q1, q2, q3, q4⟩)
  ·exact .inl hA
  ·exact .inr (.inl ⟨k, o, q1, q2, q4⟩)
 ·intro j o hj
  obtain ⟨x, hx, ho⟩ := kget hj
  cases ho with
  | nil h => exact ⟨h, by simp, .inl ⟨hg0 _ hx, rfl⟩⟩
  | @var k ty c c' h hl hc =>
   obtain ⟨b, cs, q1, q2, q3, q4, q5⟩ := hR.ob k _ h
   refine ⟨b, cs, by rw [hg _ _ hx]; exact q1, q2, notA hx h rfl (by rw [q1]; rfl), by omega, fun i d' hi => ?_⟩
   obtain ⟨d, hd⟩ := get_of_len hl hi
   obtain ⟨v, e1, e2, e3⟩ := q5 i d hd
   exact ⟨v, e1, e2, (hc i d d' hd hi).rd hR ok e3⟩
  | @slc k ty sz rows rows' h hl hr hc =>
   obtain ⟨h0, hs, hh⟩ := hR.ob k _ h
   have hs' : ∀ r' ∈ rows', r'.length = sz := fun r' hr' => by
    obtain ⟨i, hi⟩ := List.getElem?_of_mem hr'
    obtain ⟨r, hri⟩ := get_of_len hl hi
    rw [hr i r r' hri hi]
    exact hs r (List.mem_of_getElem? hri)
   refine ⟨h0, hs', ?_⟩
   rcases hh with ⟨e1, e2⟩ | ⟨b, cs, cap, q1, q2, q3, q4, q5, q6, q7⟩
   ·subst e2
    exact .inl ⟨by rw [hg _ _ hx]; exact e1, List.eq_nil_of_length_eq_zero (by simpa using hl)⟩
   ·refine .inr ⟨b, cs, cap, by rw [hg _ _ hx, hl]; exact q1, q2, notA hx h rfl (by rw [q1]; rfl), q4, by omega, q6, fun p d' hp => ?_⟩
    obtain ⟨i, r', j, e1, e2, rfl, e4⟩ := flatten_inv hs' hp
    obtain ⟨r, hri⟩ := get_of_len hl e1
    obtain ⟨d, hdj⟩ := get_of_len (hr i r r' hri e1) e2
    obtain ⟨v, f1, f2, f3⟩ := q7 _ d (flatten_get hs hri hdj)
    exact ⟨v, f1, f2, (hc i r r' j d d' hri e1 hdj e2).rd hR ok f3⟩
  | @lp k ps as bo st pe c c' h hl hc =>
   obtain ⟨b, r, q1, q2, q3, q4, q5, q6, q7, q8, q9, q10⟩ := hR.ob k _ h
   refine ⟨b, r, by rw [hg _ _ hx]; exact q1, q2, notA hx h rfl (by rw [q1]; rfl), q4, q5, q6, q7, q8, by omega, fun t => ?_⟩
   by_cases ht : t < c'.length
   ·have e' := List.getElem?_eq_getElem ht
    obtain ⟨d, hd⟩ := get_of_len hl e'
    have := q10 t
    rw [List.getD_eq_getElem?_getD, hd] at this
    rw [List.getD_eq_getElem?_getD, e']
    exact (hc t d _ hd e').rd hR ok this
   ·rw [List.getD_eq_getElem?_getD, List.getElem?_eq_none (by omega)]
    exact .any _
  | dead h => trivial
 ·intro j j' o o' b h1 h2 h3 h4 h5 h6
  obtain ⟨k, o0, q1, q2, q3, q4⟩ := live h1 h3 h5
  obtain ⟨k', o0', q1', q2', q3', q4'⟩ := live h2 h4 h6
  obtain rfl := hR.inj _ _ _ _ b q2 q2' q3 q3' q4 q4'
  exact hnd _ _ _ q1 q1'
 ·rintro b (hA | ⟨k, o, q1, q2, q3, q4⟩)
  ·exact hR.old b hA
  ·exact (hR.live_lt ⟨k, o, q1, q2, q4⟩).1
 ·intro j hj
  obtain ⟨x, hx⟩ : ∃ x, ks[j]? = some x := ⟨ks[j], List.getElem?_eq_getElem hj⟩
  cases x with
  | none => rw [hg0 _ hx]; rfl
  | some k =>
   rw [hg _ _ hx]
   have hj' : j < om'.length := by rw [hlen]; exact hj
   have ho := hob j _ _ hx (List.getElem?_eq_getElem hj')
   generalize om'[j] = o' at ho
   have : ∃ o, om[k]? = some o := by
    cases ho with
    | var h _ _ => exact ⟨_, h⟩
    | slc h _ _ _ => exact ⟨_, h⟩
    | lp h _ _ => exact ⟨_, h⟩
    | dead h => exact ⟨_, h⟩
   obtain ⟨o, ho⟩ := this
   exact hR.one k (by rw [← hR.len]; exact (List.getElem?_eq_some_iff.1 ho).1)
 ·intro g c h; exact Rd.bl (n := 0) (Nat.zero_le _) (fun _ h => absurd h (Nat.not_lt_zero _)) ok.A ok.w (hR.gt g c h) (gtab_bl h)
def Mv (base : Nat) (s s' : St) : Prop := ∀ lo E a, base ≤ E.n → Sat lo E s a → ∃ E', E'.w = E.w ∧ ExtB base E s.om E' s'.om ∧ Sat lo E' s' a
def CvL (om : List Ob) (F : Nat → Bool) (ks : List (Option Nat)) : List D → List D → Prop
 | [], [] => True
 | d :: e, d' :: e' => Cv om F ks d d' ∧ CvL om F ks e e'
 | _, _ => False
theorem CvL.len : ∀ {e e' : List D}, CvL om F ks e e' → e'.length = e.length
 | [], [], _ => rfl
 | d :: e, d' :: e', h => by simp only [List.length_cons]; rw [h.2.len]
theorem CvL.get : ∀ {e e' : List D}, CvL om F ks e e' → ∀ (j : Nat) (d d' : D), e[j]? = some d → e'[j]? = some d' → Cv om F ks d d'
 | [], [], _, j, d, d', h1, h2 => by simp at h1
 | d :: e, d' :: e', h, 0, x, x', h1, h2 => by
  simp only [List.getElem?_cons_zero, Option.some.injEq] at h1 h2
  subst h1; subst h2
  exact h.1
 | d :: e, d' :: e', h, j + 1, x, x', h1, h2 => by
  simp only [List.getElem?_cons_succ] at h1 h2
  exact h.2.get j x x' h1 h2
def MvL (om : List Ob) (F : Nat → Bool) (ks : List (Option Nat)) : List (Option Nat) → List Ob → Prop
 | [], [] => True
 | x :: l, o :: l' => MvO om F ks x o ∧ MvL om F ks l l'
 | _, _ => False
theorem MvL.len : ∀ {l : List (Option Nat)} {l' : List Ob}, MvL om F ks l l' → l'.length = l.length
 | [], [], _ => rfl
 | x :: l, o :: l', h => by simp only [List.length_cons]; rw [h.2.len]
theorem MvL.get : ∀ {l : List (Option Nat)} {l' : List Ob}, MvL om F ks l l' → ∀ (j : Nat) (x : Option Nat) (o : Ob), l[j]? = some x → l'[j]? = some o → MvO om F ks x o
 | [], [], _, j, x, o, h1, h2 => by simp at h1
 | x :: l, o :: l', h, 0, y, p, h1, h2 => by
  simp only [List.getElem?_cons_zero, Option.some.injEq] at h1 h2
  subst h1; subst h2
  exact h.1
 | x :: l, o :: l', h, j + 1, y, p, h1, h2 => by
  simp only [List.getElem?_cons_succ] at h1 h2
  exact h.2.get j y p h1 h2
def ksOk (base : Nat) (ks : List (Option Nat)) : Bool :=
 (ks.filterMap id).Nodup && (List.range base).all fun j => ks[j]? == some (some j)
def kF (ks : List (Option Nat)) : Nat → Bool := fun k => !ks.contains (some k)
theorem nodup_of : ∀ {ks : List (Option Nat)}, (ks.filterMap id).Nodup → ∀ (j j' k : Nat), ks[j]? = some (some k) → ks[j']? = some (some k) → j = j'
 | [], _, j, j', k, h, _ => by simp at h
 | x :: ks, hn, j, j', k, h, h' => by
  have hmem : ∀ i : Nat, ks[i]? = some (some k) → k ∈ ks.filterMap id := fun i hi => List.mem_filterMap.2 ⟨some k, List.mem_of_getElem? hi, rfl⟩
  cases x with
  | none =>
   simp only [List.filterMap_cons_none, id] at hn
   cases j with
   | zero => simp at h
   | succ j =>
    cases j' with
    | zero => simp at h'
    | succ j' => simp only [List.getElem?_cons_succ] at h h'; rw [nodup_of hn j j' k h h']
  | some x =>
   rw [show (some x :: ks).filterMap id = x :: ks.filterMap id from rfl, List.nodup_cons] at hn
   cases j with
   | zero =>
    simp only [List.getElem?_cons_zero, Option.some.injEq] at h
    subst h
    cases j' with
    | zero => rfl
    | succ j' => exact (hn.1 (hmem j' (by simpa using h'))).elim
   | succ j =>
    cases j' with
    | zero =>
     simp only [List.getElem?_cons_zero, Option.some.injEq] at h'
     subst h'
     exact (hn.1 (hmem j (by simpa using h))).elim
    | succ j' => simp only [List.getElem?_cons_succ] at h h'; rw [nodup_of hn.2 j j' k h h']
theorem mv_ok' {base : Nat} (ks : List (Option Nat)) (hk : ksOk base ks = true) (hob : MvL om (kF ks) ks ks om') (hR : Rel E om) :
  ∃ E', E'.w = E.w ∧ ExtB base E om E' om' ∧ Rel E' om' ∧ CvOk E E' om (kF ks) ks := by
 simp only [ksOk, Bool.and_eq_true, decide_eq_true_eq] at hk
 refine mv_ok (fun k j h1 h2 => ?_) (nodup_of hk.1) hob.len (fun j hj => ?_) hob.get hR
 ·have := List.mem_of_getElem? h2
  simp [kF, this] at h1
 ·have := List.all_eq_true.1 hk.2 j (by simp [hj])
  simpa using this
theorem Mv.of {base : Nat} {env env' : List D} (ks : List (Option Nat)) (hk : ksOk base ks = true) (hob : MvL om (kF ks) ks ks om') (he : CvL om (kF ks) ks env env') : Mv base ⟨env, om⟩ ⟨env', om'⟩ := by
 intro lo E a hb hs
 obtain ⟨E', h1, h2, h3, ok⟩ := mv_ok' (base := base) ks hk hob hs.rel
 refine ⟨E', h1, h2, h3, hs.defs.extB hs.rel h2, by rw [hs.size]; exact he.len.symm, fun t => ?_⟩
 show Rd E' (env'.getD t .any) _
 by_cases ht : t < env'.length
 ·have e' := List.getElem?_eq_getElem ht
  have ht' : t < env.length := by rw [← he.len]; exact ht
  have e := List.getElem?_eq_getElem ht'
  have := hs.rd t
  rw [List.getD_eq_getElem?_getD, e] at this
  rw [List.getD_eq_getElem?_getD, e']
  exact (he.get t _ _ e e').rd hs.rel ok this
 ·rw [List.getD_eq_getElem?_getD, List.getElem?_eq_none (by omega)]
  exact .any _
variable {P : Program} {T : Tab} {Q : AX → St → Prop} {s s' : St} {base : Nat}
theorem Mv.refl : Mv base s s := fun lo E a hb hs => ⟨E, rfl, (Ext.refl _ _).toB hb, hs⟩
theorem ALW.mv {l : LC} (h : Mv base s s') (k : ALW base P l Q s') : ALW base P l Q s := by
 intro c hc r lo E a hr hb hs
 obtain ⟨E', h1, h2, h3⟩ := h lo E a hb hs
 have := k c hc r lo E' a hr h2.n h3
 rw [h1] at this
 exact wpIn_mono this (Post.trans h2)
theorem AW.loopM {c : Code} (I : Nat → St → Prop) (h0 : ∃ n s0, I n s0 ∧ Mv base s s0) (round : ∀ n s, I n s → AW base P c (thenQ (fun s' => ∃ m s1, m < n ∧ I m s1 ∧ Mv base s' s1) Q) s) : AW base P (.loop c) Q s := by
 intro r lo E a hr hb hs b k cs hro hbf hroom
 have key : ∀ n E1 a1 s1, I n s1 → Sat lo E1 s1 a1 → ExtB base E s.om E1 s1.om →
   ∃ e a' w', Post lo base Q E s.om e a' w' ∧ ArrivesIn (Machine.fenced P (fence r)) P (lone (b.atR a1 (.code c :: .inLoop c :: k)) cs E1.w) b k cs e a' w' := by
  intro n
  induction n using Nat.strongRecOn with
  | _ n ih =>
   intro E1 a1 s1 hI hsat hext
   obtain ⟨e, a2, w2, ⟨E2, x, s2, hq, hx, rfl, hext2, hsat2⟩, harr⟩ := round n s1 hI r lo E1 a1 hr hext.n hsat b (.inLoop c :: k) cs hro hbf hroom
   cases x <;> cases e <;> simp only [cx] at hx
   ·obtain ⟨m, s3, hm, hI2, hmv⟩ := hq
    obtain ⟨E3, q1, q2, q3⟩ := hmv lo E2 a2 hext2.n hsat2
    obtain ⟨e, a', w', h1, h2⟩ := ih m hm E3 a2 s3 hI2 q3 ((hext.trans hext2).trans q2)
    rw [q1] at h2
    exact ⟨e, a', w', h1, .of_steps (StepsIn.trans harr (.one (fenced_calm hbf hroom rfl) stepR_inLoop)) h2⟩
   ·subst hx
    exact ⟨.exit _, a2, E2.w, ⟨E2, .exit _, s2, hq, rfl, rfl, hext.trans hext2, hsat2⟩, .pass (x := .inLoop c) rfl (fun _ _ => .inl (by simp)) harr⟩
   ·exact ⟨.ret, a2, E2.w, ⟨E2, .ret, s2, hq, trivial, rfl, hext.trans hext2, hsat2⟩, .pass (x := .inLoop c) rfl (fun _ _ => .inl (by simp)) harr⟩
   ·exact ⟨.panic _, a2, E2.w, ⟨E2, .panic _, s2, hq, hx, rfl, hext.trans hext2, hsat2⟩, .pass (x := .inLoop c) rfl (fun _ _ => .inl (by simp)) harr⟩
 obtain ⟨n, s0, hI, hmv⟩ := h0
 obtain ⟨E0, q1, q2, q3⟩ := hmv lo E a hb hs
 obtain ⟨e, a', w', h1, h2⟩ := key n E0 a s0 hI q3 q2
 rw [q1] at h2
 exact ⟨e, a', w', h1, .of_steps (.one (fenced_calm hbf hroom rfl) stepR_loop) h2⟩
theorem xl_loopM (hT : TabOk P T) (hm : P.follows .mixedOrders = true) {a : LC} {ι : Type} (inv : ι → St) (pre : ι → Prop) (ms : ι → Nat) (i0 : ι) (hpre : pre i0) (h0 : Mv base s (inv i0))
  (round : ∀ i, pre i → xl base P T a (thenQ (fun s' => ∃ i', pre i' ∧ ms i' < ms i ∧ Mv base s' (inv i')) Q) (inv i)) : ALW base P (.loop a) Q s := by
 intro c hc
 obtain ⟨x, rfl, hx⟩ := lc_inv.2.2.2.2.2.2.2.1 _ hc
 refine AW.loopM (fun n s => ∃ i, pre i ∧ ms i = n ∧ s = inv i) ⟨ms i0, _, ⟨i0, hpre, rfl, rfl⟩, h0⟩ ?_
 rintro n _ ⟨i, hi, rfl, rfl⟩
 refine (xl_ok hT hm (round i hi) x hx).mono ?_
 intro z s' hq
 cases z
 ·obtain ⟨i', h1, h2, h3⟩ := hq
  exact ⟨ms i', inv i', h2, ⟨i', h1, rfl, rfl⟩, h3⟩
 ·exact hq
 ·exact hq
 ·exact hq
theorem Fin.mv {om0 : List Ob} {d d' : D} {R : Out → List Ob → Prop} (ks : List (Option Nat)) (hk : ksOk om0.length ks = true) (hob : MvL om (kF ks) ks ks om') (hd : Cv om (kF ks) ks d d') (hr : R (.ret d') om') : Fin om0 om (.ret d) R := by
 intro E0 E e hR0 hx hR ho
 obtain ⟨E', h1, h2, h3, ok⟩ := mv_ok' (base := om0.length) ks hk hob hR
 refine ⟨E', .ret d', om', hr, h1, ?_, h3, ?_⟩
 ·have := (hx.toB (base := om0.length) (Nat.le_of_eq hR0.len)).trans h2
  rw [hR0.len] at this
  exact this.toExt
 ·cases e <;> simp only [OutR] at ho ⊢
  exact hd.rd hR ok ho
theorem Fin.nil {d d' : D} {R : Out → List Ob → Prop} (hd : Cv om (fun _ => true) [] d d') (hr : R (.ret d') []) : Fin [] om (.ret d) R := by
 have : kF [] = fun _ => true := by funext k; simp [kF]
 exact Fin.mv (om' := []) [] rfl trivial (by rw [this]; exact hd) hr
theorem Fin.pnil {d d' : D} {R : Out → List Ob → Prop} (hd : Cv om (fun _ => true) [] d d') (hr : R (.panic d') []) : Fin [] om (.panic d) R := by
 have hk : kF [] = fun _ => true := by funext k; simp [kF]
 intro E0 E e hR0 hx hR ho
 obtain ⟨E', h1, h2, h3, ok⟩ := mv_ok' (base := 0) (om := om) (om' := []) [] rfl trivial hR
 refine ⟨E', .panic d', [], hr, h1, ?_, h3, ?_⟩
 ·have := (hx.toB (base := 0) (Nat.zero_le _)).trans h2
  have hn := hR0.len
  simp only [List.length_nil] at hn
  rw [hn] at this
  exact this.toExt
 ·cases e <;> simp only [OutR] at ho ⊢
  obtain ⟨y, h1, h2⟩ := ho
  exact ⟨y, h1, (hk ▸ hd).rd hR (hk ▸ ok) h2⟩
def AO (P : Program) (f : FuncId) (ds : List D) (o : Out) : Prop := AC P f ds [] fun o' om' => o' = o ∧ om' = []
abbrev AP (P : Program) (f : FuncId) (ds : List D) (d : D) : Prop := AO P f ds (.ret d)
inductive Plain : D → Prop where
 | v (x : Value) : Plain (.v x)
 | any : Plain .any
 | agg {c : List D} (h : ∀ d ∈ c, Plain d) : Plain (.agg c)
 | tup {c : List D} (h : ∀ d ∈ c, Plain d) : Plain (.tup c)
theorem Plain.rd {d : D} (h : Plain d) : ∀ {y : Value}, Rd E d y → Rd E' d y := by
 induction h with
 | v x => intro y h; rw [h.v_inv]; exact .v x
 | any => intro y h; exact .any y
 | agg h ih =>
  intro y hd
  cases hd with
  | agg vs hs h1 hd => exact .agg vs hs h1 fun j d hj => ih d (List.mem_of_getElem? hj) (hd j d hj)
 | tup h ih =>
  intro y hd
  cases hd with
  | tup vs hs hd => exact .tup vs hs fun j d hj => ih d (List.mem_of_getElem? hj) (hd j d hj)
def Out.d : Out → D
 | .ret d => d
 | .panic d => d
def frzOb : Ob → Ob
 | .slc _ sz rows => .frz sz rows
 | .var _ c => .frv c
 | .lp .. => .dead
 | o => o
def frzL (F : Nat → Bool) (om : List Ob) : List Ob := om.mapIdx fun k o => if F k then frzOb o else o
theorem rdA_of_cvL {as ds : List D} {vs : Array Value} (hR : Rel E om) (ok : CvOk E E' om F ks) (h : CvL om F ks as ds) (hv : RdA E as vs) : RdA E' ds vs := by
 refine ⟨by rw [hv.1, h.len], fun j d' hj => ?_⟩
 obtain ⟨d, hd⟩ := get_of_len h.len hj
 exact (h.get j d d' hd hj).rd hR ok (hv.2 j d hd)
theorem OutR.map {o : Out} {e : Ending} (h : OutR E o e) (hd : ∀ y, Rd E o.d y → Rd E' o.d y) : OutR E' o e := by
 cases o <;> cases e <;> simp only [OutR] at h ⊢
 ·exact hd _ h
 ·obtain ⟨y, h1, h2⟩ := h; exact ⟨y, h1, hd _ h2⟩
theorem AO.callF {f : FuncId} {as ds : List D} {o : Out} {K : Out → List Ob → Prop} (F : Nat → Bool) (h : AO P f ds o) (hv : CvL om F [] as ds) (hbl : Bl 0 o.d) (hk : K o (frzL F om)) : ACall P f as om K := by
 refine ⟨fun o' om' => o' = o ∧ om' = frzL F om, ⟨h.1, fun E vs hR hA => ?_⟩, by rintro o' om' ⟨rfl, rfl⟩; exact hk⟩
 let E1 : Env := ⟨0, E.g, fun b => E.A b ∨ ∃ k o, om[k]? = some o ∧ o.live = true ∧ F k = true ∧ hb (E.g k) = some b, E.w⟩
 have ok : CvOk E E1 om F [] := ⟨fun b h => .inl h, rfl, Nat.le_refl _, fun j k h => by simp at h, fun j h => by simp at h, fun k o b h1 h2 h3 h4 => .inr ⟨k, o, h1, h2, h3, h4⟩⟩
 have hold1 : ∀ b, E1.A b → b < E.w.heap.size := by
  rintro b (hA | ⟨k, o, q1, q2, q3, q4⟩)
  ·exact hR.old b hA
  ·exact (hR.live_lt ⟨k, o, q1, q2, q4⟩).1
 have hR1 : Rel E1 [] := ⟨rfl, fun k o h => by simp at h, fun k k' o o' b h => by simp at h, hold1, fun k hk => absurd hk (Nat.not_lt_zero _), fun g c h => Rd.bl (E := E) (E2 := E1) (n := 0) (Nat.zero_le _) (fun _ h => absurd h (Nat.not_lt_zero _)) (ok.A) rfl (hR.gt g c h) (gtab_bl h)⟩
 refine (h.2 E1 vs hR1 (rdA_of_cvL hR ok hv hA)).mono ?_
 rintro e w' ⟨E2, o2, om2, ⟨rfl, rfl⟩, rfl, hx, hR2, ho⟩
 let E3 : Env := ⟨E.n, E.g, E2.A, E2.w⟩
 have noL : ∀ b, ¬ Live E1 [] b := by rintro b ⟨k, o, h1, _⟩; simp at h1
 have getF : ∀ (k : Nat) (o : Ob), (frzL F om)[k]? = some o → ∃ o0, om[k]? = some o0 ∧ o = if F k then frzOb o0 else o0 := by
  intro k o hk
  simp only [frzL, List.getElem?_mapIdx, Option.map_eq_some_iff] at hk
  obtain ⟨o0, h1, h2⟩ := hk
  exact ⟨o0, h1, h2.symm⟩
 have liveF : ∀ (k : Nat) (o : Ob), (frzL F om)[k]? = some o → o.live = true → om[k]? = some o ∧ F k = false := by
  intro k o hk hl
  obtain ⟨o0, h1, rfl⟩ := getF k o hk
  cases hFk : F k with
  | false => simp [h1]
  | true =>
   rw [hFk] at hl
   cases o0 <;> simp [frzOb, Ob.live] at hl
 have hx3 : Ext E om E3 (frzL F om) := by
  refine ⟨Nat.le_refl _, fun _ _ => rfl, fun b hA => hx.A b (.inl hA), hx.size, hx.os, hx.tape, hx.output, fun b hb' hn => hx.keep b hb' (noL b), ?_, ?_⟩
  ·rintro b ⟨k, o, h1, h2, h3⟩
   exact .inl ⟨k, o, (liveF k o h1 h2).1, h2, h3⟩
  ·intro b hA
   rcases hx.newA b hA with hA | hA | hA
   ·rcases hA with hA | ⟨k, o, q1, q2, q3, q4⟩
    ·exact .inl hA
    ·exact .inr (.inl ⟨k, o, q1, q2, q4⟩)
   ·exact (noL b hA).elim
   ·exact .inr (.inr hA)
 refine ⟨E3, _, _, ⟨rfl, rfl⟩, rfl, hx3, ?_, ho.map fun y hy => Rd.bl (E := E2) (n := 0) (E2 := E3) (Nat.zero_le _) (fun k hk => by omega) (fun _ h => h) rfl hy hbl⟩
 have keep : ∀ (k : Nat) (o : Ob), om[k]? = some o → o.live = true → F k = false → ∀ b, hb (E.g k) = some b → E2.w.heap[b]? = E.w.heap[b]? ∧ ¬ E2.A b := by
  intro k o h1 h2 h3 b h4
  have hl := hR.live_lt ⟨k, o, h1, h2, h4⟩
  refine ⟨hx.keep b hl.1 (noL b), fun hA => ?_⟩
  rcases hx.newA b hA with hA | hA | hA
  ·rcases hA with hA | ⟨k', o', q1, q2, q3, q4⟩
   ·exact hl.2 hA
   ·obtain rfl := hR.inj _ _ _ _ b q1 h1 q2 h2 q4 h4
    rw [q3] at h3
    cases h3
  ·exact noL b hA
  ·have h' : E.w.heap.size ≤ b := hA
   omega
 have kn : ∀ {k : Nat} {o : Ob}, om[k]? = some o → k < E.n := fun h => by rw [← hR.len]; exact (List.getElem?_eq_some_iff.1 h).1
 refine ⟨by simp [frzL, hR.len, E3], fun k o hk => ?_, fun k k' o o' b h1 h2 h3 h4 h5 h6 => hR.inj k k' o o' b (liveF k o h1 h3).1 (liveF k' o' h2 h4).1 h3 h4 h5 h6, fun b hA => hR2.old b hA, hR.one, fun g c h => (hR.gt g c h).ext hR hx3⟩
 obtain ⟨o0, h0, rfl⟩ := getF k o hk
 have hob := hR.ob k o0 h0
 cases hFk : F k with
 | false =>
  rw [if_neg (by simp)]
  exact ObR.keep hR hx3 (kn h0) hob fun hl b hbk => keep k o0 h0 hl hFk b hbk
 | true =>
  rw [if_pos rfl]
  have inA : ∀ b, o0.live = true → hb (E.g k) = some b → E2.A b := fun b hl hbk => hx.A b (.inr ⟨k, o0, h0, hl, hFk, hbk⟩)
  have hsame : ∀ b, b < E.w.heap.size → E2.w.heap[b]? = E.w.heap[b]? := fun b hb' => hx.keep b hb' (noL b)
  cases o0 with
  | var ty c =>
   obtain ⟨b, cs, q1, q2, q3, q4, q5⟩ := hob
   refine ⟨?_, b, q1⟩
   show Rd E3 (.pel c) (E.g k)
   rw [q1]
   refine Rd.pel_mk (inA b rfl (by rw [q1]; rfl)) fun j d hj => ?_
   obtain ⟨v, e1, e2, e3⟩ := q5 j d hj
   refine ⟨v, ?_, e2, e3.ext hR hx3⟩
   have hbl := (Array.getElem?_eq_some_iff.1 q2).1
   rw [add_mk, cell_of_heap (w := E3.w) (show E2.w.heap[b]? = _ by rw [hsame b hbl]; exact q2), Nat.zero_add]
   exact e1
  | slc ty sz rows =>
   obtain ⟨p0, hs, ⟨e1, e2⟩ | ⟨b, cs, cap, q1, q2, q3, q4, q5, q6, q7⟩⟩ := hob
   ·subst e2
    refine ⟨?_, .inl rfl⟩
    show Rd E3 (.sl sz []) (E.g k)
    rw [e1]
    exact Rd.sl (rows := []) ⟨0, 0, none⟩ (fun _ => .nilFunc) (by simp) (Nat.le_refl _) (Nat.zero_le _) (.inl rfl) (by simp) (by simp)
   ·refine ⟨?_, .inr ⟨b, cap, q1⟩⟩
    show Rd E3 (.sl sz rows) (E.g k)
    rw [q1]
    refine Rd.sl_mk rfl hs q5 q6 (.inr ⟨⟨b, 0, none⟩, rfl, inA b rfl (by rw [q1]; rfl), fun i r hi j d hj => ?_⟩)
    obtain ⟨v, e1, e2, e3⟩ := q7 _ d (flatten_get hs hi hj)
    refine ⟨v, ?_, e2, e3.ext hR hx3⟩
    have hbl := (Array.getElem?_eq_some_iff.1 q2).1
    rw [add_mk, add_mk, cell_of_heap (w := E3.w) (show E2.w.heap[b]? = _ by rw [hsame b hbl]; exact q2), Nat.zero_add]
    exact e1
  | frz sz rows => exact ObR.keep hR hx3 (kn h0) hob fun hl b hbk => by simp [Ob.live, frzOb] at hl
  | frv c => exact ObR.keep hR hx3 (kn h0) hob fun hl b hbk => by simp [Ob.live, frzOb] at hl
  | lp ps as bo st pe env => trivial
  | dead => trivial
theorem frzL_none (om : List Ob) : frzL (fun _ => false) om = om := by
 refine List.ext_getElem? fun i => ?_
 simp only [frzL, List.getElem?_mapIdx]
 cases om[i]? <;> rfl
theorem AO.call {f : FuncId} {as ds : List D} {o : Out} {K : Out → List Ob → Prop} (h : AO P f ds o) (hv : CvL om (fun _ => false) [] as ds) (hbl : Bl 0 o.d) (hk : K o om) : ACall P f as om K :=
 h.callF (fun _ => false) hv hbl (by rw [frzL_none]; exact hk)
theorem AO.lend {f : FuncId} {as ds : List D} {o : Out} {K : Out → List Ob → Prop} (h : AO P f ds o) (hv : CvL om (fun _ => true) [] as ds) (hpl : Plain o.d) (hk : K o om) : ACall P f as om K := by
 refine ⟨fun o' om' => o' = o ∧ om' = om, ⟨h.1, fun E vs hR hA => ?_⟩, by rintro o' om' ⟨rfl, rfl⟩; exact hk⟩
 let E1 : Env := ⟨0, E.g, fun b => E.A b ∨ Live E om b, E.w⟩
 have ok : CvOk E E1 om (fun _ => true) [] := ⟨fun b h => .inl h, rfl, Nat.le_refl _, fun j k h => by simp at h, fun j h => by simp at h, fun k o b h1 h2 h3 h4 => .inr ⟨k, o, h1, h2, h4⟩⟩
 have hR1 : Rel E1 [] := ⟨rfl, fun k o h => by simp at h, fun k k' o o' b h => by simp at h, fun b hA => hA.elim (hR.old b) fun hl => (hR.live_lt hl).1, fun k hk => absurd hk (Nat.not_lt_zero _), fun g c h => Rd.bl (E := E) (E2 := E1) (n := 0) (Nat.zero_le _) (fun _ h => absurd h (Nat.not_lt_zero _)) (ok.A) rfl (hR.gt g c h) (gtab_bl h)⟩
 refine (h.2 E1 vs hR1 (rdA_of_cvL hR ok hv hA)).mono ?_
 rintro e w' ⟨E2, o2, om2, ⟨rfl, rfl⟩, rfl, hx, hR2, ho⟩
 let E3 : Env := ⟨E.n, E.g, fun b => E2.A b ∧ ¬ Live E om b, E2.w⟩
 have noL : ∀ b, ¬ Live E1 [] b := by rintro b ⟨k, o, h1, _⟩; simp at h1
 have hx3 : Ext E om E3 om := by
  refine ⟨Nat.le_refl _, fun _ _ => rfl, fun b hA => ⟨hx.A b (.inl hA), hR.notlive hA⟩, hx.size, hx.os, hx.tape, hx.output, fun b hb' hn => hx.keep b hb' (noL b), fun b hl => .inl hl, ?_⟩
  rintro b ⟨hA, hnl⟩
  rcases hx.newA b hA with hA | hA | hA
  ·rcases hA with hA | hA
   ·exact .inl hA
   ·exact (hnl hA).elim
  ·exact (noL b hA).elim
  ·exact .inr (.inr hA)
 refine ⟨E3, _, _, ⟨rfl, rfl⟩, rfl, hx3, ⟨hR.len, fun k o hk => ?_, hR.inj, fun b hA => hR2.old b hA.1, hR.one, fun g c h => (hR.gt g c h).ext hR hx3⟩, ho.map fun y hy => hpl.rd hy⟩
 refine ObR.keep hR hx3 (by rw [← hR.len]; exact (List.getElem?_eq_some_iff.1 hk).1) (hR.ob k o hk) fun hl b hbk => ?_
 have hlv : Live E om b := ⟨k, o, hk, hl, hbk⟩
 exact ⟨hx.keep b (hR.live_lt hlv).1 (noL b), fun hA => hA.2 hlv⟩
def setPs : List D → List Tmp → List D → List D
 | env, p :: ps, d :: ds => setPs (env.set p d) ps ds
 | env, _, _ => env
def roundP (k : Nat) (om0 : List Ob) (R : Out → List Ob → Prop) (v : Bool) (st : LoopState) (pe : Option Code) (om : List Ob) : Prop :=
 match om[k]? with
 | some (.lp ps ca cb _ _ env) => Fin om0 (om.set k (.lp ps ca cb st pe env)) (.ret (.b v)) R
 | _ => False
def roundQ (k : Nat) (om0 : List Ob) (R : Out → List Ob → Prop) : AX → St → Prop
 | .norm, s => roundP k om0 R true .ready none s.om
 | .ret, s => roundP k om0 R false .done (some .ret) s.om
 | .exit i, s => roundP k om0 R false .done (some (.exit i)) s.om
 | .panic _, _ => False
def assignP (k : Nat) (K : St → Prop) (s : St) : Prop :=
 match s.om[k]? with
 | some (.lp ps ca cb .ready pe env) => K ⟨s.env, s.om.set k (.lp ps ca cb .busy pe env)⟩
 | _ => False
def assignQ (k : Nat) (K : St → Prop) : AX → St → Prop
 | .norm, s => assignP k K s
 | _, _ => False
theorem setPs_rd {E : Env} : ∀ (ps : List Tmp) (ds : List D) (vs : List Value) (env : List D) (tmps : Array Value), ds.length = vs.length → (∀ (j : Nat) (d : D), ds[j]? = some d → Rd E d (vs.getD j undef)) →
  tmps.size = env.length → (∀ t, Rd E (env.getD t .any) (tmps.getD t undef)) →
  ((ps.zip vs).foldl (fun t (p, v) => t.setIfInBounds p v) tmps).size = (setPs env ps ds).length ∧ ∀ t, Rd E ((setPs env ps ds).getD t .any) (((ps.zip vs).foldl (fun t (p, v) => t.setIfInBounds p v) tmps).getD t undef)
 | [], ds, vs, env, tmps, _, _, h1, h2 => by simp only [List.zip_nil_left, List.foldl_nil, setPs]; exact ⟨h1, h2⟩
 | p :: ps, [], vs, env, tmps, hl, _, h1, h2 => by
  obtain rfl : vs = [] := List.eq_nil_of_length_eq_zero (by simpa using hl.symm)
  simp only [List.zip_nil_right, List.foldl_nil, setPs]
  exact ⟨h1, h2⟩
 | p :: ps, d :: ds, [], env, tmps, hl, _, h1, h2 => by simp at hl
 | p :: ps, d :: ds, v :: vs, env, tmps, hl, hd, h1, h2 => by
  simp only [List.zip_cons_cons, List.foldl_cons, setPs]
  refine setPs_rd ps ds vs (env.set p d) (tmps.setIfInBounds p v) (by simpa using hl) (fun j d' hj => by simpa using hd (j + 1) d' (by simpa using hj)) (by simp [h1]) fun t => ?_
  by_cases ht : t = p
  ·subst ht
   by_cases hlt : t < env.length
   ·have hlt' : t < tmps.size := by omega
    have := hd 0 d rfl
    simpa [List.getD_eq_getElem?_getD, Array.getD_eq_getD_getElem?, List.getElem?_set, Array.getElem?_setIfInBounds, hlt, hlt'] using this
   ·have : (env.set t d).getD t .any = .any := by simp [List.getD_eq_getElem?_getD, hlt]
    rw [this]
    exact .any _
  ·have e1 : (env.set p d).getD t .any = env.getD t .any := by simp [List.getD_eq_getElem?_getD, List.getElem?_set, Ne.symm ht]
   have e2 : (tmps.setIfInBounds p v).getD t undef = tmps.getD t undef := by simp [Array.getD_eq_getD_getElem?, Array.getElem?_setIfInBounds, Ne.symm ht]
   rw [e1, e2]
   exact h2 t
theorem AY.walk (hT : TabOk P T) (hm : P.follows .mixedOrders = true) {k : Nat} {ps : Array Tmp} {as bo : LC} {ca cb : Code} {env ds : List D} {R : Out → List Ob → Prop} (ha : lc ca = as.st) (hbo : lc cb = bo.st) (hk : om[k]? = some (.lp ps ca cb .ready none env))
  (hn : (as.nr && bo.nr) = true) (hps : ps.size = ds.length)
  (h : xl om.length P T as (assignQ k (xl om.length P T bo (roundQ k om R))) ⟨setPs env ps.toList ds, om⟩) : AY P k ds om R := by
 rw [Bool.and_eq_true] at hn
 intro E vs b hR hA hg
 have hkl : k < om.length := (List.getElem?_eq_some_iff.1 hk).1
 have hkn : k < E.n := by rw [← hR.len]; exact hkl
 obtain ⟨r, q1, q2, q3, q4, q5, q6, q7, q8, q9, q10⟩ := hR.lp hk hg
 have hvs : vs.size = r.params.size := by rw [q4, hA.1, hps]
 refine ⟨r.fn, _, r.assign, r.body, run_yield q2 hvs, ?_⟩
 rw [q5, q6, q4]
 obtain ⟨z1, z2⟩ := setPs_rd (E := E) ps.toList ds vs.toList env r.tmps (by simp [hA.1]) (fun j d hj => by
  have := hA.2 j d hj
  simpa [Array.getD_eq_getD_getElem?, List.getD_eq_getElem?_getD] using this) q9 q10
 have hzip : (ps.zip vs).foldl (fun tmps (t, a) => tmps.setIfInBounds t a) r.tmps = (ps.toList.zip vs.toList).foldl (fun t (p, v) => t.setIfInBounds p v) r.tmps := by
  rw [← Array.foldl_toList, Array.toList_zip]
 refine roundIn_of_wpIn (F := Fence.wide) trivial ?_
 rw [hzip]
 have hs : Sat ⟨0, [], false⟩ E ⟨setPs env ps.toList ds, om⟩ { tmps := (ps.toList.zip vs.toList).foldl (fun t (p, v) => t.setIfInBounds p v) r.tmps, defers := [] } := ⟨hR, Marks.nil (Nat.zero_le _), z1, z2⟩
 refine wpIn_mono (xl_ok hT hm h ca ha (some b) ⟨0, [], false⟩ E _ ⟨.inr (nr_of ha hn.1), fun h => by cases h⟩ (Nat.le_of_eq hR.len) hs) ?_
 rintro e a1 w1 ⟨E1, x, s1, hq, hx, rfl, hext, hsat⟩
 cases x <;> simp only [assignQ] at hq
 cases e <;> simp only [cx] at hx
 unfold assignP at hq
 split at hq
 case h_2 => exact hq.elim
 rename_i ps1 ca1 cb1 pe1 env1 ho1
 have hg1 : hb (E1.g k) = some b := by rw [hext.g k hkl]; exact hg
 obtain ⟨r1, p1, p2, p3, p4, p5, p6, p7, p8, p9, p10⟩ := hsat.rel.lp ho1 hg1
 obtain ⟨hx1, hR1⟩ := put_ok hsat.rel ho1 hg1 (.loop { r1 with state := .busy }) (.lp ps1 ca1 cb1 .busy pe1 env1) (fun hx => ⟨b, _, p1, World.putObj_heap_same (Array.getElem?_eq_some_iff.1 p2).1, p3, p4, p5, p6, rfl, p8, p9, fun t => (p10 t).ext hsat.rel hx⟩)
 refine ⟨_, run_beginRound p2 p7, ?_⟩
 have hsat1 : Sat ⟨0, [], false⟩ { E1 with w := E1.w.putObj b (.loop { r1 with state := .busy }) } ⟨s1.env, s1.om.set k (.lp ps1 ca1 cb1 .busy pe1 env1)⟩ a1 := ⟨hR1, hsat.defs.ext hsat.rel hx1, hsat.size, fun t => (hsat.rd t).ext hsat.rel hx1⟩
 refine wpIn_mono (xl_ok hT hm hq cb hbo (some b) ⟨0, [], false⟩ { E1 with w := E1.w.putObj b (.loop { r1 with state := .busy }) } a1 ⟨.inr (nr_of hbo hn.2), fun h => by cases h⟩ hext.n hsat1) ?_
 rintro e a2 w2 ⟨E2, x, s2, hq2, hx2, rfl, hext2, hsat2⟩
 have hext' : ExtB om.length E om E2 s2.om := (hext.trans (hx1.toB hext.n)).trans hext2
 have hg2 : hb (E2.g k) = some b := by rw [hext'.g k hkl]; exact hg
 have fin : ∀ (v : Bool) (jump : Option Code), roundP k om R v (if jump.isNone then .ready else .done) jump s2.om → v = jump.isNone →
   ∃ v' w', (Instr.endRound b jump).run P E2.w = .ok v' w' ∧ ∃ E' o om', R o om' ∧ E'.w = w' ∧ Ext E om E' om' ∧ Rel E' om' ∧ OutR E' o (.returned v') := by
  intro v jump hq hv
  unfold roundP at hq
  split at hq
  case h_2 => exact hq.elim
  rename_i ps2 ca2 cb2 st2 pe2 env2 ho2
  obtain ⟨r2, p1, p2, p3, p4, p5, p6, p7, p8, p9, p10⟩ := hsat2.rel.lp ho2 hg2
  obtain ⟨hx3, hR3⟩ := put_ok hsat2.rel ho2 hg2 (.loop { r2 with state := if jump.isNone then .ready else .done, pending := jump }) (.lp ps2 ca2 cb2 (if jump.isNone then .ready else .done) jump env2)
   (fun hx => ⟨b, _, p1, World.putObj_heap_same (Array.getElem?_eq_some_iff.1 p2).1, p3, p4, p5, p6, rfl, rfl, p9, fun t => (p10 t).ext hsat2.rel hx⟩)
  have hfull : ExtB om.length E om { E2 with w := E2.w.putObj b (.loop { r2 with state := if jump.isNone then .ready else .done, pending := jump }) } (s2.om.set k (.lp ps2 ca2 cb2 (if jump.isNone then .ready else .done) jump env2)) :=
   hext'.trans (hx3.toB hext'.n)
  obtain ⟨E3, o', om', f1, f2, f3, f4, f5⟩ := hq E _ (.returned (.bool v)) hR (ExtB.toExt (hR.len ▸ hfull)) hR3 (.v _)
  exact ⟨_, _, run_endRound jump p2, E3, o', om', f1, f2, f3, f4, by rw [← hv]; exact f5⟩
 cases x <;> cases e <;> simp only [cx] at hx2 <;> simp only [roundQ] at hq2
 ·exact fin true none hq2 rfl
 ·subst hx2
  exact fin false (some (.exit _)) hq2 rfl
 ·exact fin false (some .ret) hq2 rfl
end
end Go.Proofs.YtlejbkfefpfolaaGreatDoor.AWP
