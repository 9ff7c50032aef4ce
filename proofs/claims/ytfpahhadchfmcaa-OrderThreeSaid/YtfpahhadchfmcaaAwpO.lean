/- Part of a program logic over data: rules of the walk, each proved. -/
import Derived.Test.YtfpahhadchfmcaaAwpN
set_option linter.unusedVariables false
set_option linter.unusedSimpArgs false
namespace Go.Proofs.Ytfpahhadchfmcaa.AWP
open Go

section
variable {P : Program} {T : Tab}

theorem ready_nil {ops : Array Oper} (hback : ∀ (i : Nat) (o : Oper) (e : Edge), ops[i]? = some o → e ∈ o.after → Region.binds .any e = true → e.on < i) {listed : Array Bool} (hs : listed.size = ops.size)
    (h : Region.ready .any ops listed = []) : ∀ i, i < ops.size → listed.getD i true = true := by
  intro i
  induction i using Nat.strongRecOn with
  | _ i ih =>
    intro hi
    cases hb : listed.getD i true with
    | true => rfl
    | false =>
      exfalso
      have : i ∈ Region.ready .any ops listed := by
        rw [mem_ready]
        refine ⟨hb, ops[i], Array.getElem?_eq_getElem hi, fun e he hbd => ?_⟩
        have hlt := hback i _ e (Array.getElem?_eq_getElem hi) he hbd
        have := ih e.on hlt (by omega)
        have hl : e.on < listed.size := by omega
        simp [Array.getD, hl] at this ⊢
        exact this
      rw [h] at this
      simp at this

def unl (listed : Array Bool) : Nat := listed.toList.countP fun b => !b

theorem unl_set {listed : Array Bool} {i : Nat} (h : listed.getD i true = false) : unl (listed.setIfInBounds i true) + 1 = unl listed := by
  have hl : i < listed.size := by
    by_cases hl : i < listed.size
    · exact hl
    · simp [Array.getD, hl] at h
  have hv : listed.toList[i]'(by simpa using hl) = false := by simpa [Array.getD, hl] using h
  unfold unl
  rw [Array.toList_setIfInBounds, List.countP_set (by simpa using hl)]
  have hpos : 0 < listed.toList.countP fun b => !b := by
    rw [List.countP_pos_iff]
    exact ⟨_, List.getElem_mem (by simpa using hl), by simp [hv]⟩
  simp only [hv, Bool.not_false, if_true, Bool.not_true, Bool.false_eq_true, if_false]
  omega

theorem getD_true_of {listed : Array Bool} {j : Nat} (h : j < listed.size) : listed.getD j true = listed.getD j false := by simp [Array.getD, h]

theorem set_getD {listed : Array Bool} {i j : Nat} (hi : i < listed.size) : (listed.setIfInBounds i true).getD j true = if j = i then true else listed.getD j true := by
  by_cases e : j = i
  · subst e; simp [Array.getD_eq_getD_getElem?, Array.getElem?_setIfInBounds, hi]
  · rw [if_neg e]
    have : i ≠ j := fun h => e h.symm
    simp [Array.getD_eq_getD_getElem?, Array.getElem?_setIfInBounds, this]

/-- Behind the head: the others, each behind all ahead of it. -/
theorem any_tail {base : Nat} (hT : TabOk P T) {ops : Array Oper} {reg : List LOp} (hreg : ops.toList.map lop = reg) {m : Nat} (hok : DrawOk ops m) (own : List Nat) {Q : AX → St → Prop} {E0 : Env} {om0 : List Ob} (hb0 : base ≤ E0.n) :
    ∀ (fuel : Nat) (listed : Array Bool) (i : Nat) (s : St) (E : Env) (a : Act), listed.size = ops.size → m ≤ i → i ≤ ops.size → (∀ j, j < ops.size → (listed.getD j true = true ↔ j < i)) → unl listed ≤ fuel →
      Ext E0 om0 E s.om → Sat E s a → aops P T reg own i (reg.drop i) s (Q .norm) (fun d => Q (.panic d)) → wpAny P .any ops (Post base Q E0 om0) fuel listed a E.w := by
  have hlen : ops.size = reg.length := by rw [← hreg]; simp
  -- nothing is left
  have stop : ∀ (listed : Array Bool) (i : Nat) (s : St) (E : Env) (a : Act), listed.size = ops.size → i ≤ ops.size → (∀ j, j < ops.size → (listed.getD j true = true ↔ j < i)) → Region.ready .any ops listed = [] →
      Ext E0 om0 E s.om → Sat E s a → aops P T reg own i (reg.drop i) s (Q .norm) (fun d => Q (.panic d)) → Post base Q E0 om0 .normal a E.w := by
    intro listed i s E a hsz hi hL hr hx hs h
    have hall := ready_nil hok.back hsz hr
    have : i = ops.size := by
      rcases Nat.lt_or_ge i ops.size with hlt | hge
      · have := (hL i hlt).1 (hall i hlt)
        omega
      · omega
    rw [List.drop_eq_nil_of_le (by omega)] at h
    simp only [aops] at h
    exact ⟨E, .norm, s, h, trivial, rfl, hx.toB hb0, hs⟩
  intro fuel
  induction fuel with
  | zero =>
    intro listed i s E a hsz hm hi hL hf hx hs h
    have hr : Region.ready .any ops listed = [] := by
      cases hr : Region.ready .any ops listed with
      | nil => rfl
      | cons j l =>
        have : j ∈ Region.ready .any ops listed := by rw [hr]; simp
        have := (mem_ready.1 this).1
        have := unl_set this
        omega
    exact ⟨hr, stop listed i s E a hsz hi hL hr hx hs h⟩
  | succ fuel ih =>
    intro listed i s E a hsz hm hi hL hf hx hs h
    refine ⟨fun hr => stop listed i s E a hsz hi hL hr hx hs h, fun j hj => ?_⟩
    obtain ⟨hjl, o, ho, _⟩ := mem_ready.1 hj
    have hjs := (Array.getElem?_eq_some_iff.1 ho).1
    -- it is the i-th
    have hji : j = i := by
      have h1 : ¬ j < i := fun hlt => by have := (hL j hjs).2 hlt; rw [this] at hjl; cases hjl
      rcases Nat.lt_or_ge i j with hlt | hge
      · have := hasEdge_listed ho hj (hok.tail j i o (by omega) hlt ho)
        have hi' : i < ops.size := by omega
        rw [← getD_true_of (by omega)] at this
        have := (hL i hi').1 this
        omega
      · omega
    subst hji
    have hlt : j < reg.length := by omega
    rw [List.drop_eq_getElem_cons hlt] at h
    have hl : reg[j] = lop o := by
      have : reg[j]? = some (lop o) := by rw [← hreg]; simp [ho]
      rw [List.getElem?_eq_getElem hlt] at this
      simpa using this
    simp only [aops, hl, lop] at h
    have hL' : ∀ j', j' < ops.size → ((listed.setIfInBounds j true).getD j' true = true ↔ j' < j + 1) := by
      intro j' hj'
      rw [set_getD (by omega)]
      by_cases e : j' = j
      · subst e; simp
      · rw [if_neg e, hL j' hj']; omega
    have hu := unl_set hjl
    have next : ∀ (E' : Env) (s' : St) (a' : Act), aops P T reg own (j + 1) (reg.drop (j + 1)) s' (Q .norm) (fun d => Q (.panic d)) → Ext E s.om E' s'.om → Sat E' s' a' → wpAny P .any ops (Post base Q E0 om0) fuel (listed.setIfInBounds j true) a' E'.w :=
      fun E' s' a' hk hx' hs' => ih _ (j + 1) s' E' a' (by simp [hsz]) (by omega) (by omega) hL' (by omega) (hx.trans hx') hs' hk
    have run : aop P T (own.contains j) o.op o.dst s (fun s' => aops P T reg own (j + 1) (reg.drop (j + 1)) s' (Q .norm) (fun d => Q (.panic d))) (fun d => Q (.panic d)) →
        o.wp P a E.w (wpAny P .any ops (Post base Q E0 om0) fuel (listed.setIfInBounds j true)) (Post base Q E0 om0) := by
      intro h
      refine aop_ok hT (own.contains j) hs h (fun E' s' a' hk hx' hs' => next E' s' a' hk hx' hs') ?_
      intro E' s' y d hk hx' hs' hd
      exact ⟨E', .panic d, s', hk, ⟨y, rfl, hd⟩, rfl, (hx.trans hx').toB hb0, hs'⟩
    unfold wpOp
    simp only [ho]
    split at h
    · rename_i hg
      have : Region.wanted o (yielded ops a.tmps) = true := by unfold Region.wanted; rw [hg]
      rw [if_pos this]
      exact .inl (run h)
    · rename_i j' want hg
      split at h
      · rename_i t ht
        split at h
        · rename_i b hb
          have hw := wanted_ok hreg hs hg ht hb
          split at h
          · rename_i hbw
            rw [if_pos (by rw [hw]; simpa using hbw)]
            exact .inl (run h)
          · rename_i hbw
            rw [if_neg (by rw [hw]; simpa using hbw)]
            refine next E _ _ h ?_ (hs.put (Ext.refl E s.om) hs.rel (.any undef) _)
            cases o.dst <;> exact Ext.refl _ _
        · exact h.elim
      · exact h.elim

theorem looked_mem {ops : Array Oper} {o : Oper} {t : Tmp} (h : Operand.tmp t ∈ o.op.operands.toList) : t ∈ looked ops o := by
  refine List.mem_append_left _ ?_
  unfold opTmps
  exact List.mem_filterMap.2 ⟨.tmp t, h, rfl⟩

/-- The head, in whatever order; then the others. -/
theorem any_head {base : Nat} (hT : TabOk P T) {ops : Array Oper} {reg : List LOp} (hreg : ops.toList.map lop = reg) {m : Nat} (hok : DrawOk ops m) (own : List Nat) {Q : AX → St → Prop} {E0 : Env} {s0 : St} {ds : List D} (hb0 : base ≤ E0.n)
    (hds : ds.length = (reg.take m).length)
    (hfin : aops P T reg own m (reg.drop m) ⟨denv (fun _ => true) 0 (reg.take m) ds s0.env, s0.om⟩ (Q .norm) (fun d => Q (.panic d)))
    (hstep : ∀ i o d, (reg.take m)[i]? = some o → ds[i]? = some d → StepOk P T reg s0.om o (denv (fun j => decide (j < i)) 0 (reg.take m) ds s0.env) d) :
    ∀ (fuel : Nat) (listed : Array Bool) (E : Env) (a : Act), listed.size = ops.size → (∀ j, m ≤ j → j < ops.size → listed.getD j true = false) → unl listed ≤ fuel →
      Ext E0 s0.om E s0.om → Sat E ⟨denv (fun j => listed.getD j true) 0 (reg.take m) ds s0.env, s0.om⟩ a → wpAny P .any ops (Post base Q E0 s0.om) fuel listed a E.w := by
  have hlen : ops.size = reg.length := by rw [← hreg]; simp
  have hmr : (reg.take m).length = m := by have := hok.le; simp; omega
  have hget : ∀ (i : Nat) (o : Oper), ops[i]? = some o → i < m → (reg.take m)[i]? = some (lop o) := by
    intro i o ho hi
    rw [List.getElem?_take_of_lt hi, ← hreg]
    simp [ho]
  have hget' : ∀ (i : Nat) (l : LOp), (reg.take m)[i]? = some l → ∃ o, ops[i]? = some o ∧ l = lop o ∧ i < m := by
    intro i l h
    have hi := (List.getElem?_eq_some_iff.1 h).1
    rw [hmr] at hi
    rw [List.getElem?_take_of_lt hi, ← hreg] at h
    simp only [List.getElem?_map, Option.map_eq_some_iff, Array.getElem?_toList] at h
    obtain ⟨o, ho, rfl⟩ := h
    exact ⟨o, ho, rfl, hi⟩
  -- all of the head is listed
  have full : ∀ (fuel : Nat) (listed : Array Bool) (E : Env) (a : Act), listed.size = ops.size → (∀ j, m ≤ j → j < ops.size → listed.getD j true = false) → unl listed ≤ fuel →
      Ext E0 s0.om E s0.om → Sat E ⟨denv (fun j => listed.getD j true) 0 (reg.take m) ds s0.env, s0.om⟩ a → (∀ j, j < m → listed.getD j true = true) → wpAny P .any ops (Post base Q E0 s0.om) fuel listed a E.w := by
    intro fuel listed E a hsz ht hf hx hs hall
    have : denv (fun j => listed.getD j true) 0 (reg.take m) ds s0.env = denv (fun _ => true) 0 (reg.take m) ds s0.env := denv_congr fun j hj => by
      rw [Nat.zero_add]
      exact hall j (by omega)
    rw [this] at hs
    refine any_tail hT hreg hok own hb0 fuel listed m ⟨denv (fun _ => true) 0 (reg.take m) ds s0.env, s0.om⟩ E a hsz (Nat.le_refl _) hok.le (fun j hj => ?_) hf hx hs hfin
    constructor
    · intro h
      rcases Nat.lt_or_ge j m with hlt | hge
      · exact hlt
      · rw [ht j hge hj] at h; cases h
    · intro h; exact hall j h
  intro fuel
  induction fuel with
  | zero =>
    intro listed E a hsz ht hf hx hs
    refine full 0 listed E a hsz ht hf hx hs fun j hj => ?_
    cases hb : listed.getD j true with
    | true => rfl
    | false => have := unl_set hb; omega
  | succ fuel ih =>
    intro listed E a hsz ht hf hx hs
    by_cases hall : ∀ j, j < m → listed.getD j true = true
    · exact full (fuel + 1) listed E a hsz ht hf hx hs hall
    · refine ⟨fun hr => ?_, fun i hi => ?_⟩
      · exact absurd (fun j hj => ready_nil hok.back hsz hr j (by have := hok.le; omega)) hall
      · obtain ⟨hil, o, ho, _⟩ := mem_ready.1 hi
        have his := (Array.getElem?_eq_some_iff.1 ho).1
        have him : i < m := by
          rcases Nat.lt_or_ge i m with hlt | hge
          · exact hlt
          · exfalso
            apply hall
            intro j hj
            have := hasEdge_listed ho hi (hok.tail i j o hge (by omega) ho)
            rwa [← getD_true_of (by have := hok.le; omega)] at this
        have hro := hget i o ho him
        obtain ⟨d, hd⟩ : ∃ d, ds[i]? = some d := ⟨ds[i]'(by rw [hds, hmr]; exact him), List.getElem?_eq_getElem (by rw [hds, hmr]; exact him)⟩
        have hst := hstep i (lop o) d hro hd
        -- what it looks at reads as in the text's order
        have hlook : ∀ u, u ∈ looked ops o → (denv (fun j => decide (j < i)) 0 (reg.take m) ds s0.env).getD u .any = (denv (fun j => listed.getD j true) 0 (reg.take m) ds s0.env).getD u .any := by
          intro u hu
          by_cases hex : ∃ (j : Nat) (l : LOp), (reg.take m)[j]? = some l ∧ l.dst = some u
          · obtain ⟨j, l, hj, hl⟩ := hex
            obtain ⟨oj, hoj, rfl, hjm⟩ := hget' j l hj
            obtain ⟨hji, hedge⟩ := hok.look i j o oj u him hjm ho hoj hu hl
            have hlj := hasEdge_listed ho hi hedge
            rw [← getD_true_of (by have := hok.le; omega)] at hlj
            obtain ⟨dj, hdj⟩ : ∃ d, ds[j]? = some d := ⟨ds[j]'(by rw [hds, hmr]; exact hjm), List.getElem?_eq_getElem (by rw [hds, hmr]; exact hjm)⟩
            have huniq : ∀ j' o', (reg.take m)[j']? = some o' → o'.dst = some u → j' = j := by
              intro j' l' hj' hl'
              obtain ⟨oj', hoj', rfl, hjm'⟩ := hget' j' l' hj'
              by_cases e : j' = j
              · exact e
              · rcases hok.dst j j' oj oj' hjm hjm' hoj hoj' e with h | h
                · have : oj'.dst = some u := hl'
                  rw [h] at this; cases this
                · have h1 : oj'.dst = some u := hl'
                  have h2 : oj.dst = some u := hl
                  rw [h1, h2] at h
                  exact absurd rfl h
            by_cases hul : u < s0.env.length
            · rw [denv_new (L := fun j => decide (j < i)) hj hdj hl (by simpa using hji) hul huniq, denv_new (L := fun j => listed.getD j true) hj hdj hl (by rw [Nat.zero_add]; exact hlj) hul huniq]
            · have h1 : (denv (fun j => decide (j < i)) 0 (reg.take m) ds s0.env).length ≤ u := by rw [denv_length]; exact Nat.le_of_not_lt hul
              have h2 : (denv (fun j => listed.getD j true) 0 (reg.take m) ds s0.env).length ≤ u := by rw [denv_length]; exact Nat.le_of_not_lt hul
              rw [List.getD_eq_getElem?_getD, List.getD_eq_getElem?_getD, List.getElem?_eq_none h1, List.getElem?_eq_none h2]
          · rw [denv_old (fun j l hj hl => absurd ⟨j, l, hj, hl⟩ hex), denv_old (fun j l hj hl => absurd ⟨j, l, hj, hl⟩ hex)]
        have hev : ∀ x ∈ o.op.operands.toList, evD (denv (fun j => decide (j < i)) 0 (reg.take m) ds s0.env) x = evD (denv (fun j => listed.getD j true) 0 (reg.take m) ds s0.env) x := by
          intro x hx'
          cases x with
          | tmp t => exact hlook t (looked_mem hx')
          | _ => rfl
        -- the slots behind it
        have hput : putE (denv (fun j => listed.getD j true) 0 (reg.take m) ds s0.env) o.dst d = denv (fun j => (listed.setIfInBounds i true).getD j true) 0 (reg.take m) ds s0.env := by
          apply List.ext_getElem?
          intro u
          have getE : ∀ (l : List D), l.length = s0.env.length → l[u]? = if u < s0.env.length then some (l.getD u .any) else none := by
            intro l hl
            split
            · rename_i h; simp [List.getD_eq_getElem?_getD, List.getElem?_eq_getElem (show u < l.length by omega)]
            · rename_i h; exact List.getElem?_eq_none (by omega)
          rw [getE _ (by rw [putE_length, denv_length]), getE _ (by rw [denv_length])]
          split
          · rename_i hul
            congr 1
            by_cases hdu : o.dst = some u
            · have huniq : ∀ j' o', (reg.take m)[j']? = some o' → o'.dst = some u → j' = i := by
                intro j' l' hj' hl'
                obtain ⟨oj', hoj', rfl, hjm'⟩ := hget' j' l' hj'
                by_cases e : j' = i
                · exact e
                · rcases hok.dst i j' o oj' him hjm' ho hoj' e with h | h
                  · have : oj'.dst = some u := hl'
                    rw [h] at this; cases this
                  · have h1 : oj'.dst = some u := hl'
                    rw [h1, hdu] at h
                    exact absurd rfl h
              rw [hdu, putE_getD_eq (by rw [denv_length]; exact hul)]
              rw [denv_new (L := fun j => (listed.setIfInBounds i true).getD j true) hro hd (by exact hdu) (by rw [Nat.zero_add, set_getD (by omega), if_pos rfl]) hul huniq]
            · rw [putE_getD_ne hdu]
              by_cases hex : ∃ (j : Nat) (l : LOp), (reg.take m)[j]? = some l ∧ l.dst = some u
              · obtain ⟨j, l, hj, hl⟩ := hex
                obtain ⟨oj, hoj, rfl, hjm⟩ := hget' j l hj
                have hji : j ≠ i := by
                  rintro rfl
                  rw [ho] at hoj
                  injection hoj with hoj
                  subst hoj
                  exact hdu hl
                obtain ⟨dj, hdj⟩ : ∃ d, ds[j]? = some d := ⟨ds[j]'(by rw [hds, hmr]; exact hjm), List.getElem?_eq_getElem (by rw [hds, hmr]; exact hjm)⟩
                have huniq : ∀ j' o', (reg.take m)[j']? = some o' → o'.dst = some u → j' = j := by
                  intro j' l' hj' hl'
                  obtain ⟨oj', hoj', rfl, hjm'⟩ := hget' j' l' hj'
                  by_cases e : j' = j
                  · exact e
                  · rcases hok.dst j j' oj oj' hjm hjm' hoj hoj' e with h | h
                    · have : oj'.dst = some u := hl'
                      rw [h] at this; cases this
                    · have h1 : oj'.dst = some u := hl'
                      have h2 : oj.dst = some u := hl
                      rw [h1, h2] at h
                      exact absurd rfl h
                cases hlj : listed.getD j true with
                | true =>
                  rw [denv_new (L := fun j => listed.getD j true) hj hdj hl (by rw [Nat.zero_add]; exact hlj) hul huniq, denv_new (L := fun j => (listed.setIfInBounds i true).getD j true) hj hdj hl (by rw [Nat.zero_add, set_getD (by omega), if_neg hji]; exact hlj) hul huniq]
                | false =>
                  have hno : ∀ (L : Nat → Bool), L j = false → ∀ j' o', (reg.take m)[j']? = some o' → o'.dst = some u → L (0 + j') = false := by
                    intro L hL j' o' h1 h2
                    rw [huniq j' o' h1 h2, Nat.zero_add]
                    exact hL
                  rw [denv_old (hno (fun j => listed.getD j true) hlj), denv_old (hno (fun j => (listed.setIfInBounds i true).getD j true) (by rw [set_getD (by omega), if_neg hji]; exact hlj))]
              · rw [denv_old (fun j l hj hl => absurd ⟨j, l, hj, hl⟩ hex), denv_old (fun j l hj hl => absurd ⟨j, l, hj, hl⟩ hex)]
          · rfl
        have hu := unl_set hil
        have next : ∀ (E' : Env) (a' : Act), Ext E s0.om E' s0.om → Sat E' (St.put ⟨denv (fun j => listed.getD j true) 0 (reg.take m) ds s0.env, s0.om⟩ o.dst d) a' → wpAny P .any ops (Post base Q E0 s0.om) fuel (listed.setIfInBounds i true) a' E'.w := by
          intro E' a' hx' hs'
          rw [put_eq, hput] at hs'
          refine ih _ E' a' (by simp [hsz]) (fun j hj1 hj2 => ?_) (by omega) (hx.trans hx') hs'
          rw [set_getD (by omega), if_neg (by omega)]
          exact ht j hj1 hj2
        have run : aopQ P T o.op (evD (denv (fun j => decide (j < i)) 0 (reg.take m) ds s0.env)) s0.om (· = d) →
            o.wp P a E.w (wpAny P .any ops (Post base Q E0 s0.om) fuel (listed.setIfInBounds i true)) (Post base Q E0 s0.om) := by
          intro h
          have h' := aopQ_congr hev h
          have h'' := aopQ_aop (s := ⟨denv (fun j => listed.getD j true) 0 (reg.take m) ds s0.env, s0.om⟩) (dst := o.dst) (KP := fun _ _ => False) h'
          refine aop_ok hT false hs h'' (fun E' s' a' hk hx' hs' => ?_) (fun E' s' y d hk _ _ _ => hk.elim)
          subst hk
          refine next E' a' ?_ hs'
          cases hdst : o.dst <;> (rw [hdst] at hx'; exact hx')
        unfold wpOp
        simp only [ho]
        unfold StepOk at hst
        split at hst
        · rename_i hg
          have : Region.wanted o (yielded ops a.tmps) = true := by
            unfold Region.wanted
            have hg : o.guard = none := hg
            rw [hg]
          rw [if_pos this]
          exact .inl (run hst)
        · rename_i j want hg
          have hg : o.guard = some (j, want) := hg
          obtain ⟨t, b, ht', hb, hcase⟩ := hst
          have htl : t ∈ looked ops o := by
            refine List.mem_append_right _ ?_
            have hd' : (ops[j]?).bind (·.dst) = some t := by
              rw [← hreg] at ht'
              simp only [List.getElem?_map] at ht'
              cases hoj : ops[j]? with
              | none => simp [hoj] at ht'
              | some oj => simpa [hoj, lop] using ht'
            rw [hg]
            simp [hd']
          rw [hlook t htl] at hb
          have hw := wanted_ok hreg hs hg ht' hb
          rcases hcase with ⟨hbw, h⟩ | ⟨hbw, rfl⟩
          · rw [if_pos (by rw [hw]; simpa using hbw)]
            exact .inl (run h)
          · rw [if_neg (by rw [hw]; simpa using hbw)]
            exact next E _ (Ext.refl _ _) (hs.put (Ext.refl E s0.om) hs.rel (.any undef) _)

/-- A region that draws its order. -/
theorem AW.regionD {base : Nat} (hT : TabOk P T) (hm : P.follows .mixedOrders = true) {id : Nat} {ops : Array Oper} {Q : AX → St → Prop} {s : St} (reg : List LOp) (own : List Nat) (m : Nat) (hreg : ops.toList.map lop = reg) (hok : drawOk ops m = true)
    (h : qops P T reg s.om (reg.take m) s.env fun env => aops P T reg own m (reg.drop m) ⟨env, s.om⟩ (Q .norm) (fun d => Q (.panic d))) : AW base P (.region id ops true) Q s := by
  intro E a hb hs
  obtain ⟨ds, h1, h2, h3⟩ := qops_facts h
  refine wp_region_any hm ?_
  have hrep : ∀ j, j < ops.size → (Array.replicate ops.size false).getD j true = false := by intro j hj; simp [Array.getD, hj]
  let E1 : Env := { E with w := { E.w with drawn := E.w.drawn + 1 } }
  have hx : Ext E s.om E1 s.om := ⟨Nat.le_refl _, fun _ _ => rfl, fun _ h => h, Nat.le_refl _, rfl, rfl, rfl, fun _ _ _ => rfl, fun b hl => .inl hl, fun b hA => .inl hA⟩
  have hlen : ops.size = reg.length := by rw [← hreg]; simp
  have hR1 : Rel E1 s.om := by
    refine ⟨hs.rel.len, fun k o hk => ?_, hs.rel.inj, hs.rel.old, hs.rel.one⟩
    exact ObR.keep hs.rel hx (by rw [← hs.rel.len]; exact (List.getElem?_eq_some_iff.1 hk).1) (hs.rel.ob k o hk) fun hl b hb => ⟨rfl, (hs.rel.live_lt ⟨k, o, hk, hl, hb⟩).2⟩
  have hs1 : Sat E1 s a := ⟨hR1, hs.defs, hs.size, fun t => (hs.rd t).ext hs.rel hx⟩
  refine any_head hT hreg (drawOk_spec hok) own (E0 := E) (s0 := s) hb h1 h2 h3 ops.size _ E1 a (by simp) (fun j _ hj => hrep j hj) ?_ hx ?_
  · unfold unl
    have := List.countP_le_length (p := fun b => !b) (l := (Array.replicate ops.size false).toList)
    simpa using this
  · have : denv (fun j => (Array.replicate ops.size false).getD j true) 0 (reg.take m) ds s.env = denv (fun _ => false) 0 (reg.take m) ds s.env := denv_congr fun j hj => by
      rw [Nat.zero_add]
      exact hrep j (by simp at hj; omega)
    rw [this]
    have hnone : ∀ (i : Nat) (os : List LOp) (ds e : List D), denv (fun _ => false) i os ds e = e := by
      intro i os
      induction os generalizing i with
      | nil => intro ds e; simp [denv]
      | cons o os ih =>
        intro ds e
        cases ds with
        | nil => simp [denv]
        | cons d ds => simp only [denv]; rw [ih]; simp
    rw [hnone]
    exact hs1

end
end Go.Proofs.Ytfpahhadchfmcaa.AWP
