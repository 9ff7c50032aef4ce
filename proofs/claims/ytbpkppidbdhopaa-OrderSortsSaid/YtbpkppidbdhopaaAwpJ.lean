/- Part of a program logic over data: rules of the walk, each proved. -/
import Derived.Test.YtbpkppidbdhopaaAwpI
set_option linter.unusedSectionVars false
set_option linter.unusedVariables false
set_option linter.unusedSimpArgs false
namespace Go.Proofs.Ytbpkppidbdhopaa.AWP
open Go

section
variable {P : Program} {T : Tab} {E : Env} {om : List Ob}

/-! ### Stores -/
/-- One cell of an object. -/
def obSet (sz : Nat) (p : Nat) (d : D) : Ob → Option Ob
  | .var ty c => if p < c.length then some (.var ty (c.set p d)) else none
  | .slc ty sz' rows =>
    match rows[p / sz']? with
    | some r => some (.slc ty sz' (rows.set (p / sz') (r.set (p % sz') d)))
    | none => none
  | _ => none

theorem set_flatten {rows : List (List D)} {sz i j : Nat} {r : List D} {d : D} (hs : ∀ r ∈ rows, r.length = sz) (hi : rows[i]? = some r) (hj : j < sz) :
    (rows.set i (r.set j d)).flatten = rows.flatten.set (i * sz + j) d := by
  induction rows generalizing i with
  | nil => simp at hi
  | cons r0 rows ih =>
    have h0 : r0.length = sz := hs r0 (by simp)
    cases i with
    | zero =>
      simp only [List.getElem?_cons_zero, Option.some.injEq] at hi
      subst hi
      simp only [List.set_cons_zero, List.flatten_cons, Nat.zero_mul, Nat.zero_add]
      rw [List.set_append_left _ _ (by omega)]
    | succ i =>
      simp only [List.getElem?_cons_succ] at hi
      simp only [List.set_cons_succ, List.flatten_cons, ih (fun r hr => hs r (by simp [hr])) hi]
      rw [List.set_append_right _ _ (by rw [Nat.succ_mul]; omega)]
      congr 2
      rw [Nat.succ_mul]
      omega

theorem heap_setCell (w : World) (b p : Nat) (v : Value) (cs : Array Value) (ty : TypeId) (h : w.heap[b]? = some (.cells cs ty (0, 0))) : (w.setCell ⟨b, p, none⟩ v).heap[b]? = some (.cells (cs.setIfInBounds p v) ty (0, 0)) := by
  simp [World.setCell, Array.getElem?_modify, h]
theorem heap_setCell_ne (w : World) (b p : Nat) (v : Value) (b' : Nat) (h : b' ≠ b) : (w.setCell ⟨b, p, none⟩ v).heap[b']? = w.heap[b']? := by
  simp only [World.setCell, Array.getElem?_modify]
  rw [if_neg (fun e => h e.symm)]

theorem CellsR.set {E' : Env} {c : List D} {cs : Array Value} {p : Nat} {d : D} {v : Value} (h : CellsR E' c cs) (hv : v.oneCell' = true) (hd : Rd E' d v) : CellsR E' (c.set p d) (cs.setIfInBounds p v) := by
  intro j d' hj
  rw [List.getElem?_set] at hj
  split at hj
  · rename_i e
    subst e
    split at hj
    · rename_i hlt
      simp only [Option.some.injEq] at hj
      subst hj
      obtain ⟨y, e1, _⟩ := h p _ (List.getElem?_eq_getElem hlt)
      have hl := (Array.getElem?_eq_some_iff.1 e1).1
      exact ⟨v, by simp [Array.getElem?_setIfInBounds, hl], hv, hd⟩
    · simp at hj
  · rename_i e
    obtain ⟨y, e1, e2⟩ := h j d' hj
    exact ⟨y, by rw [Array.getElem?_setIfInBounds, if_neg e]; exact e1, e2⟩

/-- What an object k of one's own holds in its block. -/
theorem setCell_ok (hR : Rel E om) {k b p : Nat} {o o' : Ob} {d : D} {v : Value} (ho : om[k]? = some o) (hl : o.live = true) (hg : hb (E.g k) = some b) (hset : obSet 0 p d o = some o') (hv : v.oneCell' = true) (hd : Rd E d v) :
    E.w.cell? ⟨b, p, none⟩ ≠ none ∧ E.w.frozen? ⟨b, p, none⟩ = false ∧ Ext E om { E with w := E.w.setCell ⟨b, p, none⟩ v } (om.set k o') ∧ Rel { E with w := E.w.setCell ⟨b, p, none⟩ v } (om.set k o') ∧ o'.live = true := by
  have hlive : Live E om b := ⟨k, o, ho, hl, hg⟩
  have hlt := hR.live_lt hlive
  have hk : k < om.length := (List.getElem?_eq_some_iff.1 ho).1
  have hl' : o'.live = true := by
    cases o with
    | var ty c =>
      simp only [obSet] at hset
      split at hset
      · simp only [Option.some.injEq] at hset; subst hset; rfl
      · simp at hset
    | slc ty sz rows =>
      simp only [obSet] at hset
      split at hset
      · simp only [Option.some.injEq] at hset; subst hset; rfl
      · simp at hset
    | _ => simp [obSet] at hset
  have hget : ∀ j o1, (om.set k o')[j]? = some o1 → (j = k ∧ o1 = o') ∨ (j ≠ k ∧ om[j]? = some o1) := by
    intro j o1 h
    rw [List.getElem?_set] at h
    split at h
    · rename_i e
      have h' : o' = o1 := by simpa [hk] using h
      exact .inl ⟨e.symm, h'.symm⟩
    · rename_i e
      exact .inr ⟨fun h => e h.symm, h⟩
  have hx : Ext E om { E with w := E.w.setCell ⟨b, p, none⟩ v } (om.set k o') := by
    refine ⟨Nat.le_refl _, fun _ _ => rfl, fun _ h => h, by simp, rfl, rfl, rfl, fun b' hb' hn => heap_setCell_ne _ _ _ _ _ (fun e => hn (e ▸ hlive)), ?_, fun b hA => .inl hA⟩
    rintro b' ⟨j, o1, hj, hlj, hgj⟩
    rcases hget j o1 hj with ⟨rfl, rfl⟩ | ⟨_, h⟩
    · exact .inl ⟨j, o, ho, hl, hgj⟩
    · exact .inl ⟨j, o1, h, hlj, hgj⟩
  have hcore : ∀ (cs : Array Value) (ty : TypeId) (c : List D), E.w.heap[b]? = some (.cells cs ty (0, 0)) → CellsR E c cs → p < cs.size →
      E.w.cell? ⟨b, p, none⟩ ≠ none ∧ E.w.frozen? ⟨b, p, none⟩ = false ∧ (E.w.setCell ⟨b, p, none⟩ v).heap[b]? = some (.cells (cs.setIfInBounds p v) ty (0, 0)) ∧ CellsR { E with w := E.w.setCell ⟨b, p, none⟩ v } (c.set p d) (cs.setIfInBounds p v) := by
    intro cs ty c h1 h2 h3
    refine ⟨by rw [cell_of_heap h1]; simp [h3], by simp [World.frozen?, h1], heap_setCell _ _ _ _ _ _ h1, (h2.ext hR hx).set hv (hd.ext hR hx)⟩
  have hob := hR.ob k o ho
  have main : E.w.cell? ⟨b, p, none⟩ ≠ none ∧ E.w.frozen? ⟨b, p, none⟩ = false ∧ ObR { E with w := E.w.setCell ⟨b, p, none⟩ v } k o' := by
    cases o with
    | var ty c =>
      simp only [obSet] at hset
      split at hset
      · rename_i hp
        simp only [Option.some.injEq] at hset
        subst hset
        obtain ⟨b', cs, h1, h2, h3, h4, h5⟩ := hob
        rw [h1] at hg
        simp only [hb, Option.some.injEq] at hg
        subst hg
        obtain ⟨q1, q2, q3, q4⟩ := hcore cs ty c h2 h5 (by omega)
        exact ⟨q1, q2, b', _, h1, q3, h3, by simp [h4], q4⟩
      · simp at hset
    | slc ty sz rows =>
      simp only [obSet] at hset
      split at hset
      · rename_i r hr
        simp only [Option.some.injEq] at hset
        subst hset
        obtain ⟨h0, hs, h1 | ⟨b', cs, cap, h1, h2, h3, h4, h5, h6, h7⟩⟩ := hob
        · rw [h1.2] at hr; simp at hr
        · rw [h1] at hg
          simp only [hb, Option.some.injEq] at hg
          subst hg
          have hi := (List.getElem?_eq_some_iff.1 hr).1
          have hdm : p / sz * sz + p % sz = p := by rw [Nat.mul_comm]; exact Nat.div_add_mod p sz
          have hmod := Nat.mod_lt p h0
          have hp : p < rows.length * sz := by
            have : (p / sz + 1) * sz ≤ rows.length * sz := Nat.mul_le_mul_right _ hi
            rw [Nat.succ_mul] at this
            omega
          have hpc : p < cs.size := by rw [h4]; exact Nat.lt_of_lt_of_le hp (Nat.mul_le_mul_right _ h5)
          obtain ⟨q1, q2, q3, q4⟩ := hcore cs ty _ h2 h7 hpc
          refine ⟨q1, q2, h0, fun r' hr' => ?_, .inr ⟨b', _, cap, by simpa using h1, q3, h3, by simp [h4], by simpa using h5, h6, ?_⟩⟩
          · rcases List.mem_or_eq_of_mem_set hr' with h | h
            · exact hs r' h
            · subst h; simp; exact hs r (List.mem_of_getElem? hr)
          · rw [set_flatten hs hr hmod, hdm]
            exact q4
      · simp at hset
    | _ => simp [obSet] at hset
  refine ⟨main.1, main.2.1, hx, ⟨by simp [hR.len], fun j o1 hj => ?_, fun j j' o1 o2 b' hj hj' hlj hlj' h1 h2 => ?_, fun b' hA => by have := hR.old b' hA; simpa using this, hR.one⟩, hl'⟩
  · rcases hget j o1 hj with ⟨rfl, rfl⟩ | ⟨hne, h⟩
    · exact main.2.2
    · refine ObR.keep hR hx (by rw [← hR.len]; exact (List.getElem?_eq_some_iff.1 h).1) (hR.ob j o1 h) fun hlj b' hgj => ⟨heap_setCell_ne _ _ _ _ _ fun e => ?_, (hR.live_lt ⟨j, o1, h, hlj, hgj⟩).2⟩
      subst e
      exact hne (hR.inj j k o1 o _ h ho hlj hl hgj hg)
  · have back : ∀ (i : Nat) (oi : Ob), (om.set k o')[i]? = some oi → oi.live = true → ∃ oi', om[i]? = some oi' ∧ oi'.live = true := by
      intro i oi hi hli
      rcases hget i oi hi with ⟨rfl, rfl⟩ | ⟨_, h⟩
      · exact ⟨o, ho, hl⟩
      · exact ⟨oi, h, hli⟩
    obtain ⟨a1, a2, a3⟩ := back j o1 hj hlj
    obtain ⟨c1, c2, c3⟩ := back j' o2 hj' hlj'
    exact hR.inj j j' a1 c1 b' a2 c2 a3 c3 h1 h2

/-- Cells written one behind the other. -/
def obPut : Ob → Nat → List D → Option Ob
  | o, _, [] => some o
  | o, p, d :: c =>
    match obSet 0 p d o with
    | some o' => obPut o' (p + 1) c
    | none => none

theorem storeCells_ok : ∀ (c : List D) (vs : List Value) (i : Nat) (E : Env) (om : List Ob) (k b off : Nat) (o o' : Ob), Rel E om → om[k]? = some o → o.live = true → hb (E.g k) = some b → obPut o (off + i) c = some o' →
    c.length = vs.length → (∀ (j : Nat) (d : D), c[j]? = some d → ∃ y, vs[j]? = some y ∧ y.oneCell' = true ∧ Rd E d y) →
    ∃ E', (storeCells ⟨b, off, none⟩ vs i).run P E.w = .ok () E'.w ∧ Ext E om E' (om.set k o') ∧ Rel E' (om.set k o') := by
  intro c
  induction c with
  | nil =>
    intro vs i E om k b off o o' hR ho hl hg hp hlen hv
    obtain rfl : vs = [] := List.eq_nil_of_length_eq_zero (by simpa using hlen.symm)
    simp only [obPut, Option.some.injEq] at hp
    subst hp
    have : om.set k o = om := by
      obtain ⟨hk, e⟩ := List.getElem?_eq_some_iff.1 ho
      rw [← e]
      exact List.set_getElem_self hk
    rw [this]
    exact ⟨E, rfl, Ext.refl _ _, hR⟩
  | cons d c ih =>
    intro vs i E om k b off o o' hR ho hl hg hp hlen hv
    cases vs with
    | nil => simp at hlen
    | cons v vs =>
      simp only [obPut] at hp
      split at hp
      · rename_i o1 hs
        obtain ⟨y, e1, e2, e3⟩ := hv 0 d (by simp)
        simp only [List.getElem?_cons_zero, Option.some.injEq] at e1
        subst e1
        obtain ⟨q1, q2, q3, q4, q5⟩ := setCell_ok hR ho hl hg hs e2 e3
        have hk : k < om.length := (List.getElem?_eq_some_iff.1 ho).1
        obtain ⟨E', r1, r2, r3⟩ := ih vs (i + 1) { E with w := E.w.setCell ⟨b, off + i, none⟩ v } (om.set k o1) k b off o1 o' q4 (by simp [hk]) q5 hg hp (by simpa using hlen)
          (fun j d' hj => by
            obtain ⟨y, f1, f2, f3⟩ := hv (j + 1) d' (by simpa using hj)
            exact ⟨y, by simpa using f1, f2, f3.ext hR q3⟩)
        refine ⟨E', ?_, ?_, ?_⟩
        · simp only [storeCells, Sem.run_bind, add_mk, run_store P _ _ _ _ e2]
          cases hc : E.w.cell? ⟨b, off + i, none⟩ with
          | none => exact absurd hc q1
          | some u => simp only [q2, Bool.false_eq_true, if_false, Result.andThen_ok]; exact r1
        · have := q3.trans r2
          simpa using this
        · simpa using r3
      · simp at hp

def obAt (om : List Ob) : D → Option (Nat × Nat)
  | .ref k off => some (k, off)
  | .rel k sz i j => some (k, i * sz + j)
  | _ => none

def qStore (T : Tab) (om : List Ob) (t : Nat) (a x : D) : Option (List Ob) :=
  match T t with
  | some i =>
    match obAt om a, cellsOf x with
    | some (k, p), some c =>
      if c.length = i.size then
        match om[k]? with
        | some o => if o.live then (obPut o p c).map fun o' => om.set k o' else none
        | none => none
      else none
    | _, _ => none
  | none => none

theorem qStore_ok (hT : TabOk P T) (hR : Rel E om) {t : Nat} {a x : D} {ya yx : Value} {om' : List Ob} (h : qStore T om t a x = some om') (ha : Rd E a ya) (hx : Rd E x yx) :
    ∃ E', (Instr.storeAt t ya yx).run P E.w = .ok () E'.w ∧ Ext E om E' om' ∧ Rel E' om' := by
  unfold qStore at h
  split at h
  · rename_i i ht
    split at h
    · rename_i k p c ha' hc
      split at h
      · rename_i hlen
        split at h
        · rename_i o ho
          split at h
          · rename_i hl
            simp only [Option.map_eq_some_iff] at h
            obtain ⟨o', hp, rfl⟩ := h
            obtain ⟨h1, h2⟩ := cellsOf_ok hR hc hx
            have hptr : ∃ b, ya = .pointer (some ⟨b, p, none⟩) ∧ hb (E.g k) = some b := by
              cases ha with
              | ref hk hg =>
                simp only [obAt, Option.some.injEq, Prod.mk.injEq] at ha'
                obtain ⟨rfl, rfl⟩ := ha'
                exact ⟨_, rfl, hg⟩
              | rel hk hg =>
                simp only [obAt, Option.some.injEq, Prod.mk.injEq] at ha'
                obtain ⟨rfl, rfl⟩ := ha'
                exact ⟨_, rfl, hg⟩
              | _ => simp [obAt] at ha'
            obtain ⟨b, rfl, hg⟩ := hptr
            obtain ⟨E', r1, r2, r3⟩ := storeCells_ok (P := P) c yx.cells.toList 0 E om k b p o o' hR ho hl hg (by simpa using hp) (by simp [h1]) (fun j d hj => by
              obtain ⟨y, e1, e2⟩ := h2 j d hj
              exact ⟨y, by simpa using e1, e2⟩)
            refine ⟨E', ?_, r2, r3⟩
            have hsz : yx.cells.size = i.size := by omega
            simp [Instr.storeAt, Instr.sureAddr, storeVar, (hT _ _ ht).sizeOf, hsz, r1]
          · simp at h
        · simp at h
      · simp at h
    · simp at h
  · simp at h

end
end Go.Proofs.Ytbpkppidbdhopaa.AWP
