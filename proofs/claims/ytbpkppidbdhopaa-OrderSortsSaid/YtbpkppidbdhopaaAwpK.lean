/- Part of a program logic over data: rules of the walk, each proved. -/
import Derived.Test.YtbpkppidbdhopaaAwpJ
set_option linter.unusedSectionVars false
set_option linter.unusedVariables false
set_option linter.unusedSimpArgs false
namespace Go.Proofs.Ytbpkppidbdhopaa.AWP
open Go

section
variable {P : Program} {T : Tab} {E : Env} {om : List Ob}

def zeroD (i : TI) : List D := i.zero.map .v

theorem zero_cells {t : Nat} {i : TI} (hi : TIok P t i) {z : Value} (hz : z.cells.toList = i.zero) : z.cells.size = (zeroD i).length ∧ CellsR E (zeroD i) z.cells := by
  have hsz : z.cells.size = i.zero.length := by rw [← hz]; simp
  refine ⟨by simp [zeroD, hsz], fun j d hj => ?_⟩
  simp only [zeroD, List.getElem?_map, Option.map_eq_some_iff] at hj
  obtain ⟨v, hv, rfl⟩ := hj
  refine ⟨v, ?_, hi.one v (List.mem_of_getElem? hv), .v v⟩
  rw [← hz] at hv
  simpa using hv

/-! ### Struct and array literals -/
def fillD (place : Nat → Option (Nat × Nat)) (c : List D) : List (Nat × D) → Option (List D)
  | [] => some c
  | (n, d) :: rest =>
    match place n, cellsOf d with
    | some (off, size), some cd => if cd.length = size ∧ off + size ≤ c.length then fillD place (splc c off cd) rest else none
    | _, _ => none

theorem fill_ok (hR : Rel E om) (place : Nat → Option (Nat × Nat)) : ∀ (pd : List (Nat × D)) (pv : List (Nat × Value)) (c c' : List D) (cs : Array Value),
    pd.length = pv.length → (∀ (j n : Nat) (d : D), pd[j]? = some (n, d) → ∃ y, pv[j]? = some (n, y) ∧ Rd E d y) → CellsR E c cs → cs.size = c.length → fillD place c pd = some c' →
    ∃ cs', Instr.fill place cs pv = some cs' ∧ CellsR E c' cs' ∧ cs'.size = c'.length := by
  intro pd
  induction pd with
  | nil =>
    intro pv c c' cs hl _ hc hs h
    obtain rfl : pv = [] := List.eq_nil_of_length_eq_zero (by simpa using hl.symm)
    simp only [fillD, Option.some.injEq] at h
    subst h
    exact ⟨cs, rfl, hc, hs⟩
  | cons x pd ih =>
    intro pv c c' cs hl hp hc hs h
    obtain ⟨n, d⟩ := x
    cases pv with
    | nil => simp at hl
    | cons z pv =>
      obtain ⟨y, e1, e2⟩ := hp 0 n d (by simp)
      simp only [List.getElem?_cons_zero, Option.some.injEq] at e1
      subst e1
      simp only [fillD] at h
      split at h
      · rename_i off size cd hpl hcd
        split at h
        · rename_i hle
          obtain ⟨rfl, hle⟩ := hle
          obtain ⟨q1, q2⟩ := cellsOf_ok hR hcd e2
          obtain ⟨r1, r2⟩ := hc.splc hs q2 q1 hle
          obtain ⟨cs', s1, s2, s3⟩ := ih pv (splc c off cd) c' _ (by simpa using hl) (fun j n d hj => by
            obtain ⟨y, f1, f2⟩ := hp (j + 1) n d (by simpa using hj)
            exact ⟨y, by simpa using f1, f2⟩) r1 r2 h
          refine ⟨cs', ?_, s2, s3⟩
          have hcond : (decide (y.cells.size ≠ cd.length) || decide (off + y.cells.size > cs.size)) = false := by
            simp [q1]; omega
          simp only [Instr.fill, hpl]
          rw [if_neg (by simpa using hcond)]
          exact s1
        · simp at h
      · simp at h

def fieldPlaces (T : Tab) : List (Nat × Nat) → Option (List (Nat × Nat))
  | [] => some []
  | (off, ft) :: r =>
    match T ft, fieldPlaces T r with
    | some i, some l => some ((off, i.size) :: l)
    | _, _ => none

theorem fieldPlaces_ok (hT : TabOk P T) {w : World} : ∀ (l : List Field) (pl : List (Nat × Nat)), fieldPlaces T (l.map fun f => (f.offset, f.type)) = some pl →
    (l.mapM fun f => do pure (f.offset, ← sizeOf f.type) : Sem (List (Nat × Nat))).run P w = .ok pl w := by
  intro l
  induction l with
  | nil => intro pl h; simp only [List.map_nil, fieldPlaces, Option.some.injEq] at h; subst h; simp
  | cons f l ih =>
    intro pl h
    simp only [List.map_cons, fieldPlaces] at h
    split at h
    · rename_i i l' h1 h2
      simp only [Option.some.injEq] at h
      subst h
      simp only [List.mapM_cons, Sem.run_bind, (hT _ _ h1).sizeOf, Result.andThen_ok, Sem.run_pure, ih l' h2]
    · simp at h

def qBuild (T : Tab) (t : Nat) (parts : List (Nat × D)) : Option D :=
  match T t with
  | some i =>
    match i.kd with
    | .struct fs =>
      match fieldPlaces T fs with
      | some pl => (fillD (fun n => pl[n]?) (zeroD i) parts).map .agg
      | none => none
    | .arr _ e =>
      match T e with
      | some ei => (fillD (fun n => some (n * ei.size, ei.size)) (zeroD i) parts).map .agg
      | none => none
    | _ => none
  | none => none

theorem agg_of_cells {c : List D} {cs : Array Value} (h : CellsR E c cs) (hs : cs.size = c.length) : Rd E (.agg c) (.agg cs) := by
  refine .agg cs hs (fun j hj => ?_) (fun j d hj => h.of_getD hj)
  obtain ⟨y, e1, e2, _⟩ := h j _ (List.getElem?_eq_getElem (by omega))
  simpa [Array.getD_eq_getD_getElem?, e1] using e2

theorem qBuild_ok (hT : TabOk P T) (hR : Rel E om) {t : Nat} {pd : List (Nat × D)} {pv : List (Nat × Value)} {d : D} (h : qBuild T t pd = some d) (hl : pd.length = pv.length)
    (hp : ∀ (j n : Nat) (d : D), pd[j]? = some (n, d) → ∃ y, pv[j]? = some (n, y) ∧ Rd E d y) :
    ∃ z, (Instr.build t pv.toArray).run P E.w = .ok z E.w ∧ Rd E d z := by
  unfold qBuild at h
  split at h
  · rename_i i ht
    obtain ⟨z, hz1, hz2, _⟩ := (hT _ _ ht).zeroValue (w := E.w)
    obtain ⟨hz3, hz4⟩ := zero_cells (E := E) (hT _ _ ht) hz2
    split at h
    · rename_i fs hk
      obtain ⟨l, hu, hfl⟩ := (hT _ _ ht).struct hk
      split at h
      · rename_i pl hpl
        simp only [Option.map_eq_some_iff] at h
        obtain ⟨c', hc', rfl⟩ := h
        rw [← hfl] at hpl
        obtain ⟨cs', s1, s2, s3⟩ := fill_ok hR (fun (n : Nat) => pl[n]?) pd pv (zeroD i) c' z.cells hl hp hz4 hz3 hc'
        refine ⟨.agg cs', ?_, agg_of_cells s2 s3⟩
        have hm := fieldPlaces_ok hT (w := E.w) l.toList pl hpl
        have hm' : (l.mapM fun f => do pure (f.offset, ← sizeOf f.type) : Sem (Array (Nat × Nat))).run P E.w = .ok pl.toArray E.w := by
          rw [Array.mapM_eq_mapM_toList]
          simp only [Sem.run_map, hm, Result.andThen_ok]
        simp only [Instr.build, Sem.run_bind, hz1, Result.andThen_ok, run_underlying hu, hm']
        have e : (fun (n : Nat) => (pl.toArray[n]? : Option (Nat × Nat))) = fun (n : Nat) => pl[n]? := by funext n; simp
        simp only [e, s1, Sem.run_pure]
      · simp at h
    · rename_i n e hk
      have hu := (hT _ _ ht).arr hk
      split at h
      · rename_i ei he
        simp only [Option.map_eq_some_iff] at h
        obtain ⟨c', hc', rfl⟩ := h
        obtain ⟨cs', s1, s2, s3⟩ := fill_ok hR (fun n => some (n * ei.size, ei.size)) pd pv (zeroD i) c' z.cells hl hp hz4 hz3 hc'
        refine ⟨.agg cs', ?_, agg_of_cells s2 s3⟩
        simp only [Instr.build, Sem.run_bind, hz1, Result.andThen_ok, run_underlying hu, (hT _ _ he).sizeOf, s1, Sem.run_pure]
      · simp at h
    · simp at h
  · simp at h

/-! ### Rows that are laid -/
def RowsR (E : Env) (sz : Nat) (rows : List (List D)) (cs : Array Value) : Prop :=
  ∀ (i : Nat) (r : List D) (j : Nat) (d : D), rows[i]? = some r → r[j]? = some d → ∃ y, cs[i * sz + j]? = some y ∧ y.oneCell' = true ∧ Rd E d y

theorem RowsR.cells {sz : Nat} {rows : List (List D)} {cs : Array Value} (h : RowsR E sz rows cs) (hs : ∀ r ∈ rows, r.length = sz) : CellsR E rows.flatten cs := by
  intro k d hk
  obtain ⟨i, r, j, h1, h2, h3, _⟩ := flatten_inv hs hk
  subst h3
  exact h i r j d h1 h2

def rowsPut (sz : Nat) : List (List D) → List (Nat × D) → Option (List (List D))
  | rows, [] => some rows
  | rows, (n, d) :: rest =>
    match cellsOf d with
    | some cd => if cd.length = sz ∧ n < rows.length then rowsPut sz (rows.set n cd) rest else none
    | none => none

theorem fillRows_ok (hR : Rel E om) (sz : Nat) : ∀ (pd : List (Nat × D)) (pv : List (Nat × Value)) (rows rows' : List (List D)) (cs : Array Value),
    pd.length = pv.length → (∀ (j n : Nat) (d : D), pd[j]? = some (n, d) → ∃ y, pv[j]? = some (n, y) ∧ Rd E d y) → (∀ r ∈ rows, r.length = sz) → RowsR E sz rows cs → cs.size = rows.length * sz → rowsPut sz rows pd = some rows' →
    ∃ cs', Instr.fill (fun i => some (i * sz, sz)) cs pv = some cs' ∧ RowsR E sz rows' cs' ∧ cs'.size = rows'.length * sz ∧ (∀ r ∈ rows', r.length = sz) ∧ rows'.length = rows.length := by
  intro pd
  induction pd with
  | nil =>
    intro pv rows rows' cs hl _ hs hc hsz h
    obtain rfl : pv = [] := List.eq_nil_of_length_eq_zero (by simpa using hl.symm)
    simp only [rowsPut, Option.some.injEq] at h
    subst h
    exact ⟨cs, rfl, hc, hsz, hs, rfl⟩
  | cons x pd ih =>
    intro pv rows rows' cs hl hp hs hc hsz h
    obtain ⟨n, d⟩ := x
    cases pv with
    | nil => simp at hl
    | cons z pv =>
      obtain ⟨y, e1, e2⟩ := hp 0 n d (by simp)
      simp only [List.getElem?_cons_zero, Option.some.injEq] at e1
      subst e1
      simp only [rowsPut] at h
      split at h
      · rename_i cd hcd
        split at h
        · rename_i hle
          obtain ⟨hcl, hn⟩ := hle
          obtain ⟨q1, q2⟩ := cellsOf_ok hR hcd e2
          have hmul : n * sz + sz ≤ cs.size := by
            rw [hsz, ← Nat.succ_mul]
            exact Nat.mul_le_mul_right _ hn
          obtain ⟨f1, f2⟩ := foldl_set y.cells.toList 0 (n * sz) cs
          have efold : y.cells.zipIdx.foldl (fun (cs : Array Value) (x : Value × Nat) => cs.setIfInBounds (n * sz + x.2) x.1) cs = (y.cells.toList.zipIdx 0).foldl (fun (cs : Array Value) (x : Value × Nat) => cs.setIfInBounds (n * sz + x.2) x.1) cs := by
            rw [← Array.foldl_toList]
            simp
          obtain ⟨cs', s1, s2⟩ := ih pv (rows.set n cd) rows' (y.cells.zipIdx.foldl (fun (cs : Array Value) (x : Value × Nat) => cs.setIfInBounds (n * sz + x.2) x.1) cs) (by simpa using hl) (fun j n d hj => by
            obtain ⟨y, f1, f2⟩ := hp (j + 1) n d (by simpa using hj)
            exact ⟨y, by simpa using f1, f2⟩)
            (fun r hr => by
              rcases List.mem_or_eq_of_mem_set hr with h | h
              · exact hs r h
              · subst h; exact hcl)
            (fun i r j d' hi hj => by
              rw [List.getElem?_set] at hi
              rw [efold, f2]
              simp only [Array.length_toList, q1, hcl, Nat.add_zero, Nat.sub_zero]
              split at hi
              · rename_i e
                subst e
                have e' : cd = r := by simpa [hn] using hi
                subst e'
                have hjl := (List.getElem?_eq_some_iff.1 hj).1
                obtain ⟨u, g1, g2⟩ := q2 j d' hj
                refine ⟨u, ?_, g2⟩
                rw [if_pos (by omega)]
                have : n * sz + j - n * sz = j := by omega
                rw [this]
                simpa using g1
              · rename_i e
                have hjl := (List.getElem?_eq_some_iff.1 hj).1
                rw [hs r (List.mem_of_getElem? hi)] at hjl
                obtain ⟨u, g1, g2⟩ := hc i r j d' hi hj
                refine ⟨u, ?_, g2⟩
                rw [if_neg ?_]
                · exact g1
                · rintro ⟨a1, a2, _⟩
                  rcases Nat.lt_or_ge i n with hlt | hge
                  · have : (i + 1) * sz ≤ n * sz := Nat.mul_le_mul_right _ hlt
                    rw [Nat.succ_mul] at this
                    omega
                  · have : (n + 1) * sz ≤ i * sz := Nat.mul_le_mul_right _ (by omega)
                    rw [Nat.succ_mul] at this
                    omega)
            (by rw [efold, f1, hsz]; simp) h
          refine ⟨cs', ?_, by simpa using s2⟩
          have hcond : (decide (y.cells.size ≠ sz) || decide (n * sz + y.cells.size > cs.size)) = false := by
            simp [q1, hcl]; omega
          simp only [Instr.fill]
          rw [if_neg (by simpa using hcond)]
          exact s1
        · simp at h
      · simp at h

/-- n rows of noughts. -/
theorem zeroRows_ok {e : Nat} {ei : TI} (he : TIok P e ei) {z : Value} (hz : z.cells.toList = ei.zero) (n : Nat) :
    RowsR E ei.size (List.replicate n (zeroD ei)) ((Array.range (n * ei.size)).map (z.cells[· % z.cells.size]!)) := by
  have hzs : z.cells.size = ei.size := by rw [← he.len, ← hz]; simp
  intro i r j d hi hj
  have hi' := (List.getElem?_eq_some_iff.1 hi).1
  simp only [List.length_replicate] at hi'
  rw [List.getElem?_replicate_of_lt hi', Option.some.injEq] at hi
  subst hi
  have hjl := (List.getElem?_eq_some_iff.1 hj).1
  simp only [zeroD, List.length_map, he.len] at hjl
  obtain ⟨y, e1, e2⟩ := (zero_cells (E := E) he hz).2 j d hj
  refine ⟨y, ?_, e2⟩
  have hlt : i * ei.size + j < n * ei.size := by
    have : (i + 1) * ei.size ≤ n * ei.size := Nat.mul_le_mul_right _ hi'
    rw [Nat.succ_mul] at this
    omega
  have hmod : (i * ei.size + j) % z.cells.size = j := by rw [hzs, Nat.mul_comm, Nat.mul_add_mod, Nat.mod_eq_of_lt hjl]
  rw [Array.getElem?_map]
  simp only [Array.getElem?_range, hlt, if_true, Option.map_some, hmod]
  rw [getElem!_pos z.cells j (by omega)]
  rw [Array.getElem?_eq_getElem (by omega)] at e1
  exact e1

def qRows (T : Tab) (t len : Nat) (parts : List (Nat × D)) : Option (Nat × Nat × List (List D)) :=
  match T t with
  | some ⟨.slice e, _, _, _⟩ =>
    match T e with
    | some ei => if 0 < ei.size ∧ len * ei.size ≤ 16777216 then (rowsPut ei.size (List.replicate len (zeroD ei)) parts).map fun rows => (e, ei.size, rows) else none
    | none => none
  | _ => none

theorem qRows_ok (hT : TabOk P T) (hR : Rel E om) {t len e sz : Nat} {pd : List (Nat × D)} {pv : List (Nat × Value)} {rows : List (List D)} (h : qRows T t len pd = some (e, sz, rows)) (hl : pd.length = pv.length)
    (hp : ∀ (j n : Nat) (d : D), pd[j]? = some (n, d) → ∃ y, pv[j]? = some (n, y) ∧ Rd E d y) :
    ∃ cs, (∀ w : World, w = E.w → (Instr.buildSlice t len pv.toArray).run P w = .ok (.slice (some ⟨w.heap.size, 0, none⟩) rows.length rows.length) (w.alloc (.cells cs e))) ∧
      0 < sz ∧ (∀ r ∈ rows, r.length = sz) ∧ cs.size = rows.length * sz ∧ rows.length ≤ maxLen ∧ CellsR E rows.flatten cs := by
  unfold qRows at h
  split at h
  · rename_i e' _ _ _ ht
    split at h
    · rename_i ei he
      split at h
      · rename_i hc
        simp only [Option.map_eq_some_iff, Prod.mk.injEq] at h
        obtain ⟨rows', hr, rfl, rfl, rfl⟩ := h
        obtain ⟨z, hz1, hz2, _⟩ := (hT _ _ he).zeroValue (w := E.w)
        have hz0 := zeroRows_ok (E := E) (hT _ _ he) hz2 len
        obtain ⟨cs, s1, s2, s3, s4, s5⟩ := fillRows_ok hR ei.size pd pv (List.replicate len (zeroD ei)) rows' _ hl hp (by intro r hr; rw [List.eq_of_mem_replicate hr]; simp [zeroD, (hT _ _ he).len]) hz0 (by simp) hr
        simp only [List.length_replicate] at s5
        refine ⟨cs, ?_, hc.1, s4, s3, ?_, s2.cells s4⟩
        · rintro w rfl
          rw [s5]
          have hsmall : ¬ (len * ei.size > 2 ^ 24) := by omega
          by_cases h0 : len * ei.size = 0
          · have hl0 : len = 0 := by
              rcases Nat.mul_eq_zero.1 h0 with h | h
              · exact h
              · omega
            subst hl0
            have e0 : (Array.map (fun (x : Nat) => z.cells[x % z.cells.size]!) (Array.range (0 * ei.size))) = #[] := by simp
            rw [e0] at s1
            have e1 : Array.map (fun (_ : Nat) => (default : Value)) (Array.range 0) = #[] := by simp
            simp [Instr.buildSlice, run_underlying ((hT _ _ ht).slice rfl), (hT _ _ he).sizeOf, newRow]
            rw [e1, s1]
            simp
          · simp [Instr.buildSlice, run_underlying ((hT _ _ ht).slice rfl), (hT _ _ he).sizeOf, hsmall, h0, hz1, s1, newRow]
        · rw [s5]
          have : len ≤ len * ei.size := Nat.le_mul_of_pos_right _ hc.1
          simp only [maxLen]
          omega
      · simp at h
    · simp at h
  · simp at h

end
end Go.Proofs.Ytbpkppidbdhopaa.AWP
