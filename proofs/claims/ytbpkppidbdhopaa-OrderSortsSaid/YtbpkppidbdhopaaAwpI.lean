/- Part of a program logic over data: rules of the walk, each proved. -/
import Derived.Test.YtbpkppidbdhopaaAwpH
import Derived.Maps.AppendAt
set_option linter.unusedSectionVars false
set_option linter.unusedVariables false
set_option linter.unusedSimpArgs false
namespace Go.Proofs.Ytbpkppidbdhopaa.AWP
open Go

section
variable {P : Program} {T : Tab} {E : Env} {om : List Ob}

theorem Rel.kill (hR : Rel E om) (k : Nat) : Rel E (om.set k .dead) ∧ (∀ b, Live E (om.set k .dead) b → Live E om b) := by
  have hget : ∀ j o, (om.set k .dead)[j]? = some o → (j = k ∧ o = .dead) ∨ (j ≠ k ∧ om[j]? = some o) := by
    intro j o h
    rw [List.getElem?_set] at h
    split at h
    · rename_i e
      split at h
      · simp only [Option.some.injEq] at h
        exact .inl ⟨e.symm, h.symm⟩
      · simp at h
    · rename_i e
      exact .inr ⟨fun h => e h.symm, h⟩
  refine ⟨⟨by simp [hR.len], fun j o hj => ?_, fun j j' o o' b hj hj' hl hl' h1 h2 => ?_, hR.old, hR.one⟩, ?_⟩
  · rcases hget j o hj with ⟨_, rfl⟩ | ⟨_, h⟩
    · trivial
    · exact hR.ob j o h
  · rcases hget j o hj with ⟨_, rfl⟩ | ⟨_, h⟩
    · simp [Ob.live] at hl
    · rcases hget j' o' hj' with ⟨_, rfl⟩ | ⟨_, h'⟩
      · simp [Ob.live] at hl'
      · exact hR.inj j j' o o' b h h' hl hl' h1 h2
  · rintro b ⟨j, o, hj, hl, hg⟩
    rcases hget j o hj with ⟨_, rfl⟩ | ⟨_, h⟩
    · simp [Ob.live] at hl
    · exact ⟨j, o, h, hl, hg⟩

theorem Rel.killed (hR : Rel E om) {k : Nat} {o : Ob} (hk : om[k]? = some o) (hl : o.live = true) {b : Nat} (hb' : hb (E.g k) = some b) : Live E om b ∧ ¬ Live E (om.set k .dead) b := by
  refine ⟨⟨k, o, hk, hl, hb'⟩, ?_⟩
  rintro ⟨j, o', hj, hl', hg⟩
  rw [List.getElem?_set] at hj
  split at hj
  · split at hj
    · simp only [Option.some.injEq] at hj
      subst hj
      simp [Ob.live] at hl'
    · simp at hj
  · rename_i e
    exact e (hR.inj k j o o' b hk hj hl hl' hb' hg)

/-! ### append -/
/-- The rows that a source hands over. -/
def srcRows (om : List Ob) (sz : Nat) (x : D) : Option (List (List D)) :=
  match rs om x with
  | .v (.slice none 0 _) => some []
  | .sl sz' rows => if sz' = sz then some rows else none
  | .own k =>
    match om[k]? with
    | some (.slc _ sz' rows) => if sz' = sz then some rows else none
    | _ => none
  | _ => none

/-- What a source's value holds. -/
theorem srcRows_ok (hR : Rel E om) {sz : Nat} {x : D} {rows : List (List D)} {y : Value} (h : srcRows om sz x = some rows) (hx : Rd E x y) :
    ∃ a m c, y = .slice a m c ∧ (∀ r ∈ rows, r.length = sz) ∧ ((rows = [] ∧ a = none ∧ m = 0) ∨ (m = rows.length ∧ (rows = [] ∨ ∃ ad, a = some ad ∧ ∀ i r, rows[i]? = some r → RowAt E r (ad.add (i * sz))))) := by
  have hx' := hx.rs hR
  unfold srcRows at h
  split at h
  · rename_i c e
    rw [e] at hx'
    have := hx'.v_inv
    simp only [Option.some.injEq] at h
    subst h
    exact ⟨_, _, _, this, by simp, .inl ⟨rfl, rfl, rfl⟩⟩
  · rename_i sz' rows' e
    rw [e] at hx'
    split at h
    · rename_i hs
      subst hs
      simp only [Option.some.injEq] at h
      subst h
      obtain ⟨a, cap, rfl, hs, _, _, h3⟩ := hx'.sl_inv
      exact ⟨_, _, _, rfl, hs, .inr ⟨rfl, h3.imp id fun ⟨ad, h1, _, h2⟩ => ⟨ad, h1, h2⟩⟩⟩
    · simp at h
  · rename_i k e
    rw [e] at hx'
    split at h
    · rename_i ty sz' rows' ho
      split at h
      · rename_i hs
        subst hs
        simp only [Option.some.injEq] at h
        subst h
        cases hx' with
        | own hk =>
          obtain ⟨h0, hs, h1 | ⟨b, cs, cap, h1, h2, h3, h4, h5, h6, h7⟩⟩ := hR.ob k _ ho
          · exact ⟨_, _, _, h1.1, hs, .inl ⟨h1.2, rfl, rfl⟩⟩
          · refine ⟨_, _, _, h1, hs, .inr ⟨rfl, .inr ⟨_, rfl, fun i r hi j d hj => ?_⟩⟩⟩
            obtain ⟨y, e1, e2, e3⟩ := h7 _ d (flatten_get hs hi hj)
            exact ⟨y, by rw [add_mk, add_mk, cell_of_heap h2, Nat.zero_add]; exact e1, e2, e3⟩
      · simp at h
    · simp at h
  · simp at h

theorem flatten_inv {rows : List (List D)} {sz : Nat} (hs : ∀ r ∈ rows, r.length = sz) : ∀ {k : Nat} {d : D}, rows.flatten[k]? = some d → ∃ i r j, rows[i]? = some r ∧ r[j]? = some d ∧ k = i * sz + j ∧ j < sz := by
  induction rows with
  | nil => intro k d h; simp at h
  | cons r0 rows ih =>
    intro k d h
    have h0 : r0.length = sz := hs r0 (by simp)
    simp only [List.flatten_cons] at h
    by_cases hk : k < r0.length
    · rw [List.getElem?_append_left hk] at h
      exact ⟨0, r0, k, by simp, h, by simp, by omega⟩
    · rw [List.getElem?_append_right (by omega)] at h
      obtain ⟨i, r, j, h1, h2, h3, h4⟩ := ih (fun r hr => hs r (by simp [hr])) h
      exact ⟨i + 1, r, j, by simpa using h1, h2, by rw [Nat.succ_mul]; omega, h4⟩

theorem flatten_length' {rows : List (List D)} {sz : Nat} (hs : ∀ r ∈ rows, r.length = sz) : rows.flatten.length = rows.length * sz := by
  induction rows with
  | nil => simp
  | cons r rows ih =>
    simp only [List.flatten_cons, List.length_append, List.length_cons, hs r (by simp), ih (fun r hr => hs r (by simp [hr])), Nat.succ_mul]
    omega

theorem CellsR.of_getD {c : List D} {cs : Array Value} (h : CellsR E c cs) {j : Nat} {d : D} (hj : c[j]? = some d) : Rd E d (cs.getD j undef) := by
  obtain ⟨y, h1, _, h3⟩ := h j d hj
  simpa [Array.getD_eq_getD_getElem?, h1] using h3

/-- append onto a slice of one's own, or onto none. -/
theorem append_ok (hT : TabOk P T) (hR : Rel E om) {t ty e : Nat} {i ei : TI} (ht : T t = some i) (hk : i.kd = .slice e) (he : T e = some ei) (hpos : 0 < ei.size)
    {x y : Value} {rows rows' : List (List D)} {src : D} {om' : List Ob}
    (hbase : (x = .slice none 0 0 ∧ rows = [] ∧ om' = om) ∨ ∃ k, x = E.g k ∧ om[k]? = some (.slc e ei.size rows) ∧ om' = om.set k .dead)
    (hsrc : srcRows om ei.size src = some rows') (hy : Rd E src y) (hroom : (rows.length + rows'.length) * ei.bytes ≤ 140737488355328) (hby : 0 < ei.bytes) :
    Eff P (Builtin.append_ #[t, t] ty #[x, y]) E om (.own om.length) (om' ++ [.slc e ei.size (rows ++ rows')]) := by
  have hu := (hT _ _ ht).slice hk
  obtain ⟨inf, z, hinf, hsize, hbytes, hzero, hz, _⟩ := (hT _ _ he).info
  have hzs : z.cells.size = ei.size := by rw [← (hT _ _ he).len, ← hz]; simp
  have hsum : rows.length + rows'.length ≤ 140737488355328 := Nat.le_trans (Nat.le_mul_of_pos_right _ hby) hroom
  -- the base as kit's word has it
  obtain ⟨xs, hxs, hown⟩ : ∃ xs : List Value, CellsR E rows.flatten xs.toArray ∧ E.w.ownsRow 0 e ei.size x rows.length xs := by
    rcases hbase with ⟨h1, h2, _⟩ | ⟨k, h1, h2, _⟩
    · refine ⟨[], by subst h2; intro j d hj; simp at hj, ?_⟩
      subst h1 h2
      exact ⟨by simp, .inl ⟨rfl, rfl⟩⟩
    · obtain ⟨_, hs, hh | ⟨b, cs, cap, q1, q2, q3, q4, q5, q6, q7⟩⟩ := hR.ob k _ h2
      · refine ⟨[], by rw [hh.2]; intro j d hj; simp at hj, ?_⟩
        rw [h1, hh.1, hh.2]
        exact ⟨by simp, .inl ⟨rfl, rfl⟩⟩
      · have hle : rows.length * ei.size ≤ cs.size := by rw [q4]; exact Nat.mul_le_mul_right _ q5
        refine ⟨cs.toList.take (rows.length * ei.size), fun j d hj => ?_, ?_⟩
        · obtain ⟨y, e1, e2, e3⟩ := q7 j d hj
          have hlt : j < rows.length * ei.size := by
            rw [← flatten_length' hs]
            exact (List.getElem?_eq_some_iff.1 hj).1
          refine ⟨y, ?_, e2, e3⟩
          simp only [List.getElem?_toArray, List.getElem?_take_of_lt hlt]
          simpa using e1
        · rw [h1, q1]
          exact ⟨by simp; omega, .inr ⟨b, cap, cs, rfl, Nat.zero_le _, q2, q5, q6, q4, rfl⟩⟩
  have hrs : ∀ r ∈ rows, r.length = ei.size := by
    rcases hbase with ⟨_, h2, _⟩ | ⟨k, h1, h2, _⟩
    · simp [h2]
    · exact (hR.ob k _ h2).2.1
  -- what the call yields
  obtain ⟨a, m, c, rfl, hs', hcase⟩ := srcRows_ok hR hsrc hy
  obtain ⟨v1, w1, news, hrun, hown1, hgrow, hnews, hblk⟩ : ∃ v1 w1 news, (Builtin.append_ #[t, t] ty #[x, .slice a m c]).run P E.w = .ok v1 w1 ∧ w1.ownsRow 0 e ei.size v1 (rows.length + rows'.length) (xs ++ news) ∧ E.w.grownBy w1 x.ownBlock ∧ CellsR E rows'.flatten news.toArray ∧ (v1.ownBlock = x.ownBlock ∨ v1.ownBlock = some E.w.heap.size) := by
    have nothing : rows' = [] → m = 0 → ∃ v1 w1 news, (Builtin.append_ #[t, t] ty #[x, .slice a m c]).run P E.w = .ok v1 w1 ∧ w1.ownsRow 0 e ei.size v1 (rows.length + rows'.length) (xs ++ news) ∧ E.w.grownBy w1 x.ownBlock ∧ CellsR E rows'.flatten news.toArray ∧ (v1.ownBlock = x.ownBlock ∨ v1.ownBlock = some E.w.heap.size) := by
      intro hr0 hm0
      subst hr0 hm0
      refine ⟨x, E.w, [], ?_, by simpa using hown, World.grownBy.refl _ _, by intro j d hj; simp at hj, .inl rfl⟩
      have hfirst : ∀ w : World, (Builtin.firstCells ei.size 0 (.slice a 0 c)).run P w = .ok #[] w := by
        intro w
        cases a with
        | none => simp [Builtin.firstCells]
        | some ad => simp [Builtin.firstCells, loadCells, loadCellsFrom]
      rcases hown.2 with ⟨rfl, _⟩ | ⟨g, cap, cur, rfl, _, _, hnc, _⟩
      · simp [Builtin.append_, run_underlying hu, (hT _ _ he).sizeOf, Builtin.lenOf, hfirst]
      · simp [Builtin.append_, run_underlying hu, (hT _ _ he).sizeOf, Builtin.lenOf, hnc, hfirst, storeCells]
    rcases hcase with ⟨hr0, ha, hm0⟩ | ⟨hm, hcase⟩
    · exact nothing hr0 hm0
    · rcases hcase with hr0 | ⟨ad, ha, hrow⟩
      · exact nothing hr0 (by rw [hm, hr0]; rfl)
      · subst ha hm
        have hlen' : rows'.flatten.length = rows'.length * ei.size := flatten_length' hs'
        have hnews : ∀ j d, rows'.flatten[j]? = some d → ∃ u, E.w.cell? (ad.add j) = some u ∧ u.oneCell' = true ∧ Rd E d u := by
          intro j d hj
          obtain ⟨i', r, j', h1, h2, h3, h4⟩ := flatten_inv hs' hj
          obtain ⟨u, e1, e2, e3⟩ := hrow i' r h1 j' d h2
          exact ⟨u, by rw [h3, ← add_add]; exact e1, e2, e3⟩
        refine (run_append_own_at (P := P) E.w 0 t ty e inf z ei.size ei.bytes hu hinf hzero hsize hbytes hzs hpos x rows.length xs hown ad rows'.length c
          ((List.range rows'.flatten.length).map fun j => (E.w.cell? (ad.add j)).getD undef) (by simp [hlen']) ?_ ?_ (by simp only [maxLen]; omega) hroom (Nat.zero_le _)).elim fun v1 ⟨w1, q1, q2, q3, _, q5⟩ => ⟨v1, w1, _, q1, q2, q3, ?_, q5⟩
        · intro j u hj
          simp only [List.getElem?_map, Option.map_eq_some_iff] at hj
          obtain ⟨j', hj', rfl⟩ := hj
          have hlt := (List.getElem?_eq_some_iff.1 hj').1
          simp only [List.length_range] at hlt
          rw [List.getElem?_range hlt] at hj'
          simp only [Option.some.injEq] at hj'
          subst hj'
          obtain ⟨u, e1, _⟩ := hnews j _ (List.getElem?_eq_getElem hlt)
          simp [e1]
        · intro u hu'
          simp only [List.mem_map, List.mem_range] at hu'
          obtain ⟨j, hlt, rfl⟩ := hu'
          obtain ⟨u, e1, e2, _⟩ := hnews j _ (List.getElem?_eq_getElem hlt)
          simp [e1, e2]
        · intro j d hj
          have hlt := (List.getElem?_eq_some_iff.1 hj).1
          obtain ⟨u, e1, e2, e3⟩ := hnews j d hj
          exact ⟨u, by rw [List.getElem?_toArray, List.getElem?_map, List.getElem?_range hlt]; simp [e1], e2, e3⟩
  -- the new object
  have hall : ∀ r ∈ rows ++ rows', r.length = ei.size := fun r hr => (List.mem_append.1 hr).elim (hrs r) (hs' r)
  have hcells : CellsR E (rows ++ rows').flatten (xs ++ news).toArray := by
    have hxl : xs.length = rows.flatten.length := by rw [flatten_length' hrs]; exact hown.1
    intro j d hj
    rw [List.flatten_append, List.getElem?_append] at hj
    split at hj
    · rename_i hlt
      obtain ⟨y, e1, e2⟩ := hxs j d hj
      simp only [List.getElem?_toArray] at e1
      exact ⟨y, by simp only [List.getElem?_toArray]; rw [List.getElem?_append_left (by omega)]; exact e1, e2⟩
    · rename_i hlt
      obtain ⟨y, e1, e2⟩ := hnews _ d hj
      simp only [List.getElem?_toArray] at e1
      exact ⟨y, by simp only [List.getElem?_toArray]; rw [List.getElem?_append_right (by omega), hxl]; exact e1, e2⟩
  have hone : v1.oneCell' = true := by
    rcases hown1.2 with ⟨rfl, _⟩ | ⟨g, cap, cur, rfl, _⟩ <;> rfl
  have hbv : ∀ b, hb v1 = some b → v1.ownBlock = some b := by
    intro b hb'
    rcases hown1.2 with ⟨rfl, _⟩ | ⟨g, cap, cur, rfl, _⟩
    · simp [hb] at hb'
    · simpa [hb, Value.ownBlock] using hb'
  have hOb : ∀ (om1 : List Ob), Ext E om (E.push v1 w1) om1 → (∀ b, v1.ownBlock = some b → ¬ E.A b) → ObR (E.push v1 w1) E.n (.slc e ei.size (rows ++ rows')) := by
    intro om1 hx hA
    refine ⟨hpos, hall, ?_⟩
    rcases hown1.2 with ⟨h1, h2⟩ | ⟨g, cap, cur, h1, _, h2, h3, h4, h5, h6⟩
    · refine .inl ⟨by simp [Env.push, h1], ?_⟩
      have e1 : rows = [] := List.eq_nil_of_length_eq_zero (by omega)
      have e2 : rows' = [] := List.eq_nil_of_length_eq_zero (by omega)
      simp [e1, e2]
    · refine .inr ⟨g, cur, cap, by simp [Env.push, h1], h2, hA g (by rw [h1]; rfl), h5, by simpa using h3, h4, ?_⟩
      intro j d hj
      obtain ⟨y, e1, e2, e3⟩ := hcells j d hj
      refine ⟨y, ?_, e2, e3.ext hR hx⟩
      simp only [List.getElem?_toArray] at e1
      rw [← h6, List.getElem?_take] at e1
      split at e1
      · simpa using e1
      · simp at e1
  rcases hbase with ⟨h1, h2, h3⟩ | ⟨k, h1, h2, h3⟩
  · subst h3
    have hxo : x.ownBlock = none := by rw [h1]; rfl
    obtain ⟨q1, q2, q3, _⟩ := push_ok hR v1 w1 (.slc e ei.size (rows ++ rows')) hone hgrow.size hgrow.os hgrow.tape hgrow.output (fun b hb' => hgrow.block b hb' (by rw [hxo]; simp))
      (fun b _ hb' => by
        have := hbv b hb'
        rw [hxo] at hblk
        rcases hblk with hh | hh
        · rw [this] at hh; simp at hh
        · rw [this] at hh; simp only [Option.some.injEq] at hh; omega)
      (fun hx => hOb _ hx (fun b hb' hA => by
        rw [hxo] at hblk
        rcases hblk with hh | hh
        · rw [hb'] at hh; simp at hh
        · rw [hb'] at hh; simp only [Option.some.injEq] at hh
          have := hR.old b hA
          omega))
    exact ⟨_, v1, hrun, q1, q2, q3⟩
  · subst h3
    obtain ⟨hR', hsub⟩ := hR.kill k
    have hxb : ∀ b, x.ownBlock = some b → hb (E.g k) = some b := by
      intro b hb'
      rw [h1] at hb'
      obtain ⟨_, _, hh | ⟨b', cs, cap, q1, _⟩⟩ := hR.ob k _ h2
      · rw [hh.1] at hb'; simp [Value.ownBlock] at hb'
      · rw [q1] at hb' ⊢; simpa [hb, Value.ownBlock] using hb'
    obtain ⟨q1, q2, q3, _⟩ := push_ok' hR hR' hsub x.ownBlock (fun b hb' => hR.killed h2 rfl (hxb b hb')) v1 w1 (.slc e ei.size (rows ++ rows')) hone hgrow.size hgrow.os hgrow.tape hgrow.output (fun b hb' hne => hgrow.block b hb' hne)
      (fun b _ hb' => by
        have := hbv b hb'
        rcases hblk with hh | hh
        · exact .inr (by rw [← hh]; exact this)
        · rw [this] at hh; simp only [Option.some.injEq] at hh; exact .inl (by omega))
      (fun hx => hOb _ hx (fun b hb' hA => by
        rcases hblk with hh | hh
        · have := (hR.live_lt (hR.killed h2 rfl (hxb b (by rw [← hh]; exact hb'))).1).2
          exact this hA
        · rw [hb'] at hh; simp only [Option.some.injEq] at hh
          have := hR.old b hA
          omega))
    have hl : (om.set k Ob.dead).length = om.length := by simp
    rw [hl] at q3
    exact ⟨_, v1, hrun, q1, q2, q3⟩

end
end Go.Proofs.Ytbpkppidbdhopaa.AWP
