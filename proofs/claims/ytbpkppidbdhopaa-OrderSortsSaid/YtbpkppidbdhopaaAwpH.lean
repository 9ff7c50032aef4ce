/- Part of a program logic over data: rules of the walk, each proved. -/
import Derived.Test.YtbpkppidbdhopaaAwpG
set_option linter.unusedSectionVars false
set_option linter.unusedVariables false
set_option linter.unusedSimpArgs false
namespace Go.Proofs.Ytbpkppidbdhopaa.AWP
open Go

section
variable {P : Program} {T : Tab} {E : Env} {om : List Ob}

/-- What an operation that makes or writes memory comes to. -/
def Eff (P : Program) (m : Sem Value) (E : Env) (om : List Ob) (d : D) (om' : List Ob) : Prop :=
  ∃ E' z, m.run P E.w = .ok z E'.w ∧ Ext E om E' om' ∧ Rel E' om' ∧ Rd E' d z

theorem ObR.keep {E' : Env} {om' : List Ob} (hR : Rel E om) (hx : Ext E om E' om') {k : Nat} {o : Ob} (hk : k < E.n) (h : ObR E k o)
    (hw : o.live = true → ∀ b, hb (E.g k) = some b → E'.w.heap[b]? = E.w.heap[b]? ∧ ¬ E'.A b) : ObR E' k o := by
  cases o with
  | var ty c =>
    obtain ⟨b, cs, h1, h2, h3, h4, h5⟩ := h
    obtain ⟨e1, e2⟩ := hw rfl b (by rw [h1]; rfl)
    exact ⟨b, cs, by rw [hx.g k hk]; exact h1, by rw [e1]; exact h2, e2, h4, h5.ext hR hx⟩
  | slc ty sz rows =>
    obtain ⟨h0, hs, h | ⟨b, cs, cap, h1, h2, h3, h4, h5, h6, h7⟩⟩ := h
    · exact ⟨h0, hs, .inl ⟨by rw [hx.g k hk]; exact h.1, h.2⟩⟩
    · obtain ⟨e1, e2⟩ := hw rfl b (by rw [h1]; rfl)
      exact ⟨h0, hs, .inr ⟨b, cs, cap, by rw [hx.g k hk]; exact h1, by rw [e1]; exact h2, e2, h4, h5, h6, h7.ext hR hx⟩⟩
  | frz sz rows => exact ⟨by rw [hx.g k hk]; exact h.1.ext hR hx, by rw [hx.g k hk]; exact h.2⟩
  | frv c => exact ⟨by rw [hx.g k hk]; exact h.1.ext hR hx, by rw [hx.g k hk]; exact h.2⟩
  | lp ps as bo st pe env =>
    obtain ⟨b, r, h1, h2, h3, h4, h5, h6, h7, h8, h9, h10⟩ := h
    obtain ⟨e1, e2⟩ := hw rfl b (by rw [h1]; rfl)
    exact ⟨b, r, by rw [hx.g k hk]; exact h1, by rw [e1]; exact h2, e2, h4, h5, h6, h7, h8, h9, fun t => (h10 t).ext hR hx⟩
  | dead => trivial

/-- One object more, in a new block (or in none). -/
def Env.push (E : Env) (h : Value) (w : World) : Env := ⟨E.n + 1, fun k => if k = E.n then h else E.g k, E.A, w⟩

theorem push_ok' {om0 : List Ob} (hR0 : Rel E om0) (hR : Rel E om) (hsub : ∀ b, Live E om b → Live E om0 b) (kb : Option Nat) (hkb : ∀ b, kb = some b → Live E om0 b ∧ ¬ Live E om b)
    (h : Value) (w' : World) (o : Ob) (h1 : h.oneCell' = true)
    (hsz : E.w.heap.size ≤ w'.heap.size) (hos : w'.os = E.w.os) (htp : w'.tape = E.w.tape) (hout : w'.output = E.w.output)
    (hold : ∀ b, b < E.w.heap.size → some b ≠ kb → w'.heap[b]? = E.w.heap[b]?)
    (hnew : ∀ b, o.live = true → hb h = some b → E.w.heap.size ≤ b ∨ kb = some b)
    (ho : Ext E om0 (E.push h w') (om ++ [o]) → ObR (E.push h w') E.n o) :
    Ext E om0 (E.push h w') (om ++ [o]) ∧ Rel (E.push h w') (om ++ [o]) ∧ Rd (E.push h w') (.own om.length) h ∧ (∀ b, hb h = some b → Rd (E.push h w') (.ref om.length 0) (.pointer (some ⟨b, 0, none⟩))) := by
  have hlen := hR.len
  have hg : ∀ k, k < E.n → (E.push h w').g k = E.g k := fun k hk => by simp [Env.push, Nat.ne_of_lt hk]
  have hgn : (E.push h w').g E.n = h := by simp [Env.push]
  have hx : Ext E om0 (E.push h w') (om ++ [o]) := by
    refine ⟨Nat.le_succ _, hg, fun b hA => hA, hsz, hos, htp, hout, fun b hb' hn => hold b hb' (fun e => hn (hkb b e.symm).1), ?_, fun b hA => .inl hA⟩
    rintro b ⟨k, o', hk, hlv, hbk⟩
    rw [List.getElem?_append] at hk
    split at hk
    · rename_i hlt
      rw [hg k (by omega)] at hbk
      exact .inl (hsub b ⟨k, o', hk, hlv, hbk⟩)
    · rename_i hge
      have hk0 : k = om.length := by
        have := (List.getElem?_eq_some_iff.1 hk).1
        simp at this
        omega
      subst hk0
      simp only [Nat.sub_self, List.getElem?_cons_zero, Option.some.injEq] at hk
      subst hk
      rw [hlen, hgn] at hbk
      rcases hnew b hlv hbk with h2 | h2
      · exact .inr h2
      · exact .inl (hkb b h2).1
  refine ⟨hx, ?_, ?_, ?_⟩
  · refine ⟨by simp [Env.push, hlen], fun k o' hk => ?_, fun k k' o1 o2 b hk hk' hl hl' hb1 hb2 => ?_, fun b hA => Nat.lt_of_lt_of_le (hR.old b hA) hsz, fun k hk => ?_⟩
    · rw [List.getElem?_append] at hk
      split at hk
      · rename_i hlt
        refine ObR.keep hR0 hx (by omega) (hR.ob k o' hk) fun hlv b hbk => ?_
        have hlive : Live E om b := ⟨k, o', hk, hlv, hbk⟩
        have := hR.live_lt hlive
        exact ⟨hold b this.1 (fun e => (hkb b e.symm).2 hlive), this.2⟩
      · have hk0 : k = om.length := by
          have := (List.getElem?_eq_some_iff.1 hk).1
          simp at this
          omega
        subst hk0
        simp only [Nat.sub_self, List.getElem?_cons_zero, Option.some.injEq] at hk
        subst hk
        rw [hlen]
        exact ho hx
    · have one : ∀ (k : Nat) (o1 : Ob), om[k]? = some o1 → o1.live = true → hb (E.g k) = some b → o.live = true → hb h = some b → False := by
        intro k o1 hk hl hb1 hlo hb2
        have hlive : Live E om b := ⟨k, o1, hk, hl, hb1⟩
        rcases hnew b hlo hb2 with e2 | e2
        · have := (hR.live_lt hlive).1; omega
        · exact (hkb b e2).2 hlive
      rw [List.getElem?_append] at hk hk'
      split at hk <;> split at hk'
      · rw [hg k (by omega)] at hb1
        rw [hg k' (by omega)] at hb2
        exact hR.inj k k' o1 o2 b hk hk' hl hl' hb1 hb2
      · have hk0 : k' = om.length := by
          have := (List.getElem?_eq_some_iff.1 hk').1
          simp at this
          omega
        subst hk0
        simp only [Nat.sub_self, List.getElem?_cons_zero, Option.some.injEq] at hk'
        subst hk'
        rw [hg k (by omega)] at hb1
        rw [hlen, hgn] at hb2
        exact (one k o1 hk hl hb1 hl' hb2).elim
      · have hk0 : k = om.length := by
          have := (List.getElem?_eq_some_iff.1 hk).1
          simp at this
          omega
        subst hk0
        simp only [Nat.sub_self, List.getElem?_cons_zero, Option.some.injEq] at hk
        subst hk
        rw [hg k' (by omega)] at hb2
        rw [hlen, hgn] at hb1
        exact (one k' o2 hk' hl' hb2 hl hb1).elim
      · have := (List.getElem?_eq_some_iff.1 hk).1
        have := (List.getElem?_eq_some_iff.1 hk').1
        simp at *
        omega
    · by_cases hkn : k = E.n
      · subst hkn; rw [hgn]; exact h1
      · have : k < E.n := by simp [Env.push] at hk; omega
        rw [hg k this]; exact hR.one k this
  · have := Rd.own (E := E.push h w') (k := om.length) (by simp [Env.push, hlen])
    rw [show (E.push h w').g om.length = h from by rw [hlen, hgn]] at this
    exact this
  · intro b hb'
    exact .ref (by simp [Env.push, hlen]) (by rw [hlen, hgn]; exact hb')

theorem push_ok (hR : Rel E om) (h : Value) (w' : World) (o : Ob) (h1 : h.oneCell' = true)
    (hsz : E.w.heap.size ≤ w'.heap.size) (hos : w'.os = E.w.os) (htp : w'.tape = E.w.tape) (hout : w'.output = E.w.output)
    (hold : ∀ b, b < E.w.heap.size → w'.heap[b]? = E.w.heap[b]?)
    (hnew : ∀ b, o.live = true → hb h = some b → E.w.heap.size ≤ b)
    (ho : Ext E om (E.push h w') (om ++ [o]) → ObR (E.push h w') E.n o) :
    Ext E om (E.push h w') (om ++ [o]) ∧ Rel (E.push h w') (om ++ [o]) ∧ Rd (E.push h w') (.own om.length) h ∧ (∀ b, hb h = some b → Rd (E.push h w') (.ref om.length 0) (.pointer (some ⟨b, 0, none⟩))) :=
  push_ok' hR hR (fun _ h => h) none (fun _ h => by cases h) h w' o h1 hsz hos htp hout (fun b hb' _ => hold b hb') (fun b h1 h2 => .inl (hnew b h1 h2)) ho

theorem heap_alloc_lt (w : World) (o : Obj) (b : Nat) (h : b < w.heap.size) : (w.alloc o).heap[b]? = w.heap[b]? := by
  show (w.heap.push o)[b]? = _
  rw [Array.getElem?_push, if_neg (by omega)]
theorem heap_alloc_at (w : World) (o : Obj) : (w.alloc o).heap[w.heap.size]? = some o := by
  show (w.heap.push o)[w.heap.size]? = _
  simp

/-- A new variable. -/
theorem newVar_ok (hR : Rel E om) (ty : Nat) {c : List D} {v : Value} (hs : v.cells.size = c.length) (hc : CellsR E c v.cells) :
    ∃ E', E'.w = E.w.alloc (.cells v.cells ty) ∧ Ext E om E' (om ++ [.var ty c]) ∧ Rel E' (om ++ [.var ty c]) ∧ Rd E' (.ref om.length 0) (.pointer (some ⟨E.w.heap.size, 0, none⟩)) := by
  obtain ⟨h1, h2, _, h4⟩ := push_ok hR (.pointer (some ⟨E.w.heap.size, 0, none⟩)) (E.w.alloc (.cells v.cells ty)) (.var ty c) rfl (by simp) rfl rfl rfl (fun b hb' => heap_alloc_lt _ _ _ hb')
    (fun b _ hb' => by simp only [hb, Option.some.injEq] at hb'; omega)
    (fun hx => ⟨E.w.heap.size, v.cells, by simp [Env.push], heap_alloc_at _ _, fun hA => by have := hR.old _ hA; omega, hs, hc.ext hR hx⟩)
  exact ⟨_, rfl, h1, h2, h4 _ rfl⟩

/-- A new row of one's own. -/
theorem newRow_ok (hR : Rel E om) (ty sz : Nat) (hsz : 0 < sz) {rows : List (List D)} (hr : ∀ r ∈ rows, r.length = sz) {cs : Array Value} (hs : cs.size = rows.length * sz) (hm : rows.length ≤ maxLen) (hc : CellsR E rows.flatten cs) :
    ∃ E', E'.w = E.w.alloc (.cells cs ty) ∧ Ext E om E' (om ++ [.slc ty sz rows]) ∧ Rel E' (om ++ [.slc ty sz rows]) ∧ Rd E' (.own om.length) (.slice (some ⟨E.w.heap.size, 0, none⟩) rows.length rows.length) := by
  obtain ⟨h1, h2, h3, _⟩ := push_ok hR (.slice (some ⟨E.w.heap.size, 0, none⟩) rows.length rows.length) (E.w.alloc (.cells cs ty)) (.slc ty sz rows) rfl (by simp) rfl rfl rfl (fun b hb' => heap_alloc_lt _ _ _ hb')
    (fun b _ hb' => by simp only [hb, Option.some.injEq] at hb'; omega)
    (fun hx => ⟨hsz, hr, .inr ⟨E.w.heap.size, cs, rows.length, by simp [Env.push], heap_alloc_at _ _, fun hA => by have := hR.old _ hA; omega, hs, Nat.le_refl _, hm, hc.ext hR hx⟩⟩)
  exact ⟨_, rfl, h1, h2, h3⟩

/-- A row that nobody writes. -/
theorem newImm_ok (hR : Rel E om) (ty sz : Nat) {rows : List (List D)} (hr : ∀ r ∈ rows, r.length = sz) {cs : Array Value} (hm : rows.length ≤ maxLen) (hc : CellsR E rows.flatten cs) :
    ∃ E', E'.w = E.w.alloc (.cells cs ty) ∧ Ext E om E' om ∧ Rel E' om ∧ Rd E' (.sl sz rows) (.slice (some ⟨E.w.heap.size, 0, none⟩) rows.length rows.length) := by
  refine ⟨⟨E.n, E.g, fun b => E.A b ∨ b = E.w.heap.size, E.w.alloc (.cells cs ty)⟩, rfl, ?_, ?_, ?_⟩
  case refine_1 => exact ⟨Nat.le_refl _, fun _ _ => rfl, fun _ => .inl, by simp, rfl, rfl, rfl, fun b hb' _ => heap_alloc_lt _ _ _ hb', fun b hl => .inl hl, fun b hA => hA.elim .inl fun e => .inr (.inr (by omega))⟩
  case refine_2 =>
    have hx : Ext E om ⟨E.n, E.g, fun b => E.A b ∨ b = E.w.heap.size, E.w.alloc (.cells cs ty)⟩ om := ⟨Nat.le_refl _, fun _ _ => rfl, fun _ => .inl, by simp, rfl, rfl, rfl, fun b hb' _ => heap_alloc_lt _ _ _ hb', fun b hl => .inl hl, fun b hA => hA.elim .inl fun e => .inr (.inr (by omega))⟩
    refine ⟨hR.len, fun k o hk => ?_, hR.inj, fun b hA => ?_, hR.one⟩
    · refine ObR.keep hR hx (by rw [← hR.len]; exact (List.getElem?_eq_some_iff.1 hk).1) (hR.ob k o hk) fun hlv b hbk => ?_
      have := hR.live_lt (b := b) ⟨k, o, hk, hlv, hbk⟩
      refine ⟨heap_alloc_lt _ _ _ this.1, ?_⟩
      rintro (h | h)
      · exact this.2 h
      · have := this.1; omega
    · rcases hA with hA | hA
      · have := hR.old b hA; simp; omega
      · simp [hA]
  case refine_3 =>
    have hx : Ext E om ⟨E.n, E.g, fun b => E.A b ∨ b = E.w.heap.size, E.w.alloc (.cells cs ty)⟩ om := ⟨Nat.le_refl _, fun _ _ => rfl, fun _ => .inl, by simp, rfl, rfl, rfl, fun b hb' _ => heap_alloc_lt _ _ _ hb', fun b hl => .inl hl, fun b hA => hA.elim .inl fun e => .inr (.inr (by omega))⟩
    refine Rd.sl_mk rfl hr (Nat.le_refl _) hm (.inr ⟨⟨E.w.heap.size, 0, none⟩, rfl, .inr rfl, fun i r hi j d hj => ?_⟩)
    obtain ⟨y, e1, e2, e3⟩ := hc _ d (flatten_get hr hi hj)
    refine ⟨y, ?_, e2, e3.ext hR hx⟩
    rw [add_mk, add_mk, cell_of_heap (heap_alloc_at _ _), Nat.zero_add]
    exact e1

/-! ### Literals -/
theorem foldl_set (l : List Value) : ∀ (n0 off : Nat) (cs : Array Value),
    ((l.zipIdx n0).foldl (fun (cs : Array Value) (x : Value × Nat) => cs.setIfInBounds (off + x.2) x.1) cs).size = cs.size ∧
    ∀ k, ((l.zipIdx n0).foldl (fun (cs : Array Value) (x : Value × Nat) => cs.setIfInBounds (off + x.2) x.1) cs)[k]? = if off + n0 ≤ k ∧ k < off + n0 + l.length ∧ k < cs.size then l[k - off - n0]? else cs[k]? := by
  induction l with
  | nil => intro n0 off cs; simp; intro k h1 h2; omega
  | cons x l ih =>
    intro n0 off cs
    simp only [List.zipIdx_cons, List.foldl_cons]
    obtain ⟨h1, h2⟩ := ih (n0 + 1) off (cs.setIfInBounds (off + n0) x)
    refine ⟨by rw [h1]; simp, fun k => ?_⟩
    rw [h2 k]
    simp only [Array.size_setIfInBounds, Array.getElem?_setIfInBounds, List.length_cons]
    by_cases e : k = off + n0
    · subst e
      rw [if_neg (by omega)]
      by_cases hlt : off + n0 < cs.size
      · have : off + n0 - off - n0 = 0 := by omega
        simp [hlt, this]
      · simp [hlt]
    · by_cases hc : off + (n0 + 1) ≤ k ∧ k < off + (n0 + 1) + l.length ∧ k < cs.size
      · rw [if_pos hc, if_pos (by omega)]
        have : k - off - n0 = (k - off - (n0 + 1)) + 1 := by omega
        rw [this, List.getElem?_cons_succ]
      · rw [if_neg hc, if_neg (fun h => e h.symm), if_neg (by omega)]

def splc {α : Type} (c : List α) (off : Nat) (cd : List α) : List α := c.take off ++ cd ++ c.drop (off + cd.length)

theorem splc_get {α : Type} (c : List α) (off : Nat) (cd : List α) (h : off + cd.length ≤ c.length) (k : Nat) : (splc c off cd)[k]? = if off ≤ k ∧ k < off + cd.length then cd[k - off]? else c[k]? := by
  unfold splc
  have ht : (c.take off).length = off := by simp; omega
  rw [List.append_assoc, List.getElem?_append]
  split
  · rename_i h1
    rw [if_neg (by omega), List.getElem?_take_of_lt (by omega)]
  · rename_i h1
    rw [ht] at h1 ⊢
    rw [List.getElem?_append]
    split
    · rename_i h2
      rw [if_pos (by omega)]
    · rename_i h2
      rw [if_neg (by omega), List.getElem?_drop]
      congr 1
      omega
theorem splc_length {α : Type} (c : List α) (off : Nat) (cd : List α) (h : off + cd.length ≤ c.length) : (splc c off cd).length = c.length := by
  simp [splc, List.length_take, List.length_drop]; omega

theorem CellsR.splc {c cd : List D} {cs vs : Array Value} {off : Nat} (h : CellsR E c cs) (hs : cs.size = c.length) (hv : CellsR E cd vs) (hvs : vs.size = cd.length) (hle : off + cd.length ≤ c.length) :
    CellsR E (splc c off cd) (vs.zipIdx.foldl (fun (cs : Array Value) (x : Value × Nat) => cs.setIfInBounds (off + x.2) x.1) cs) ∧ (vs.zipIdx.foldl (fun (cs : Array Value) (x : Value × Nat) => cs.setIfInBounds (off + x.2) x.1) cs).size = (AWP.splc c off cd).length := by
  have e : vs.zipIdx.foldl (fun (cs : Array Value) (x : Value × Nat) => cs.setIfInBounds (off + x.2) x.1) cs = (vs.toList.zipIdx 0).foldl (fun (cs : Array Value) (x : Value × Nat) => cs.setIfInBounds (off + x.2) x.1) cs := by
    rw [← Array.foldl_toList]
    simp
  rw [e]
  obtain ⟨h1, h2⟩ := foldl_set vs.toList 0 off cs
  refine ⟨fun k d hk => ?_, by rw [h1, splc_length _ _ _ hle, hs]⟩
  rw [splc_get _ _ _ hle] at hk
  rw [h2 k]
  simp only [Nat.add_zero, Nat.sub_zero, Array.length_toList]
  split at hk
  · rename_i hc
    rw [if_pos (by omega)]
    have := hv _ d hk
    simpa using this
  · rename_i hc
    rw [if_neg (by omega)]
    exact h k d hk

/-- A variable that nobody writes. -/
theorem newImmVar_ok (hR : Rel E om) (ty : Nat) {c : List D} {v : Value} (hs : v.cells.size = c.length) (hc : CellsR E c v.cells) :
    ∃ E', E'.w = E.w.alloc (.cells v.cells ty) ∧ Ext E om E' om ∧ Rel E' om ∧ Rd E' (.pel c) (.pointer (some ⟨E.w.heap.size, 0, none⟩)) := by
  have hx : Ext E om ⟨E.n, E.g, fun b => E.A b ∨ b = E.w.heap.size, E.w.alloc (.cells v.cells ty)⟩ om := ⟨Nat.le_refl _, fun _ _ => rfl, fun _ => .inl, by simp, rfl, rfl, rfl, fun b hb' _ => heap_alloc_lt _ _ _ hb', fun b hl => .inl hl, fun b hA => hA.elim .inl fun e => .inr (.inr (by omega))⟩
  refine ⟨⟨E.n, E.g, fun b => E.A b ∨ b = E.w.heap.size, E.w.alloc (.cells v.cells ty)⟩, rfl, hx, ?_, ?_⟩
  case refine_1 =>
    refine ⟨hR.len, fun k o hk => ?_, hR.inj, fun b hA => ?_, hR.one⟩
    · refine ObR.keep hR hx (by rw [← hR.len]; exact (List.getElem?_eq_some_iff.1 hk).1) (hR.ob k o hk) fun hlv b hbk => ?_
      have := hR.live_lt (b := b) ⟨k, o, hk, hlv, hbk⟩
      refine ⟨heap_alloc_lt _ _ _ this.1, ?_⟩
      rintro (h | h)
      · exact this.2 h
      · have := this.1; omega
    · rcases hA with hA | hA
      · have := hR.old b hA; simp; omega
      · simp [hA]
  case refine_2 =>
    refine Rd.pel_mk (.inr rfl) fun j d hj => ?_
    obtain ⟨y, e1, e2, e3⟩ := hc j d hj
    refine ⟨y, ?_, e2, e3.ext hR hx⟩
    rw [add_mk, cell_of_heap (heap_alloc_at _ _), Nat.zero_add]
    exact e1

end
end Go.Proofs.Ytbpkppidbdhopaa.AWP
