/- Part of a program logic over data: rules of the walk, each proved. -/
import Derived.Test.YtbpkppidbdhopaaAwpC
set_option linter.unusedSectionVars false
set_option linter.unusedVariables false
set_option linter.unusedSimpArgs false
namespace Go.Proofs.Ytbpkppidbdhopaa.AWP
open Go

section
variable {P : Program} {T : Tab} {E : Env} {om : List Ob}

/-! ### Loads -/
def qLoad (T : Tab) (om : List Ob) (ty : Nat) (x : D) : Option D :=
  match T ty with
  | none => none
  | some i =>
    match rdRow om x with
    | none => none
    | some row => if i.kd.agg then (if i.size ≤ row.length then some (.agg (row.take i.size)) else none) else row[0]?

theorem loadVar_ok {ty : Nat} {i : TI} (hi : TIok P ty i) {row : List D} {ad : Addr} (h : RowAt E row ad) {d : D}
    (hd : (if i.kd.agg then (if i.size ≤ row.length then some (.agg (row.take i.size)) else none) else row[0]?) = some d) :
    ∃ z, (loadVar ty ad).run P E.w = .ok z E.w ∧ Rd E d z := by
  unfold loadVar
  simp only [Sem.run_bind, hi.isAgg, Result.andThen_ok]
  cases hk : i.kd.agg with
  | true =>
    simp only [hk, if_true] at hd
    split at hd
    · rename_i hl
      simp only [Option.some.injEq] at hd
      subst hd
      have hj : ∀ j, j < i.size → ∃ dd, row[j]? = some dd := fun j hj => ⟨row[j]'(by omega), List.getElem?_eq_getElem (by omega)⟩
      have hf : ∀ j, j < i.size → E.w.cell? (ad.add j) = some ((E.w.cell? (ad.add j)).getD undef) := by
        intro j hj'
        obtain ⟨dd, hdd⟩ := hj j hj'
        obtain ⟨u, h1, _⟩ := h j dd hdd
        simp [h1]
      have := run_loadCells (P := P) E.w ad i.size (fun j => (E.w.cell? (ad.add j)).getD undef) hf
      refine ⟨.agg ((List.range i.size).map fun j => (E.w.cell? (ad.add j)).getD undef).toArray, ?_, ?_⟩
      · simp only [if_true, Sem.run_bind, hi.sizeOf, Result.andThen_ok, this, Sem.run_pure]
      · refine .agg _ (by simp [List.length_take]; omega) (fun j hj' => ?_) (fun j dd hdd => ?_)
        · have hlt : j < i.size := by simpa using hj'
          obtain ⟨dd, hdd⟩ := hj j hlt
          obtain ⟨u, h1, h2, _⟩ := h j dd hdd
          simp [Array.getD, hlt, h1, h2]
        · have hlt : j < i.size := by
            have := (List.getElem?_eq_some_iff.1 hdd).1
            simp only [List.length_take] at this
            omega
          rw [List.getElem?_take_of_lt hlt] at hdd
          obtain ⟨u, h1, h2, h3⟩ := h j dd hdd
          simpa [Array.getD, hlt, h1] using h3
    · simp at hd
  | false =>
    simp only [hk, Bool.false_eq_true, if_false] at hd
    obtain ⟨u, h1, h2, h3⟩ := h 0 d hd
    refine ⟨u, ?_, h3⟩
    have : ad.add 0 = ad := by simp [Addr.add]
    rw [this] at h1
    simp [h1]

theorem qLoad_ok (hT : TabOk P T) (hR : Rel E om) {ty : Nat} {x d : D} {y : Value} (h : qLoad T om ty x = some d) (hx : Rd E x y) :
    ∃ z, (Instr.loadAt ty y).run P E.w = .ok z E.w ∧ Rd E d z := by
  unfold qLoad at h
  cases ht : T ty with
  | none => simp [ht] at h
  | some i =>
    cases hr : rdRow om x with
    | none => simp [ht, hr] at h
    | some row =>
      simp only [ht, hr] at h
      obtain ⟨ad, rfl, hrow⟩ := rdRow_ok hR hr hx
      obtain ⟨z, h1, h2⟩ := loadVar_ok (hT _ _ ht) hrow h
      exact ⟨z, by simp [Instr.loadAt, Instr.sureAddr, h1], h2⟩

/-! ### Places -/
def shiftPtr : D → Nat → Option D
  | .pel row, n => some (.pel (row.drop n))
  | .ref k off, n => some (.ref k (off + n))
  | .rel k sz i j, n => some (.rel k sz i (j + n))
  | _, _ => none

theorem shiftPtr_ok {x d : D} {y : Value} {n : Nat} (h : shiftPtr x n = some d) (hx : Rd E x y) : ∃ ad, y = .pointer (some ad) ∧ Rd E d (.pointer (some (ad.add n))) := by
  cases x <;> simp only [shiftPtr, Option.some.injEq, reduceCtorEq] at h
  · subst h
    obtain ⟨ad, rfl, hA, hrow⟩ := hx.pel_inv
    exact ⟨ad, rfl, Rd.pel_mk (by rw [add_block]; exact hA) (hrow.drop n)⟩
  · subst h
    cases hx with
    | ref hk hg => exact ⟨_, rfl, by rw [add_mk]; exact .ref hk hg⟩
  · subst h
    cases hx with
    | rel hk hg => exact ⟨_, rfl, by rw [add_mk, Nat.add_assoc]; exact .rel hk hg⟩

def qFieldAddr (T : Tab) (t : Nat) (x : D) (f : Nat) : Option D :=
  match T t with
  | some ⟨.struct fs, _, _, _⟩ =>
    match fs[f]? with
    | some (off, ft) =>
      match T ft with
      | some fi => if fi.size = 0 then none else shiftPtr x off
      | none => none
    | none => none
  | _ => none

theorem qFieldAddr_ok (hT : TabOk P T) {t f : Nat} {x d : D} {y : Value} (h : qFieldAddr T t x f = some d) (hx : Rd E x y) :
    ∃ z, (Instr.fieldAt t y f).run P E.w = .ok z E.w ∧ Rd E d z := by
  unfold qFieldAddr at h
  split at h
  · rename_i fs _ _ _ ht
    obtain ⟨l, hu, hl⟩ := (hT _ _ ht).struct rfl
    split at h
    · rename_i off ft hf
      split at h
      · rename_i fi hft
        split at h
        · simp at h
        · rename_i hsz
          obtain ⟨ad, rfl, hd⟩ := shiftPtr_ok h hx
          rw [← hl] at hf
          simp only [List.getElem?_map, Option.map_eq_some_iff, Array.getElem?_toList, Prod.mk.injEq] at hf
          obtain ⟨fd, hfd, rfl, rfl⟩ := hf
          refine ⟨_, ?_, hd⟩
          unfold Instr.fieldAt fieldPlace
          simp [run_underlying hu, hfd, Instr.sureAddr, (hT _ _ hft).sizeOf, hsz]
      · simp at h
    · simp at h
  · simp at h

def qIndexAddr (T : Tab) (om : List Ob) (t : Nat) (x i : D) : Option D :=
  match i with
  | .v (.int _ n) =>
    match T t with
    | some ⟨.slice e, _, _, _⟩ =>
      match T e with
      | some ei =>
        match x with
        | .sl sz rows => if sz = ei.size ∧ 0 ≤ n then (rows[n.toNat]?).map .pel else none
        | .own k =>
          match om[k]? with
          | some (.slc _ sz rows) => if sz = ei.size ∧ 0 ≤ n then (rows[n.toNat]?).map fun _ => .rel k sz n.toNat 0 else none
          | some (.frz sz rows) => if sz = ei.size ∧ 0 ≤ n then (rows[n.toNat]?).map fun _ => .rel k sz n.toNat 0 else none
          | _ => none
        | _ => none
      | none => none
    | some ⟨.arr len e, _, _, _⟩ =>
      match T e with
      | some ei => if 0 ≤ n ∧ n < len then shiftPtr x (n.toNat * ei.size) else none
      | none => none
    | _ => none
  | _ => none

theorem qIndexAddr_ok (hT : TabOk P T) (hR : Rel E om) {t : Nat} {x i d : D} {y yi : Value} (h : qIndexAddr T om t x i = some d) (hx : Rd E x y) (hi : Rd E i yi) :
    ∃ z, (Instr.indexAt t y yi).run P E.w = .ok z E.w ∧ Rd E d z := by
  unfold qIndexAddr at h
  split at h
  · rename_i kk n
    cases hi.v_inv
    split at h
    · rename_i e _ _ _ ht
      have hu := (hT _ _ ht).slice rfl
      have hel : P.elem t = e := by simp [Program.elem, hu]
      have hu' : P.underlying t = some (.slice (P.elem t)) := by rw [hel]; exact hu
      split at h
      · rename_i ei he
        split at h
        · rename_i sz rows
          split at h
          · rename_i hc
            obtain ⟨hsz, h0⟩ := hc
            simp only [Option.map_eq_some_iff] at h
            obtain ⟨r, hr, rfl⟩ := h
            have hlt := (List.getElem?_eq_some_iff.1 hr).1
            obtain ⟨a, cap, rfl, hs, hl, hm, h3⟩ := hx.sl_inv
            rcases h3 with h3 | ⟨ad, rfl, hA, h3⟩
            · subst h3; simp at hr
            · refine ⟨.pointer (some (ad.add (n.toNat * ei.size))), ?_, ?_⟩
              · rw [run_indexAt_slice E.w t ad _ cap kk n hu', if_pos ⟨h0, by omega⟩, hel, (hT _ _ he).sizeOf]
                rfl
              · rw [← hsz]
                exact Rd.pel_mk (by rw [add_block]; exact hA) (h3 _ _ hr)
          · simp at h
        · rename_i k
          have key : ∀ (sz : Nat) (rows : List (List D)), (sz = ei.size ∧ 0 ≤ n) → (rows[n.toNat]?).map (fun _ => D.rel k sz n.toNat 0) = some d → (rows = [] ∨ ∃ b cap, E.g k = .slice (some ⟨b, 0, none⟩) rows.length cap) →
              ∃ z, (Instr.indexAt t y (.int kk n)).run P E.w = .ok z E.w ∧ Rd E d z := by
            intro sz rows hc hrow hg
            simp only [Option.map_eq_some_iff] at hrow
            obtain ⟨r, hr, rfl⟩ := hrow
            have hlt := (List.getElem?_eq_some_iff.1 hr).1
            rcases hg with hg | ⟨b, cap, hg⟩
            · subst hg; simp at hr
            · cases hx with
              | own hk =>
                refine ⟨.pointer (some ((⟨b, 0, none⟩ : Addr).add (n.toNat * ei.size))), ?_, ?_⟩
                · rw [hg, run_indexAt_slice E.w t _ _ cap kk n hu', if_pos ⟨hc.2, by omega⟩, hel, (hT _ _ he).sizeOf]
                  rfl
                · rw [add_mk, Nat.zero_add, ← hc.1]
                  exact .rel hk (by rw [hg]; rfl)
          split at h
          · rename_i ty sz rows ho
            split at h
            · rename_i hc
              obtain ⟨_, _, h1⟩ := hR.ob k _ ho
              exact key sz rows hc h (h1.imp And.right fun ⟨b, cs, cap, h2, _⟩ => ⟨b, cap, h2⟩)
            · simp at h
          · rename_i sz rows ho
            split at h
            · rename_i hc
              exact key sz rows hc h (hR.ob k _ ho).2
            · simp at h
          · simp at h
        · simp at h
      · simp at h
    · rename_i len e _ _ _ ht
      have hu := (hT _ _ ht).arr rfl
      have hel : P.elem t = e := by simp [Program.elem, hu]
      have hal : P.arrayLen t = len := by simp [Program.arrayLen, hu]
      have hu' : P.underlying t = some (.array (P.arrayLen t) (P.elem t)) := by rw [hel, hal]; exact hu
      split at h
      · rename_i ei he
        split at h
        · rename_i hc
          obtain ⟨ad, rfl, hd⟩ := shiftPtr_ok h hx
          refine ⟨_, ?_, hd⟩
          rw [run_indexAt_array E.w t ad kk n hu', if_pos (by rw [hal]; exact hc), hel, (hT _ _ he).sizeOf]
          rfl
        · simp at h
      · simp at h
    · simp at h
  · simp at h

/-! ### Parts of values -/
theorem part_ok (hT : TabOk P T) {t : Nat} {i : TI} (hi : T t = some i) {c : List D} {vs : Array Value} {off : Nat} {d : D}
    (hs : vs.size = c.length) (h1 : ∀ j, j < vs.size → (vs.getD j undef).oneCell' = true) (hd : ∀ (j : Nat) (d : D), c[j]? = some d → Rd E d (vs.getD j undef))
    (h : (if i.kd.agg then (if off + i.size ≤ c.length then some (.agg ((c.drop off).take i.size)) else none) else c[off]?) = some d) :
    ∃ z, (part t vs off).run P E.w = .ok z E.w ∧ Rd E d z := by
  unfold part
  simp only [Sem.run_bind, (hT _ _ hi).isAgg, Result.andThen_ok]
  cases hk : i.kd.agg with
  | true =>
    simp only [hk, if_true] at h
    split at h
    · rename_i hl
      simp only [Option.some.injEq] at h
      subst h
      refine ⟨.agg (vs.extract off (off + i.size)), by simp [(hT _ _ hi).sizeOf], ?_⟩
      have hget : ∀ j, j < i.size → (vs.extract off (off + i.size)).getD j undef = vs.getD (off + j) undef := by
        intro j hj
        have h2 : j < (vs.extract off (off + i.size)).size := by simp; omega
        have h3 : off + j < vs.size := by omega
        simp only [Array.getD, h2, h3, dif_pos, dite_true]
        simp [h3]
      refine .agg _ (by simp [List.length_take, List.length_drop]; omega) (fun j hj => ?_) (fun j dd hdd => ?_)
      · have hj' : j < i.size := by simp at hj; omega
        rw [hget j hj']
        exact h1 _ (by omega)
      · have hj' : j < i.size := by
          have := (List.getElem?_eq_some_iff.1 hdd).1
          simp only [List.length_take] at this
          omega
        rw [List.getElem?_take_of_lt hj', List.getElem?_drop] at hdd
        rw [hget j hj']
        exact hd _ _ hdd
    · simp at h
  | false =>
    simp only [hk, Bool.false_eq_true, if_false] at h
    have hlt := (List.getElem?_eq_some_iff.1 h).1
    have hlt' : off < vs.size := by omega
    refine ⟨vs[off], by simp [hlt'], ?_⟩
    have := hd _ _ h
    simpa [Array.getD, hlt'] using this

def qField (T : Tab) (t : Nat) (x : D) (f : Nat) : Option D :=
  match T t, x with
  | some ⟨.struct fs, _, _, _⟩, .agg c =>
    match fs[f]? with
    | some (off, ft) =>
      match T ft with
      | some i => if i.kd.agg then (if off + i.size ≤ c.length then some (.agg ((c.drop off).take i.size)) else none) else c[off]?
      | none => none
    | none => none
  | _, _ => none

theorem Rd.agg_inv {c : List D} {y : Value} (h : Rd E (.agg c) y) : ∃ vs : Array Value, y = .agg vs ∧ vs.size = c.length ∧ (∀ j, j < vs.size → (vs.getD j undef).oneCell' = true) ∧ ∀ (j : Nat) (d : D), c[j]? = some d → Rd E d (vs.getD j undef) := by
  cases h with
  | agg vs hs h1 hd => exact ⟨vs, rfl, hs, h1, hd⟩

theorem qField_ok (hT : TabOk P T) {t f : Nat} {x d : D} {y : Value} (h : qField T t x f = some d) (hx : Rd E x y) :
    ∃ z, (Instr.field t y f).run P E.w = .ok z E.w ∧ Rd E d z := by
  unfold qField at h
  split at h
  · rename_i fs _ _ _ c ht
    obtain ⟨l, hu, hl⟩ := (hT _ _ ht).struct rfl
    obtain ⟨vs, rfl, hs, h1, hd⟩ := hx.agg_inv
    split at h
    · rename_i off ft hf
      split at h
      · rename_i i hft
        rw [← hl] at hf
        simp only [List.getElem?_map, Option.map_eq_some_iff, Array.getElem?_toList, Prod.mk.injEq] at hf
        obtain ⟨fd, hfd, rfl, rfl⟩ := hf
        obtain ⟨z, h2, h3⟩ := part_ok hT hft hs h1 hd h
        exact ⟨z, by simp [Instr.field, run_underlying hu, hfd, asAgg, h2], h3⟩
      · simp at h
    · simp at h
  · simp at h

def qIndex (T : Tab) (t : Nat) (x i : D) : Option D :=
  match i with
  | .v (.int _ n) =>
    match T t, x with
    | some ⟨.str, _, _, _⟩, .v (.string s) => if 0 ≤ n then (s.data[n.toNat]?).map fun b => .v (.int .u8 b.toNat) else none
    | some ⟨.arr len e, _, _, _⟩, .agg c =>
      match T e with
      | some ei => if 0 ≤ n ∧ n < len then (if ei.kd.agg then (if n.toNat * ei.size + ei.size ≤ c.length then some (.agg ((c.drop (n.toNat * ei.size)).take ei.size)) else none) else c[n.toNat * ei.size]?) else none
      | none => none
    | _, _ => none
  | _ => none

theorem qIndex_ok (hT : TabOk P T) {t : Nat} {x i d : D} {y yi : Value} (h : qIndex T t x i = some d) (hx : Rd E x y) (hi : Rd E i yi) :
    ∃ z, (Instr.index t y yi).run P E.w = .ok z E.w ∧ Rd E d z := by
  unfold qIndex at h
  split at h
  · rename_i kk n
    cases hi.v_inv
    split at h
    · rename_i s ht
      cases hx.v_inv
      split at h
      · rename_i h0
        simp only [Option.map_eq_some_iff] at h
        obtain ⟨b, hb, rfl⟩ := h
        refine ⟨.int .u8 b.toNat, ?_, .v _⟩
        have hlt := (Array.getElem?_eq_some_iff.1 hb).1
        have hg : s[n.toNat]? = some b := by
          have : n.toNat < s.size := hlt
          rw [getElem?_pos s n.toNat this]
          rw [Array.getElem?_eq_getElem hlt] at hb
          exact hb
        simp [Instr.index, asIntOf, run_underlying ((hT _ _ ht).str rfl), h0, hg]
      · simp at h
    · rename_i len e _ _ _ c ht
      obtain ⟨vs, rfl, hs, h1, hd⟩ := hx.agg_inv
      split at h
      · rename_i ei he
        split at h
        · rename_i hc
          obtain ⟨z, h2, h3⟩ := part_ok hT he hs h1 hd h
          exact ⟨z, by simp [Instr.index, asIntOf, run_underlying ((hT _ _ ht).arr rfl), hc, (hT _ _ he).sizeOf, h2], h3⟩
        · simp at h
      · simp at h
    · simp at h
  · simp at h

def qLen (T : Tab) (om : List Ob) (t : Nat) (x : D) : Option D :=
  match T t with
  | some ⟨.str, _, _, _⟩ =>
    match x with
    | .v (.string s) => some (.v (.int .i64 s.size))
    | _ => none
  | some ⟨.arr n _, _, _, _⟩ => some (.v (.int .i64 n))
  | some ⟨.slice _, _, _, _⟩ =>
    match x with
    | .v (.slice _ n _) => some (.v (.int .i64 n))
    | .sl _ rows => some (.v (.int .i64 rows.length))
    | .own k =>
      match om[k]? with
      | some (.slc _ _ rows) => some (.v (.int .i64 rows.length))
      | some (.frz _ rows) => some (.v (.int .i64 rows.length))
      | _ => none
    | _ => none
  | _ => none

end
end Go.Proofs.Ytbpkppidbdhopaa.AWP
