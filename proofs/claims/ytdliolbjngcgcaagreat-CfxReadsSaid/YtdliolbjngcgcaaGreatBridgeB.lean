/- Rows of things that are read one by one. -/
import Derived.Test.YtdliolbjngcgcaaGreatBridgeA
set_option linter.unusedVariables false
set_option linter.unusedSimpArgs false
set_option linter.unusedSectionVars false
/- Rows of things that are read one by one. -/
namespace Go.Proofs.YtdliolbjngcgcaaGreat.AWP
open Go Go.ChangeShapes Go.WideShapes Go.ChangeAt Go.RowKit
section
variable {H : Type} {enc : TypeId × Value → H} {P : Program} {W : World} {sp : Nat → Bool} {hd : Bool}
theorem slice_read {α : Type} {c : α → List D} {tE tS : TypeId} {sz : Nat} (hS : P.underlying tS = some (.slice tE)) (hcE : P.cellsOf tE = sz) (hsz : 0 < sz) (hc : ∀ a, (c a).length = sz) (Q : α → DataW H → Prop) {n : Nat}
    (ih : ∀ m, m < n → ∀ cs x, DataW.trod enc P W 0 sp hd m tE cs = some x → ∃ a : α, CellsL (envAt W) cs (c a) ∧ Q a x.1) {cs : List Value} {x : DataW H × List MemPlace}
    (hx : DataW.trod enc P W 0 sp hd n tS cs = some x) : ∃ (l : List α) (y : Value), cs = [y] ∧ y.oneCell' = true ∧ Rd (envAt W) (.sl sz (l.map c)) y ∧
      ((l = [] ∧ x.1 = .nil) ∨ ∃ ds rest, x.1 = .slice ds rest ∧ ds.length = l.length ∧ ∀ (i : Nat) (a : α) (d : DataW H), l[i]? = some a → ds[i]? = some d → Q a d) := by
  rcases DataW.trod_slice hS hx with ⟨rfl, rfl⟩ | ⟨a, len, cap, elems, rest, m, rfl, rfl, rfl, hb, hl, hm, hlen, hel, _, _⟩
  · exact ⟨[], _, rfl, rfl, Rd.sl (rows := []) ⟨0, 0, none⟩ (fun _ => .nilFunc) (by simp) (Nat.le_refl _) (Nat.zero_le _) (.inl rfl) (by simp) (by simp), .inl ⟨rfl, rfl⟩⟩
  · obtain ⟨ks, h1, h2⟩ := pick_list (α := α) (p := fun i r => (∀ (j : Nat) (d : D), (c r)[j]? = some d → ∃ u, W.cell? ((a.add (i * sz)).add j) = some u ∧ u.oneCell' = true ∧ Rd (envAt W) d u) ∧ (∀ e, elems[i]? = some e → Q r e.1)) len (fun i hi => by
      have e := hel i hi
      rw [List.getElem?_eq_getElem (by omega)] at e
      obtain ⟨cs', e1, e2⟩ := Option.bind_eq_some_iff.1 e
      obtain ⟨r, ⟨hr1, hr2⟩, hr3⟩ := ih m (by omega) cs' _ e2
      obtain ⟨_, q2, q3⟩ := World.cells?_some e1
      refine ⟨r, fun j d hj => ?_, fun e he => ?_⟩
      · obtain ⟨y, y1, y2, y3⟩ := hr2 j d hj
        have hj6 : j < P.cellsOf tE := by
          have := (List.getElem?_eq_some_iff.1 y1).1
          rw [hcE, ← hc r, ← hr1]
          exact this
        exact ⟨y, by rw [← y1, ← q3 j hj6, hcE], y2, y3⟩
      · rw [List.getElem?_eq_getElem (by omega)] at he
        cases he
        exact hr3)
    refine ⟨ks, _, rfl, rfl, ?_, .inr ⟨_, _, rfl, by rw [List.length_map]; omega, fun i r d hr hd => ?_⟩⟩
    · refine Rd.sl_mk (by simp [h1]) (fun r hr => ?_) (by simp [h1]; exact hl) hm ?_
      · obtain ⟨x, _, rfl⟩ := List.mem_map.1 hr
        exact hc x
      · rcases Nat.eq_zero_or_pos len with h0 | h0
        · left
          simp [List.eq_nil_of_length_eq_zero (h1.trans h0)]
        · right
          refine ⟨a, rfl, ?_, fun i r hi j d hj => ?_⟩
          · obtain ⟨r0, hr0⟩ := get_ex (l := ks) (i := 0) (by omega)
            obtain ⟨d0, hd0⟩ := get_ex (l := c r0) (i := 0) (by rw [hc]; exact hsz)
            obtain ⟨u, hu, _⟩ := (h2 0 r0 hr0).1 0 d0 hd0
            have := cell_lt hu
            rw [add_block, add_block] at this
            exact this
          · simp only [List.getElem?_map, Option.map_eq_some_iff] at hi
            obtain ⟨r0, hr0, rfl⟩ := hi
            exact (h2 i r0 hr0).1 j d hj
    · rw [List.getElem?_map, Option.map_eq_some_iff] at hd
      obtain ⟨e, he, rfl⟩ := hd
      exact (h2 i r hr).2 e he
/-- A text, a whole number in a cell. -/
theorem str_read {t : TypeId} (ht : P.underlying t = some .string) {n : Nat} {cs : List Value} {x : DataW H × List MemPlace} (hx : DataW.trod enc P W 0 sp hd n t cs = some x) :
    ∃ s : ByteArray, CellsL (envAt W) cs [.s s] ∧ x.1 = .lit (.string s.data.toList) := by
  obtain ⟨s, rfl, rfl, _⟩ := DataW.trod_string ht hx
  refine ⟨s, ⟨rfl, fun j d hj => ?_⟩, rfl⟩
  match j, hj with
  | 0, hj => simp at hj; subst hj; exact ⟨_, rfl, rfl, .v _⟩
  | j + 1, hj => simp at hj
theorem CellsL.append {E : Env} {cs cs' : List Value} {c c' : List D} (h : CellsL E cs c) (h' : CellsL E cs' c') : CellsL E (cs ++ cs') (c ++ c') := by
  refine ⟨by simp [h.1, h'.1], fun j d hj => ?_⟩
  rw [List.getElem?_append] at hj
  split at hj
  · rename_i hlt
    obtain ⟨y, h1, h2⟩ := h.2 j d hj
    exact ⟨y, by rw [List.getElem?_append_left (List.getElem?_eq_some_iff.1 h1).1]; exact h1, h2⟩
  · rename_i hge
    obtain ⟨y, h1, h2⟩ := h'.2 _ d hj
    refine ⟨y, ?_, h2⟩
    rw [List.getElem?_append_right (by rw [h.1]; omega), h.1]
    exact h1
theorem CellsL.one {E : Env} {y : Value} {d : D} (h1 : y.oneCell' = true) (h : Rd E d y) : CellsL E [y] [d] := by
  refine ⟨rfl, fun j d' hj => ?_⟩
  match j, hj with
  | 0, hj => simp at hj; subst hj; exact ⟨_, rfl, h1, h⟩
  | j + 1, hj => simp at hj
end
end Go.Proofs.YtdliolbjngcgcaaGreat.AWP
