/- A row of texts, and a byte, as arguments of a law. -/
import Derived.Test.YteifkcgokjmcjaaBridge
import Derived.SliceStrings
set_option linter.unusedVariables false
set_option linter.unusedSimpArgs false
set_option linter.unusedSectionVars false
/- A row of texts, and a byte, as arguments of a law. -/
namespace Go.Proofs.Yteifkcgokjmcjaa.AWP
open Go Go.ChangeShapes Go.WideShapes Go.ChangeAt Go.RowKit

theorem strs_arg {H : Type} {enc : TypeId × Value → H} {P : Program} {W : World} {sp : Nat → Bool} {hd : Bool} {t e : TypeId} (ht : P.underlying t = some (.slice e)) (he : P.underlying e = some .string) (hc : P.cellsOf e = 1)
    {v : Value} {d : DataW H} {p : List MemPlace} (hv : v.cells = #[v]) (h : DataW.Trod enc P W 0 sp hd t v d p) : ∃ l : List ByteArray, Rd (envAt W) (.sl 1 (l.map fun x => [.s x])) v := by
  obtain ⟨n, hn⟩ := h
  rw [hv] at hn
  rcases open_strings ht he hc hn with ⟨hcs, _⟩ | ⟨a, len, cap, ss, hcs, _, hl, hm, hz, _, hcell, _⟩
  · simp only [List.cons.injEq, and_true] at hcs
    subst hcs
    exact ⟨[], Rd.sl (rows := []) ⟨0, 0, none⟩ (fun _ => .nilFunc) (by simp) (Nat.le_refl _) (Nat.zero_le _) (.inl rfl) (by simp) (by simp)⟩
  · simp only [List.cons.injEq, and_true] at hcs
    subst hcs
    have hlen : (ss.take len).length = len := by
      rw [List.length_take, hz]
      split <;> omega
    refine ⟨ss.take len, ?_⟩
    have e1 : ((ss.take len).map fun x => [D.s x]).length = len := by rw [List.length_map, hlen]
    have key : ∀ (i : Nat) (s : ByteArray), (ss.take len)[i]? = some s → W.cell? (a.add i) = some (.string s) := by
      intro i s hi
      have hi2 : i < len := by have := (List.getElem?_eq_some_iff.1 hi).1; omega
      rw [List.getElem?_take] at hi
      rw [if_pos hi2] at hi
      have hi3 := (List.getElem?_eq_some_iff.1 hi).1
      rw [hcell i hi3, List.getD_eq_getElem?_getD, hi]
      rfl
    refine Rd.sl_mk e1.symm (fun r hr => ?_) (by rw [e1]; exact hl) hm ?_
    · obtain ⟨x, _, rfl⟩ := List.mem_map.1 hr
      rfl
    rcases Nat.eq_zero_or_pos len with h0 | h0
    · left
      exact List.eq_nil_of_length_eq_zero (e1.trans h0)
    right
    refine ⟨a, rfl, ?_, fun i r hi j d hj => ?_⟩
    · obtain ⟨s0, hs0⟩ := get_ex (l := ss.take len) (i := 0) (by omega)
      have := cell_lt (key 0 s0 hs0)
      rw [add_block] at this
      exact this
    · simp only [List.getElem?_map, Option.map_eq_some_iff] at hi
      obtain ⟨s0, hs0, rfl⟩ := hi
      match j, hj with
      | 0, hj =>
        simp at hj; subst hj
        exact ⟨_, by rw [Nat.mul_one, add_add, Nat.add_zero]; exact key i s0 hs0, rfl, .v _⟩
      | j + 1, hj => simp at hj
theorem byte_arg {H : Type} {enc : TypeId × Value → H} {P : Program} {W : World} {sp : Nat → Bool} {hd : Bool} {t : TypeId} (ht : P.underlying t = some (.int .u8)) {v : Value} {n : Int} (hv : v = .int .u8 n) {d : DataW H} {p : List MemPlace} (h : DataW.Trod enc P W 0 sp hd t v d p) : ∃ b : UInt8, v = .int .u8 b.toNat := by
  subst hv
  obtain ⟨m, hm⟩ := h
  obtain ⟨k, hk, _, hw⟩ := DataW.trod_int ht hm
  simp [Value.cells] at hk
  subst hk
  simp only [Lit.wf, Bool.and_eq_true, decide_eq_true_eq] at hw
  have h1 : (0 : Int) ≤ n := hw.1
  have h2 : n ≤ 255 := hw.2
  refine ⟨UInt8.ofNat n.toNat, ?_⟩
  rw [UInt8.toNat_ofNat']
  congr 1
  omega
end Go.Proofs.Yteifkcgokjmcjaa.AWP
