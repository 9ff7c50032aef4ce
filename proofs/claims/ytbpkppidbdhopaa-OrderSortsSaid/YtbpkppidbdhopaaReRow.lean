/- What is handed in, read as expressions. -/
import Derived.Test.YtbpkppidbdhopaaReMath
import Derived.ProofKit
import Derived.OpenShut
import Derived.Carry
import Derived.Below
import Derived.Deep.Strs
set_option linter.unusedSectionVars false
set_option linter.unusedVariables false
set_option linter.unusedSimpArgs false
/- What is handed in, read as expressions. -/
namespace Go.Proofs.Ytbpkppidbdhopaa.AWP
open Go

/-- The world at a call: all that is there is nobody's own. -/
def envAt (W : World) : Env := ⟨0, fun _ => .nilFunc, fun b => b < W.heap.size, W⟩
theorem envAt_rel (W : World) : Rel (envAt W) [] := ⟨rfl, fun k o h => by simp at h, fun k k' o o' b h => by simp at h, fun b hA => hA, fun k hk => absurd hk (Nat.not_lt_zero _)⟩

theorem cell_lt {w : World} {a : Addr} {v : Value} (h : w.cell? a = some v) : a.block < w.heap.size := by
  rcases Nat.lt_or_ge a.block w.heap.size with hl | hl
  · exact hl
  · have : w.heap[a.block]? = none := by simp [hl]
    simp [World.cell?, this] at h

def CellsL (E : Env) (cs : List Value) (c : List D) : Prop := cs.length = c.length ∧ ∀ (j : Nat) (d : D), c[j]? = some d → ∃ y, cs[j]? = some y ∧ y.oneCell' = true ∧ Rd E d y

theorem pick_list {α : Type} {p : Nat → α → Prop} : ∀ (n : Nat), (∀ i, i < n → ∃ r, p i r) → ∃ l : List α, l.length = n ∧ ∀ i r, l[i]? = some r → p i r
  | 0, _ => ⟨[], rfl, fun i r h => by simp at h⟩
  | n + 1, h => by
    obtain ⟨l, h1, h2⟩ := pick_list n fun i hi => h i (by omega)
    obtain ⟨r, hr⟩ := h n (by omega)
    refine ⟨l ++ [r], by simp [h1], fun i x hx => ?_⟩
    rw [List.getElem?_append] at hx
    split at hx
    · exact h2 i x hx
    · rename_i hge
      have : i = n := by
        have := (List.getElem?_eq_some_iff.1 hx).1
        simp at this
        omega
      subst this
      rw [← h1] at hx
      simp at hx
      subst hx
      exact hr

structure ReT (P : Program) (tRe tU8 tSet tW tRes : TypeId) : Prop where
  re : ∃ f0 f1 f2 : Field, P.underlying tRe = some (.struct #[f0, f1, f2]) ∧ (f0.type = tU8 ∧ f0.offset = 0) ∧ (f1.type = tSet ∧ f1.offset = 1) ∧ (f2.type = tRes ∧ f2.offset = 5)
  u8 : P.underlying tU8 = some (.int .u8)
  set : P.underlying tSet = some (.array 4 tW)
  w : P.underlying tW = some (.int .u64)
  res : P.underlying tRes = some (.slice tRe)
  cRe : P.cellsOf tRe = 6
  cU8 : P.cellsOf tU8 = 1
  cSet : P.cellsOf tSet = 4
  cW : P.cellsOf tW = 1
  cRes : P.cellsOf tRes = 1

section
variable {H : Type} {enc : TypeId × Value → H} {P : Program} {W : World} {sp : Nat → Bool} {hd : Bool} {tRe tU8 tSet tW tRes : TypeId}

/-- A row of expressions, where single ones are read. -/
theorem res_read (h : ReT P tRe tU8 tSet tW tRes) {n : Nat} (ih : ∀ m, m < n → ∀ cs x, DataW.trod enc P W 0 sp hd m tRe cs = some x → ∃ r : Re, CellsL (envAt W) cs r.c) {cs : List Value} {x : DataW H × List MemPlace}
    (hx : DataW.trod enc P W 0 sp hd n tRes cs = some x) : ∃ (ks : List Re) (y : Value), cs = [y] ∧ y.oneCell' = true ∧ Rd (envAt W) (.sl 6 (Re.cs ks)) y := by
  rcases DataW.trod_slice h.res hx with ⟨rfl, _⟩ | ⟨a, len, cap, elems, rest, m, rfl, rfl, _, hb, hl, hm, hlen, hel, _, _⟩
  · exact ⟨[], _, rfl, rfl, Rd.sl (rows := []) ⟨0, 0, none⟩ (fun _ => .nilFunc) (by simp) (Nat.le_refl _) (Nat.zero_le _) (.inl rfl) (by simp) (by simp)⟩
  · obtain ⟨ks, h1, h2⟩ := pick_list (α := Re) (p := fun i r => ∀ (j : Nat) (d : D), r.c[j]? = some d → ∃ u, W.cell? ((a.add (i * 6)).add j) = some u ∧ u.oneCell' = true ∧ Rd (envAt W) d u) len (fun i hi => by
      have e := hel i hi
      rw [List.getElem?_eq_getElem (by omega)] at e
      obtain ⟨cs', e1, e2⟩ := Option.bind_eq_some_iff.1 e
      obtain ⟨r, hr1, hr2⟩ := ih m (by omega) cs' _ e2
      obtain ⟨_, q2, q3⟩ := World.cells?_some e1
      refine ⟨r, fun j d hj => ?_⟩
      obtain ⟨y, y1, y2, y3⟩ := hr2 j d hj
      have hj6 : j < P.cellsOf tRe := by
        have := (List.getElem?_eq_some_iff.1 y1).1
        omega
      exact ⟨y, by rw [← y1, ← q3 j hj6, h.cRe], y2, y3⟩)
    refine ⟨ks, _, rfl, rfl, ?_⟩
    rw [Re.cs_eq]
    refine Rd.sl_mk (by simp [h1]) (fun r hr => ?_) (by simp [h1]; exact hl) hm ?_
    · obtain ⟨x, _, rfl⟩ := List.mem_map.1 hr
      simp
    · rcases Nat.eq_zero_or_pos len with h0 | h0
      · left
        simp [List.eq_nil_of_length_eq_zero (h1.trans h0)]
      · right
        refine ⟨a, rfl, ?_, fun i r hi j d hj => ?_⟩
        · obtain ⟨r0, hr0⟩ := get_ex (l := ks) (i := 0) (by omega)
          obtain ⟨u, hu, _⟩ := h2 0 r0 hr0 0 (r0.c[0]'(by simp)) (List.getElem?_eq_getElem (by simp))
          have := cell_lt hu
          rw [add_block, add_block] at this
          exact this
        · simp only [List.getElem?_map, Option.map_eq_some_iff] at hi
          obtain ⟨r0, hr0, rfl⟩ := hi
          exact h2 i r0 hr0 j d hj

theorem re_read (h : ReT P tRe tU8 tSet tW tRes) : ∀ (n : Nat) (cs : List Value) (x : DataW H × List MemPlace), DataW.trod enc P W 0 sp hd n tRe cs = some x → ∃ r : Re, CellsL (envAt W) cs r.c := by
  intro n
  induction n using Nat.strongRecOn with
  | _ n ih =>
    intro cs x hx
    obtain ⟨f0, f1, f2, hs, ⟨t0, o0⟩, ⟨t1, o1⟩, ⟨t2, o2⟩⟩ := h.re
    obtain ⟨xs, m, rfl, _, hl, hlen, hf⟩ := DataW.trod_struct hs hx
    rw [h.cRe] at hl
    have g : ∀ i : Nat, i < 3 → ∃ y, xs[i]? = some y := fun i hi => ⟨_, List.getElem?_eq_getElem (by rw [hlen]; exact hi)⟩
    obtain ⟨y0, e0⟩ := g 0 (by omega)
    obtain ⟨y1, e1⟩ := g 1 (by omega)
    obtain ⟨y2, e2⟩ := g 2 (by omega)
    have q0 := hf 0 f0 rfl
    have q1 := hf 1 f1 rfl
    have q2 := hf 2 f2 rfl
    rw [e0, t0, o0, h.cU8] at q0
    rw [e1, t1, o1, h.cSet] at q1
    rw [e2, t2, o2, h.cRes] at q2
    match cs, hl with
    | [c0, c1, c2, c3, c4, c5], _ =>
      simp only [List.drop_succ_cons, List.drop_zero, List.take_succ_cons, List.take_zero] at q0 q1 q2
      obtain ⟨k, hk, _, _⟩ := DataW.trod_int h.u8 q0
      obtain ⟨ys, m', _, _, _, hyl, hy⟩ := DataW.trod_array h.set q1
      have gi : ∀ (i : Nat) (c : Value), i < 4 → (([c1, c2, c3, c4] : List Value).drop (i * P.cellsOf tW)).take (P.cellsOf tW) = [c] → ∃ z, c = .int .u64 z := by
        intro i c hi hc
        have := hy i hi
        rw [hc, List.getElem?_eq_getElem (by omega)] at this
        obtain ⟨z, hz, _, _⟩ := DataW.trod_int h.w this
        exact ⟨z, by simpa using hz⟩
      obtain ⟨a, rfl⟩ := gi 0 c1 (by omega) (by rw [h.cW]; rfl)
      obtain ⟨b, rfl⟩ := gi 1 c2 (by omega) (by rw [h.cW]; rfl)
      obtain ⟨c, rfl⟩ := gi 2 c3 (by omega) (by rw [h.cW]; rfl)
      obtain ⟨d, rfl⟩ := gi 3 c4 (by omega) (by rw [h.cW]; rfl)
      obtain ⟨ks, y, hy5, hy1, hrd⟩ := res_read h (n := m) (fun m' hm' => ih m' (by omega)) q2
      simp only [List.cons.injEq, and_true] at hk hy5
      subst hk hy5
      refine ⟨.mk k a b c d ks, by simp, fun j dd hj => ?_⟩
      rw [Re.c_mk] at hj
      match j, hj with
      | 0, hj => simp at hj; subst hj; exact ⟨_, rfl, rfl, .v _⟩
      | 1, hj => simp at hj; subst hj; exact ⟨_, rfl, rfl, .v _⟩
      | 2, hj => simp at hj; subst hj; exact ⟨_, rfl, rfl, .v _⟩
      | 3, hj => simp at hj; subst hj; exact ⟨_, rfl, rfl, .v _⟩
      | 4, hj => simp at hj; subst hj; exact ⟨_, rfl, rfl, .v _⟩
      | 5, hj => simp at hj; subst hj; exact ⟨_, rfl, hy1, hrd⟩
      | j + 6, hj => simp at hj
end
end Go.Proofs.Ytbpkppidbdhopaa.AWP
