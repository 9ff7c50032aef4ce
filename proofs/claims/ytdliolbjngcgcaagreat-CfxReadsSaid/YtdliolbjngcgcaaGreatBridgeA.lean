/- A row of texts, and a byte, as arguments of a law. -/
import Derived.Test.YtdliolbjngcgcaaGreatMathA
import Derived.ProofKit
import Derived.OpenShut
import Derived.Carry
import Derived.Below
import Derived.Deep.Strs
import Derived.SliceStrings
set_option linter.unusedVariables false
set_option linter.unusedSimpArgs false
set_option linter.unusedSectionVars false
/- What is handed in, read as expressions. -/
namespace Go.Proofs.YtdliolbjngcgcaaGreat.AWP
open Go
/-- The world at a call: all that is there is nobody's own. -/
def envAt (W : World) : Env := ⟨0, fun _ => .nilFunc, fun b => b < W.heap.size, W⟩
theorem envAt_rel (W : World) (hg : ∀ (g : Nat) (c : List D), gtab g = some c → Rd (envAt W) (.pel c) (.pointer (some ⟨g, 0, none⟩))) : Rel (envAt W) [] := ⟨rfl, fun k o h => by simp at h, fun k k' o o' b h => by simp at h, fun b hA => hA, fun k hk => absurd hk (Nat.not_lt_zero _), hg⟩
theorem cell_lt {w : World} {a : Addr} {v : Value} (h : w.cell? a = some v) : a.block < w.heap.size := by
  rcases Nat.lt_or_ge a.block w.heap.size with hl | hl
  · exact hl
  · have : w.heap[a.block]? = none := by simp [hl]
    simp [World.cell?, this] at h
def CellsL (E : Env) (cs : List Value) (c : List D) : Prop := cs.length = c.length ∧ ∀ (j : Nat) (d : D), c[j]? = some d → ∃ y, cs[j]? = some y ∧ y.oneCell' = true ∧ Rd E d y
theorem pick_list {α : Type} {p : Nat → α → Prop} : ∀ (n : Nat), (∀ i, i < n → ∃ r, p i r) → ∃ l : List α, l.length = n ∧ ∀ i r, l[i]? = some r → p i r
  | 0, _ => ⟨[], rfl, fun i r h => by simp at h⟩
  | n + 1, h => by
    obtain ⟨l, h1, h2⟩ := pick_list n fun i hi => h i (by omega)
    obtain ⟨r, hr⟩ := h n (by omega)
    refine ⟨l ++ [r], by simp [h1], fun i x hx => ?_⟩
    rw [List.getElem?_append] at hx
    split at hx
    · exact h2 i x hx
    · rename_i hge
      have : i = n := by
        have := (List.getElem?_eq_some_iff.1 hx).1
        simp at this
        omega
      subst this
      rw [← h1] at hx
      simp at hx
      subst hx
      exact hr
structure ReT (P : Program) (tRe tU8 tSet tW tRes : TypeId) : Prop where
  re : ∃ f0 f1 f2 : Field, P.underlying tRe = some (.struct #[f0, f1, f2]) ∧ (f0.type = tU8 ∧ f0.offset = 0) ∧ (f1.type = tSet ∧ f1.offset = 1) ∧ (f2.type = tRes ∧ f2.offset = 5)
  u8 : P.underlying tU8 = some (.int .u8)
  set : P.underlying tSet = some (.array 4 tW)
  w : P.underlying tW = some (.int .u64)
  res : P.underlying tRes = some (.slice tRe)
  cRe : P.cellsOf tRe = 6
  cU8 : P.cellsOf tU8 = 1
  cSet : P.cellsOf tSet = 4
  cW : P.cellsOf tW = 1
  cRes : P.cellsOf tRes = 1
section
variable {H : Type} {enc : TypeId × Value → H} {P : Program} {W : World} {sp : Nat → Bool} {hd : Bool} {tRe tU8 tSet tW tRes : TypeId}
end
end Go.Proofs.YtdliolbjngcgcaaGreat.AWP
/- A law that only reads and hands back a bool: from its contract to what the row asks. -/
namespace Go.Proofs.YtdliolbjngcgcaaGreat.AWP
open Go Go.ChangeShapes Go.WideShapes Go.ChangeAt Go.RowKit
theorem below_of_ext {W : World} {E' : Env} (h : Ext (envAt W) [] E' []) : Below W.heap.size W E'.w :=
  ⟨h.os, h.tape, h.output, h.size, fun k hk => h.keep k hk (by rintro ⟨i, o, ho, _⟩; simp at ho)⟩
theorem trodAll_below {H : Type} {enc : TypeId × Value → H} {P : Program} (hl : laidOutB P = true) {W W' : World} (hb : Below W.heap.size W W') {sp : Nat → Bool} :
    ∀ {ts : List TypeId} {vs : List Value} {ds : List (DataW H)} {ps : List MemPlace}, (∀ t ∈ ts, P.readableRec t = true ∧ t < P.types.size) → DataW.TrodAll enc P W 0 (fun _ => true) true ts vs ds ps → (∀ x ∈ ps, x.block < W.heap.size) →
      DataW.TrodAll enc P W' 0 (fun b => decide (b < W.heap.size)) true ts vs ds ps
  | [], [], [], _, _, h, _ => h
  | t :: ts, v :: vs, d :: ds, _, ht, ⟨p, q, h1, h2, e⟩, hlt => by
    subst e
    exact ⟨p, q, Below.trod hl (ht t (by simp)).1 (ht t (by simp)).2 h1 hb (fun x hx => hlt x (by simp [hx])), trodAll_below hl hb (sp := sp) (fun t' h' => ht t' (by simp [h'])) h2 (fun x hx => hlt x (by simp [hx])), rfl⟩
theorem rdA_of {E : Env} {ds : List D} {vs : List Value} (hl : vs.length = ds.length) (h : ∀ (j : Nat) (d : D) (v : Value), ds[j]? = some d → vs[j]? = some v → Rd E d v) : RdA E ds vs.toArray := by
  refine ⟨by simpa using hl, fun j d hj => ?_⟩
  have hj' : j < vs.length := by rw [hl]; exact (List.getElem?_eq_some_iff.1 hj).1
  have e := List.getElem?_eq_getElem hj'
  have := h j d _ hj e
  have e2 : vs.toArray.getD j undef = vs[j] := by simp [Array.getD_eq_getD_getElem?, e]
  rw [e2]
  exact this
theorem rdA_2 {E : Env} {d0 d1 : D} {v0 v1 : Value} (h0 : Rd E d0 v0) (h1 : Rd E d1 v1) : RdA E [d0, d1] #[v0, v1] :=
  rdA_of (vs := [v0, v1]) rfl fun j d v hj hv => by
    match j, hj, hv with
    | 0, hj, hv => simp at hj hv; subst hj; subst hv; exact h0
    | 1, hj, hv => simp at hj hv; subst hj; subst hv; exact h1
    | j + 2, hj, _ => simp at hj
/-- A law's contract as a bare call from the world as it stands. -/
theorem calls_true {P : Program} {f : FuncId} {ds : List D} (h : AP P f ds (.b true)) {W : World} {args : Array Value} (ha : RdA (envAt W) ds args) (hg : ∀ (g : Nat) (c : List D), gtab g = some c → Rd (envAt W) (.pel c) (.pointer (some ⟨g, 0, none⟩)) := by intro g c h; cases h) : Calls P f args W fun e W' => e = .returned (.bool true) ∧ Below W.heap.size W W' := by
  refine (h.2 (envAt W) args (envAt_rel W hg) ha).mono ?_
  rintro e W' ⟨E', o, om', ⟨rfl, rfl⟩, rfl, hx, _, ho⟩
  refine ⟨?_, below_of_ext hx⟩
  cases e with
  | returned y => simp only [OutR] at ho; rw [ho.v_inv]
  | _ => simp [OutR] at ho
theorem post_true {H : Type} {enc : TypeId × Value → H} {P : Program} (hl : laidOutB P = true) {f : Func} {s : ChangeSpec} {apart fresh handsOn : Bool} {W W' : World} {args : Array Value} {ds gs : List (DataW H)} {before : List MemPlace} {tB : TypeId}
    (hW : DataW.Whole enc P f.params.toList s.vars apart W args.toList ds gs before) (hb : Below W.heap.size W W') (hr : f.resultTypes = #[tB]) (hB : P.underlying tB = some .bool) (hv : s.vars = [])
    (ht : ∀ t ∈ f.params.toList, P.readableRec t = true ∧ t < P.types.size) (hfn : (s.fn H (ds ++ gs)).results = [.lit (.bool true)] ∧ (s.fn H (ds ++ gs)).args = ds ∧ (s.fn H (ds ++ gs)).vars = []) :
    s.post enc P f apart fresh handsOn false W args (.bool true) W' := by
  have hlt := hW.lt
  obtain ⟨p, q, hA, hV, rfl, hz, hn⟩ := id hW
  have hV' := hV
  rw [hv] at hV'
  obtain ⟨rfl, rfl⟩ := trodVars_none hV'
  refine ⟨ds, [], p ++ [], [], p, [], hW, ?_, ?_, ?_, World.keptBut_mono (fun x hx => ⟨hx, .inr (.inl (by simpa using hx))⟩) (hb.frame _), fun h => by cases h⟩
  · rw [hfn.1, hr]
    exact trodAll_mk1 (shut_bool hB true)
  · rw [hfn.2.1]
    exact trodAll_below hl hb (sp := fun _ => true) ht hA (fun x hx => hlt x (by simp [hx]))
  · rw [hfn.2.2, hv]
    exact rfl
end Go.Proofs.YtdliolbjngcgcaaGreat.AWP
/- A law of one row: from its contract to what the row asks. -/
namespace Go.Proofs.YtdliolbjngcgcaaGreat.AWP
open Go Go.ChangeShapes Go.WideShapes Go.ChangeAt Go.RowKit
theorem cells_of_slice {P : Program} {w : World} {r : Reach} {b : Nat} {t e : TypeId} {v : Value} (ht : P.underlying t = some (.slice e)) (h : Value.okWide P w r b t v) : v.cells = #[v] := by
  unfold Value.okWide at h
  rw [ht] at h
  unfold Cell.okWide at h
  rw [ht] at h
  unfold Cell.ok at h
  rw [ht] at h
  cases v <;> first | rfl | (simp at h)
end Go.Proofs.YtdliolbjngcgcaaGreat.AWP
/- A row of texts, and a byte, as arguments of a law. -/
namespace Go.Proofs.YtdliolbjngcgcaaGreat.AWP
open Go Go.ChangeShapes Go.WideShapes Go.ChangeAt Go.RowKit
theorem strs_arg {H : Type} {enc : TypeId × Value → H} {P : Program} {W : World} {sp : Nat → Bool} {hd : Bool} {t e : TypeId} (ht : P.underlying t = some (.slice e)) (he : P.underlying e = some .string) (hc : P.cellsOf e = 1)
    {v : Value} {d : DataW H} {p : List MemPlace} (hv : v.cells = #[v]) (h : DataW.Trod enc P W 0 sp hd t v d p) : ∃ l : List ByteArray, Rd (envAt W) (.sl 1 (l.map fun x => [.s x])) v := by
  obtain ⟨n, hn⟩ := h
  rw [hv] at hn
  rcases open_strings ht he hc hn with ⟨hcs, _⟩ | ⟨a, len, cap, ss, hcs, _, hl, hm, hz, _, hcell, _⟩
  · simp only [List.cons.injEq, and_true] at hcs
    subst hcs
    exact ⟨[], Rd.sl (rows := []) ⟨0, 0, none⟩ (fun _ => .nilFunc) (by simp) (Nat.le_refl _) (Nat.zero_le _) (.inl rfl) (by simp) (by simp)⟩
  · simp only [List.cons.injEq, and_true] at hcs
    subst hcs
    have hlen : (ss.take len).length = len := by
      rw [List.length_take, hz]
      split <;> omega
    refine ⟨ss.take len, ?_⟩
    have e1 : ((ss.take len).map fun x => [D.s x]).length = len := by rw [List.length_map, hlen]
    have key : ∀ (i : Nat) (s : ByteArray), (ss.take len)[i]? = some s → W.cell? (a.add i) = some (.string s) := by
      intro i s hi
      have hi2 : i < len := by have := (List.getElem?_eq_some_iff.1 hi).1; omega
      rw [List.getElem?_take] at hi
      rw [if_pos hi2] at hi
      have hi3 := (List.getElem?_eq_some_iff.1 hi).1
      rw [hcell i hi3, List.getD_eq_getElem?_getD, hi]
      rfl
    refine Rd.sl_mk e1.symm (fun r hr => ?_) (by rw [e1]; exact hl) hm ?_
    · obtain ⟨x, _, rfl⟩ := List.mem_map.1 hr
      rfl
    rcases Nat.eq_zero_or_pos len with h0 | h0
    · left
      exact List.eq_nil_of_length_eq_zero (e1.trans h0)
    right
    refine ⟨a, rfl, ?_, fun i r hi j d hj => ?_⟩
    · obtain ⟨s0, hs0⟩ := get_ex (l := ss.take len) (i := 0) (by omega)
      have := cell_lt (key 0 s0 hs0)
      rw [add_block] at this
      exact this
    · simp only [List.getElem?_map, Option.map_eq_some_iff] at hi
      obtain ⟨s0, hs0, rfl⟩ := hi
      match j, hj with
      | 0, hj =>
        simp at hj; subst hj
        exact ⟨_, by rw [Nat.mul_one, add_add, Nat.add_zero]; exact key i s0 hs0, rfl, .v _⟩
      | j + 1, hj => simp at hj
end Go.Proofs.YtdliolbjngcgcaaGreat.AWP
