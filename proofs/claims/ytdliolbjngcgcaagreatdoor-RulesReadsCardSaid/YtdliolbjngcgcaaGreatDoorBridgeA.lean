/- Rows of things that are read one by one. -/
import Derived.Test.YtdliolbjngcgcaaGreatDoorMathA
import Derived.ProofKit
import Derived.OpenShut
import Derived.Carry
import Derived.Below
import Derived.Deep.Strs
import Derived.SliceStrings
set_option linter.unusedVariables false
set_option linter.unusedSimpArgs false
set_option linter.unusedSectionVars false
/- What is handed in, read as expressions. -/
namespace Go.Proofs.YtdliolbjngcgcaaGreatDoor.AWP
open Go
/-- The world at a call: all that is there is nobody's own. -/
def envAt (W : World) : Env := ⟨0, fun _ => .nilFunc, fun b => b < W.heap.size, W⟩
theorem envAt_rel (W : World) (hg : ∀ (g : Nat) (c : List D), gtab g = some c → Rd (envAt W) (.pel c) (.pointer (some ⟨g, 0, none⟩))) : Rel (envAt W) [] := ⟨rfl, fun k o h => by simp at h, fun k k' o o' b h => by simp at h, fun b hA => hA, fun k hk => absurd hk (Nat.not_lt_zero _), hg⟩
theorem cell_lt {w : World} {a : Addr} {v : Value} (h : w.cell? a = some v) : a.block < w.heap.size := by
  rcases Nat.lt_or_ge a.block w.heap.size with hl | hl
  · exact hl
  · have : w.heap[a.block]? = none := by simp [hl]
    simp [World.cell?, this] at h
def CellsL (E : Env) (cs : List Value) (c : List D) : Prop := cs.length = c.length ∧ ∀ (j : Nat) (d : D), c[j]? = some d → ∃ y, cs[j]? = some y ∧ y.oneCell' = true ∧ Rd E d y
structure ReT (P : Program) (tRe tU8 tSet tW tRes : TypeId) : Prop where
  re : ∃ f0 f1 f2 : Field, P.underlying tRe = some (.struct #[f0, f1, f2]) ∧ (f0.type = tU8 ∧ f0.offset = 0) ∧ (f1.type = tSet ∧ f1.offset = 1) ∧ (f2.type = tRes ∧ f2.offset = 5)
  u8 : P.underlying tU8 = some (.int .u8)
  set : P.underlying tSet = some (.array 4 tW)
  w : P.underlying tW = some (.int .u64)
  res : P.underlying tRes = some (.slice tRe)
  cRe : P.cellsOf tRe = 6
  cU8 : P.cellsOf tU8 = 1
  cSet : P.cellsOf tSet = 4
  cW : P.cellsOf tW = 1
  cRes : P.cellsOf tRes = 1
section
variable {H : Type} {enc : TypeId × Value → H} {P : Program} {W : World} {sp : Nat → Bool} {hd : Bool} {tRe tU8 tSet tW tRes : TypeId}
end
end Go.Proofs.YtdliolbjngcgcaaGreatDoor.AWP
/- A law that only reads and hands back a bool: from its contract to what the row asks. -/
namespace Go.Proofs.YtdliolbjngcgcaaGreatDoor.AWP
open Go Go.ChangeShapes Go.WideShapes Go.ChangeAt Go.RowKit
theorem below_of_ext {W : World} {E' : Env} (h : Ext (envAt W) [] E' []) : Below W.heap.size W E'.w :=
  ⟨h.os, h.tape, h.output, h.size, fun k hk => h.keep k hk (by rintro ⟨i, o, ho, _⟩; simp at ho)⟩
theorem trodAll_below {H : Type} {enc : TypeId × Value → H} {P : Program} (hl : laidOutB P = true) {W W' : World} (hb : Below W.heap.size W W') {sp : Nat → Bool} :
    ∀ {ts : List TypeId} {vs : List Value} {ds : List (DataW H)} {ps : List MemPlace}, (∀ t ∈ ts, P.readableRec t = true ∧ t < P.types.size) → DataW.TrodAll enc P W 0 (fun _ => true) true ts vs ds ps → (∀ x ∈ ps, x.block < W.heap.size) →
      DataW.TrodAll enc P W' 0 (fun b => decide (b < W.heap.size)) true ts vs ds ps
  | [], [], [], _, _, h, _ => h
  | t :: ts, v :: vs, d :: ds, _, ht, ⟨p, q, h1, h2, e⟩, hlt => by
    subst e
    exact ⟨p, q, Below.trod hl (ht t (by simp)).1 (ht t (by simp)).2 h1 hb (fun x hx => hlt x (by simp [hx])), trodAll_below hl hb (sp := sp) (fun t' h' => ht t' (by simp [h'])) h2 (fun x hx => hlt x (by simp [hx])), rfl⟩
theorem rdA_of {E : Env} {ds : List D} {vs : List Value} (hl : vs.length = ds.length) (h : ∀ (j : Nat) (d : D) (v : Value), ds[j]? = some d → vs[j]? = some v → Rd E d v) : RdA E ds vs.toArray := by
  refine ⟨by simpa using hl, fun j d hj => ?_⟩
  have hj' : j < vs.length := by rw [hl]; exact (List.getElem?_eq_some_iff.1 hj).1
  have e := List.getElem?_eq_getElem hj'
  have := h j d _ hj e
  have e2 : vs.toArray.getD j undef = vs[j] := by simp [Array.getD_eq_getD_getElem?, e]
  rw [e2]
  exact this
theorem rdA_1 {E : Env} {d0 : D} {v0 : Value} (h0 : Rd E d0 v0) : RdA E [d0] #[v0] :=
  rdA_of (vs := [v0]) rfl fun j d v hj hv => by
    match j, hj, hv with
    | 0, hj, hv => simp at hj hv; subst hj; subst hv; exact h0
    | j + 1, hj, _ => simp at hj
/-- A law's contract as a bare call from the world as it stands. -/
theorem calls_true {P : Program} {f : FuncId} {ds : List D} (h : AP P f ds (.b true)) {W : World} {args : Array Value} (ha : RdA (envAt W) ds args) (hg : ∀ (g : Nat) (c : List D), gtab g = some c → Rd (envAt W) (.pel c) (.pointer (some ⟨g, 0, none⟩)) := by intro g c h; cases h) : Calls P f args W fun e W' => e = .returned (.bool true) ∧ Below W.heap.size W W' := by
  refine (h.2 (envAt W) args (envAt_rel W hg) ha).mono ?_
  rintro e W' ⟨E', o, om', ⟨rfl, rfl⟩, rfl, hx, _, ho⟩
  refine ⟨?_, below_of_ext hx⟩
  cases e with
  | returned y => simp only [OutR] at ho; rw [ho.v_inv]
  | _ => simp [OutR] at ho
theorem post_true {H : Type} {enc : TypeId × Value → H} {P : Program} (hl : laidOutB P = true) {f : Func} {s : ChangeSpec} {apart fresh handsOn : Bool} {W W' : World} {args : Array Value} {ds gs : List (DataW H)} {before : List MemPlace} {tB : TypeId}
    (hW : DataW.Whole enc P f.params.toList s.vars apart W args.toList ds gs before) (hb : Below W.heap.size W W') (hr : f.resultTypes = #[tB]) (hB : P.underlying tB = some .bool) (hv : s.vars = [])
    (ht : ∀ t ∈ f.params.toList, P.readableRec t = true ∧ t < P.types.size) (hfn : (s.fn H (ds ++ gs)).results = [.lit (.bool true)] ∧ (s.fn H (ds ++ gs)).args = ds ∧ (s.fn H (ds ++ gs)).vars = []) :
    s.post enc P f apart fresh handsOn false W args (.bool true) W' := by
  have hlt := hW.lt
  obtain ⟨p, q, hA, hV, rfl, hz, hn⟩ := id hW
  have hV' := hV
  rw [hv] at hV'
  obtain ⟨rfl, rfl⟩ := trodVars_none hV'
  refine ⟨ds, [], p ++ [], [], p, [], hW, ?_, ?_, ?_, World.keptBut_mono (fun x hx => ⟨hx, .inr (.inl (by simpa using hx))⟩) (hb.frame _), fun h => by cases h⟩
  · rw [hfn.1, hr]
    exact trodAll_mk1 (shut_bool hB true)
  · rw [hfn.2.1]
    exact trodAll_below hl hb (sp := fun _ => true) ht hA (fun x hx => hlt x (by simp [hx]))
  · rw [hfn.2.2, hv]
    exact rfl
end Go.Proofs.YtdliolbjngcgcaaGreatDoor.AWP
/- A law of one row: from its contract to what the row asks. -/
namespace Go.Proofs.YtdliolbjngcgcaaGreatDoor.AWP
open Go Go.ChangeShapes Go.WideShapes Go.ChangeAt Go.RowKit
end Go.Proofs.YtdliolbjngcgcaaGreatDoor.AWP
/- A row of texts, and a byte, as arguments of a law. -/
namespace Go.Proofs.YtdliolbjngcgcaaGreatDoor.AWP
open Go Go.ChangeShapes Go.WideShapes Go.ChangeAt Go.RowKit
end Go.Proofs.YtdliolbjngcgcaaGreatDoor.AWP
/- Rows of things that are read one by one. -/
namespace Go.Proofs.YtdliolbjngcgcaaGreatDoor.AWP
open Go Go.ChangeShapes Go.WideShapes Go.ChangeAt Go.RowKit
section
variable {H : Type} {enc : TypeId × Value → H} {P : Program} {W : World} {sp : Nat → Bool} {hd : Bool}
theorem CellsL.append {E : Env} {cs cs' : List Value} {c c' : List D} (h : CellsL E cs c) (h' : CellsL E cs' c') : CellsL E (cs ++ cs') (c ++ c') := by
  refine ⟨by simp [h.1, h'.1], fun j d hj => ?_⟩
  rw [List.getElem?_append] at hj
  split at hj
  · rename_i hlt
    obtain ⟨y, h1, h2⟩ := h.2 j d hj
    exact ⟨y, by rw [List.getElem?_append_left (List.getElem?_eq_some_iff.1 h1).1]; exact h1, h2⟩
  · rename_i hge
    obtain ⟨y, h1, h2⟩ := h'.2 _ d hj
    refine ⟨y, ?_, h2⟩
    rw [List.getElem?_append_right (by rw [h.1]; omega), h.1]
    exact h1
theorem CellsL.one {E : Env} {y : Value} {d : D} (h1 : y.oneCell' = true) (h : Rd E d y) : CellsL E [y] [d] := by
  refine ⟨rfl, fun j d' hj => ?_⟩
  match j, hj with
  | 0, hj => simp at hj; subst hj; exact ⟨_, rfl, h1, h⟩
  | j + 1, hj => simp at hj
end
end Go.Proofs.YtdliolbjngcgcaaGreatDoor.AWP
