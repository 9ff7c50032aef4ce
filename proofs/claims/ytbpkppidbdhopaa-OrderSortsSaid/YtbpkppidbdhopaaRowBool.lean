/- A law that only reads and hands back a bool: from its contract to what the row asks. -/
import Derived.Test.YtbpkppidbdhopaaReRow
set_option linter.unusedSectionVars false
set_option linter.unusedVariables false
set_option linter.unusedSimpArgs false
/- A law that only reads and hands back a bool: from its contract to what the row asks. -/
namespace Go.Proofs.Ytbpkppidbdhopaa.AWP
open Go Go.ChangeShapes Go.WideShapes Go.ChangeAt Go.RowKit

theorem below_of_ext {W : World} {E' : Env} (h : Ext (envAt W) [] E' []) : Below W.heap.size W E'.w :=
  ⟨h.os, h.tape, h.output, h.size, fun k hk => h.keep k hk (by rintro ⟨i, o, ho, _⟩; simp at ho)⟩

theorem trodAll_below {H : Type} {enc : TypeId × Value → H} {P : Program} (hl : laidOutB P = true) {W W' : World} (hb : Below W.heap.size W W') {sp : Nat → Bool} :
    ∀ {ts : List TypeId} {vs : List Value} {ds : List (DataW H)} {ps : List MemPlace}, (∀ t ∈ ts, P.readableRec t = true ∧ t < P.types.size) → DataW.TrodAll enc P W 0 (fun _ => true) true ts vs ds ps → (∀ x ∈ ps, x.block < W.heap.size) →
      DataW.TrodAll enc P W' 0 (fun b => decide (b < W.heap.size)) true ts vs ds ps
  | [], [], [], _, _, h, _ => h
  | t :: ts, v :: vs, d :: ds, _, ht, ⟨p, q, h1, h2, e⟩, hlt => by
    subst e
    exact ⟨p, q, Below.trod hl (ht t (by simp)).1 (ht t (by simp)).2 h1 hb (fun x hx => hlt x (by simp [hx])), trodAll_below hl hb (sp := sp) (fun t' h' => ht t' (by simp [h'])) h2 (fun x hx => hlt x (by simp [hx])), rfl⟩

theorem re_arg {H : Type} {enc : TypeId × Value → H} {P : Program} {W : World} {sp : Nat → Bool} {hd : Bool} {tRe tU8 tSet tW tRes : TypeId} (h : ReT P tRe tU8 tSet tW tRes) {v : Value} {d : DataW H} {p : List MemPlace}
    (ht : DataW.Trod enc P W 0 sp hd tRe v d p) : ∃ r : Re, Rd (envAt W) (.agg r.c) v := by
  obtain ⟨n, hn⟩ := ht
  obtain ⟨r, h1, h2⟩ := re_read h n _ _ hn
  rw [Re.c_len] at h1
  refine ⟨r, ?_⟩
  cases v with
  | agg cs =>
    have hl : cs.size = 6 := by simpa [Value.cells] using h1
    refine .agg cs (by rw [hl, Re.c_len]) (fun j hj => ?_) (fun j d' hj => ?_)
    · obtain ⟨d', hd'⟩ := get_ex (l := r.c) (i := j) (by rw [Re.c_len]; omega)
      obtain ⟨y, e1, e2, _⟩ := h2 j d' hd'
      have : cs.getD j undef = y := by
        have e1' : cs[j]? = some y := by simpa [Value.cells] using e1
        simp [Array.getD_eq_getD_getElem?, e1']
      rw [this]; exact e2
    · obtain ⟨y, e1, _, e3⟩ := h2 j d' hj
      have : cs.getD j undef = y := by
        have e1' : cs[j]? = some y := by simpa [Value.cells] using e1
        simp [Array.getD_eq_getD_getElem?, e1']
      rw [this]; exact e3
  | _ => simp [Value.cells] at h1

theorem res_arg {H : Type} {enc : TypeId × Value → H} {P : Program} {W : World} {sp : Nat → Bool} {hd : Bool} {tRe tU8 tSet tW tRes : TypeId} (h : ReT P tRe tU8 tSet tW tRes) {v : Value} {d : DataW H} {p : List MemPlace} (hv : v.cells = #[v])
    (ht : DataW.Trod enc P W 0 sp hd tRes v d p) : ∃ l : List Re, Rd (envAt W) (.sl 6 (Re.cs l)) v := by
  obtain ⟨n, hn⟩ := ht
  obtain ⟨ks, y, h1, _, h3⟩ := res_read h (n := n) (fun m _ => re_read h m) hn
  rw [hv] at h1
  simp only [List.cons.injEq, and_true] at h1
  exact ⟨ks, h1 ▸ h3⟩

theorem rdA_nil {E : Env} : RdA E [] #[] := ⟨rfl, fun j d h => by simp at h⟩
theorem rdA_of {E : Env} {ds : List D} {vs : List Value} (hl : vs.length = ds.length) (h : ∀ (j : Nat) (d : D) (v : Value), ds[j]? = some d → vs[j]? = some v → Rd E d v) : RdA E ds vs.toArray := by
  refine ⟨by simpa using hl, fun j d hj => ?_⟩
  have hj' : j < vs.length := by rw [hl]; exact (List.getElem?_eq_some_iff.1 hj).1
  have e := List.getElem?_eq_getElem hj'
  have := h j d _ hj e
  have e2 : vs.toArray.getD j undef = vs[j] := by simp [Array.getD_eq_getD_getElem?, e]
  rw [e2]
  exact this
theorem rdA_2 {E : Env} {d0 d1 : D} {v0 v1 : Value} (h0 : Rd E d0 v0) (h1 : Rd E d1 v1) : RdA E [d0, d1] #[v0, v1] :=
  rdA_of (vs := [v0, v1]) rfl fun j d v hj hv => by
    match j, hj, hv with
    | 0, hj, hv => simp at hj hv; subst hj; subst hv; exact h0
    | 1, hj, hv => simp at hj hv; subst hj; subst hv; exact h1
    | j + 2, hj, _ => simp at hj
theorem rdA_3 {E : Env} {d0 d1 d2 : D} {v0 v1 v2 : Value} (h0 : Rd E d0 v0) (h1 : Rd E d1 v1) (h2 : Rd E d2 v2) : RdA E [d0, d1, d2] #[v0, v1, v2] :=
  rdA_of (vs := [v0, v1, v2]) rfl fun j d v hj hv => by
    match j, hj, hv with
    | 0, hj, hv => simp at hj hv; subst hj; subst hv; exact h0
    | 1, hj, hv => simp at hj hv; subst hj; subst hv; exact h1
    | 2, hj, hv => simp at hj hv; subst hj; subst hv; exact h2
    | j + 3, hj, _ => simp at hj
theorem rdA_1 {E : Env} {d0 : D} {v0 : Value} (h0 : Rd E d0 v0) : RdA E [d0] #[v0] :=
  rdA_of (vs := [v0]) rfl fun j d v hj hv => by
    match j, hj, hv with
    | 0, hj, hv => simp at hj hv; subst hj; subst hv; exact h0
    | j + 1, hj, _ => simp at hj

/-- A law's contract as a bare call from the world as it stands. -/
theorem calls_true {P : Program} {f : FuncId} {ds : List D} (h : AP P f ds (.b true)) {W : World} {args : Array Value} (ha : RdA (envAt W) ds args) : Calls P f args W fun e W' => e = .returned (.bool true) ∧ Below W.heap.size W W' := by
  refine (h.2 (envAt W) args (envAt_rel W) ha).mono ?_
  rintro e W' ⟨E', o, om', ⟨rfl, rfl⟩, rfl, hx, _, ho⟩
  refine ⟨?_, below_of_ext hx⟩
  cases e with
  | returned y => simp only [OutR] at ho; rw [ho.v_inv]
  | _ => simp [OutR] at ho

theorem post_true {H : Type} {enc : TypeId × Value → H} {P : Program} (hl : laidOutB P = true) {f : Func} {s : ChangeSpec} {apart fresh handsOn : Bool} {W W' : World} {args : Array Value} {ds gs : List (DataW H)} {before : List MemPlace} {tB : TypeId}
    (hW : DataW.Whole enc P f.params.toList s.vars apart W args.toList ds gs before) (hb : Below W.heap.size W W') (hr : f.resultTypes = #[tB]) (hB : P.underlying tB = some .bool) (hv : s.vars = [])
    (ht : ∀ t ∈ f.params.toList, P.readableRec t = true ∧ t < P.types.size) (hfn : (s.fn H (ds ++ gs)).results = [.lit (.bool true)] ∧ (s.fn H (ds ++ gs)).args = ds ∧ (s.fn H (ds ++ gs)).vars = []) :
    s.post enc P f apart fresh handsOn false W args (.bool true) W' := by
  have hlt := hW.lt
  obtain ⟨p, q, hA, hV, rfl, hz, hn⟩ := id hW
  have hV' := hV
  rw [hv] at hV'
  obtain ⟨rfl, rfl⟩ := trodVars_none hV'
  refine ⟨ds, [], p ++ [], [], p, [], hW, ?_, ?_, ?_, World.keptBut_mono (fun x hx => ⟨hx, .inr (.inl (by simpa using hx))⟩) (hb.frame _), fun h => by cases h⟩
  · rw [hfn.1, hr]
    exact trodAll_mk1 (shut_bool hB true)
  · rw [hfn.2.1]
    exact trodAll_below hl hb (sp := fun _ => true) ht hA (fun x hx => hlt x (by simp [hx]))
  · rw [hfn.2.2, hv]
    exact rfl
end Go.Proofs.Ytbpkppidbdhopaa.AWP
