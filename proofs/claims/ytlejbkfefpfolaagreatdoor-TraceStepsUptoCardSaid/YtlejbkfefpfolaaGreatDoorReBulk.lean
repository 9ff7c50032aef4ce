/- What is handed in, read as expressions: no greater than what the row's form counts. -/
import Derived.Test.YtlejbkfefpfolaaGreatDoorTraceA
import Derived.Test.YtlejbkfefpfolaaGreatDoorBridge
import Derived.Test.YtlejbkfefpfolaaGreatDoorMath
import Derived.Test.YtlejbkfefpfolaaGreatDoorRows
import Derived.JoinedCond
set_option linter.unusedVariables false
set_option linter.unusedSimpArgs false
set_option linter.unusedSectionVars false
set_option maxRecDepth 100000
namespace Go.Proofs.YtlejbkfefpfolaaGreatDoor.W
open Go Go.Proofs Go.Proofs.YtlejbkfefpfolaaGreatDoor.AWP Go.Proofs.YtlejbkfefpfolaaGreatDoor
open Go.ChangeShapes Go.WideShapes Go.ChangeAt Go.RowKit
theorem bulk_mem {H : Type} {d : DataW H} {l : List (DataW H)} (h : d ∈ l) : Rows.uptoBulk d ≤ Rows.uptoBulkAll l := by
 induction l with
 | nil => cases h
 | cons x r ih =>
  simp only [Rows.uptoBulkAll]
  cases List.mem_cons.1 h with
  | inl e => subst e; omega
  | inr e => have := ih e; omega
theorem bulk_szs {H : Type} : ∀ (ks : List Re) (ds : List (DataW H)), ks.length = ds.length → (∀ (i : Nat) (r : Re) (d : DataW H), ks[i]? = some r → ds[i]? = some d → r.sz ≤ Rows.uptoBulk d) → Re.szs ks ≤ Rows.uptoBulkAll ds
 | [], [], _, _ => by simp [Re.szs]
 | [], _ :: _, h, _ => by cases h
 | _ :: _, [], h, _ => by cases h
 | r :: ks, d :: ds, h, hp => by
  have h1 := hp 0 r d rfl rfl
  have h2 := bulk_szs ks ds (by simpa using h) fun i r d h1 h2 => hp (i + 1) r d h1 h2
  simp only [Re.szs, Rows.uptoBulkAll]
  omega
section
variable {H : Type} {enc : TypeId × Value → H} {P : Program} {W : World} {sp : Nat → Bool} {hd : Bool} {tRe tU8 tSet tW tRes : TypeId}
theorem res_readB (h : ReT P tRe tU8 tSet tW tRes) {n : Nat} (ih : ∀ m, m < n → ∀ cs x, DataW.trod enc P W 0 sp hd m tRe cs = some x → ∃ r : Re, CellsL (envAt W) cs r.c ∧ r.sz ≤ Rows.uptoBulk x.1 ∧ r.wd) {cs : List Value} {x : DataW H × List MemPlace}
  (hx : DataW.trod enc P W 0 sp hd n tRes cs = some x) : ∃ (ks : List Re) (y : Value), cs = [y] ∧ y.oneCell' = true ∧ Rd (envAt W) (.sl 6 (Re.cs ks)) y ∧ Re.szs ks + 1 ≤ Rows.uptoBulk x.1 ∧ Re.wds ks := by
 rcases DataW.trod_slice h.res hx with ⟨rfl, rfl⟩ | ⟨a, len, cap, elems, rest, m, rfl, rfl, rfl, hb, hl, hm, hlen, hel, _, _⟩
 ·exact ⟨[], _, rfl, rfl, Rd.sl (rows := []) ⟨0, 0, none⟩ (fun _ => .nilFunc) (by simp) (Nat.le_refl _) (Nat.zero_le _) (.inl rfl) (by simp) (by simp), by simp [Re.szs, Rows.uptoBulk], by rw [Re.wds]; trivial⟩
 ·obtain ⟨ks, h1, h2⟩ := pick_list (α := Re) (p := fun i r => (∀ (j : Nat) (d : D), r.c[j]? = some d → ∃ u, W.cell? ((a.add (i * 6)).add j) = some u ∧ u.oneCell' = true ∧ Rd (envAt W) d u) ∧ (∀ e, elems[i]? = some e → r.sz ≤ Rows.uptoBulk e.1) ∧ r.wd) len (fun i hi => by
   have e := hel i hi
   rw [List.getElem?_eq_getElem (by omega)] at e
   obtain ⟨cs', e1, e2⟩ := Option.bind_eq_some_iff.1 e
   obtain ⟨r, ⟨hr1, hr2⟩, hr3, hr4⟩ := ih m (by omega) cs' _ e2
   obtain ⟨_, q2, q3⟩ := World.cells?_some e1
   refine ⟨r, fun j d hj => ?_, fun e he => ?_, hr4⟩
   ·obtain ⟨y, y1, y2, y3⟩ := hr2 j d hj
    have hj6 : j < P.cellsOf tRe := by
     have := (List.getElem?_eq_some_iff.1 y1).1
     omega
    exact ⟨y, by rw [← y1, ← q3 j hj6, h.cRe], y2, y3⟩
   ·rw [List.getElem?_eq_getElem (by omega)] at he
    cases he
    exact hr3)
  refine ⟨ks, _, rfl, rfl, ?_, ?_, Re.wds_of fun x hx => ?_⟩
  ·rw [Re.cs_eq]
   refine Rd.sl_mk (by simp [h1]) (fun r hr => ?_) (by simp [h1]; exact hl) hm ?_
   ·obtain ⟨x, _, rfl⟩ := List.mem_map.1 hr
    simp
   ·rcases Nat.eq_zero_or_pos len with h0 | h0
    ·left
     simp [List.eq_nil_of_length_eq_zero (h1.trans h0)]
    ·right
     refine ⟨a, rfl, ?_, fun i r hi j d hj => ?_⟩
     ·obtain ⟨r0, hr0⟩ := get_ex (l := ks) (i := 0) (by omega)
      obtain ⟨u, hu, _⟩ := (h2 0 r0 hr0).1 0 (r0.c[0]'(by simp)) (List.getElem?_eq_getElem (by simp))
      have := cell_lt hu
      rw [add_block, add_block] at this
      exact this
     ·simp only [List.getElem?_map, Option.map_eq_some_iff] at hi
      obtain ⟨r0, hr0, rfl⟩ := hi
      exact (h2 i r0 hr0).1 j d hj
  ·have := bulk_szs ks (elems.map (·.1)) (by rw [List.length_map]; omega) fun i r d hr hd => by
    rw [List.getElem?_map, Option.map_eq_some_iff] at hd
    obtain ⟨e, he, rfl⟩ := hd
    exact (h2 i r hr).2.1 e he
   simp only [Rows.uptoBulk]
   omega
  ·obtain ⟨i, hi⟩ := List.getElem?_of_mem hx
   exact (h2 i x hi).2.2
theorem re_readB (h : ReT P tRe tU8 tSet tW tRes) : ∀ (n : Nat) (cs : List Value) (x : DataW H × List MemPlace), DataW.trod enc P W 0 sp hd n tRe cs = some x → ∃ r : Re, CellsL (envAt W) cs r.c ∧ r.sz ≤ Rows.uptoBulk x.1 ∧ r.wd := by
 intro n
 induction n using Nat.strongRecOn with
 | _ n ih =>
  intro cs x hx
  obtain ⟨f0, f1, f2, hs, ⟨t0, o0⟩, ⟨t1, o1⟩, ⟨t2, o2⟩⟩ := h.re
  obtain ⟨xs, m, rfl, rfl, hl, hlen, hf⟩ := DataW.trod_struct hs hx
  rw [h.cRe] at hl
  have g : ∀ i : Nat, i < 3 → ∃ y, xs[i]? = some y := fun i hi => ⟨_, List.getElem?_eq_getElem (by rw [hlen]; exact hi)⟩
  obtain ⟨y0, e0⟩ := g 0 (by omega)
  obtain ⟨y1, e1⟩ := g 1 (by omega)
  obtain ⟨y2, e2⟩ := g 2 (by omega)
  have q0 := hf 0 f0 rfl
  have q1 := hf 1 f1 rfl
  have q2 := hf 2 f2 rfl
  rw [e0, t0, o0, h.cU8] at q0
  rw [e1, t1, o1, h.cSet] at q1
  rw [e2, t2, o2, h.cRes] at q2
  match cs, hl with
  | [c0, c1, c2, c3, c4, c5], _ =>
   simp only [List.drop_succ_cons, List.drop_zero, List.take_succ_cons, List.take_zero] at q0 q1 q2
   obtain ⟨k, hk, _, _⟩ := DataW.trod_int h.u8 q0
   obtain ⟨ys, m', _, _, _, hyl, hy⟩ := DataW.trod_array h.set q1
   have gi : ∀ (i : Nat) (c : Value), i < 4 → (([c1, c2, c3, c4] : List Value).drop (i * P.cellsOf tW)).take (P.cellsOf tW) = [c] → ∃ z, c = .int .u64 z ∧ (Lit.int .u64 z).wf = true := by
    intro i c hi hc
    have := hy i hi
    rw [hc, List.getElem?_eq_getElem (by omega)] at this
    obtain ⟨z, hz, _, hw⟩ := DataW.trod_int h.w this
    exact ⟨z, by simpa using hz, hw⟩
   obtain ⟨a, rfl, wa⟩ := gi 0 c1 (by omega) (by rw [h.cW]; rfl)
   obtain ⟨b, rfl, wb⟩ := gi 1 c2 (by omega) (by rw [h.cW]; rfl)
   obtain ⟨c, rfl, wc⟩ := gi 2 c3 (by omega) (by rw [h.cW]; rfl)
   obtain ⟨d, rfl, wd⟩ := gi 3 c4 (by omega) (by rw [h.cW]; rfl)
   obtain ⟨ks, y, hy5, hy1, hrd, hsz, hwk⟩ := res_readB h (n := m) (fun m' hm' => ih m' (by omega)) q2
   simp only [List.cons.injEq, and_true] at hk hy5
   subst hk hy5
   refine ⟨.mk k a b c d ks, ⟨by simp, fun j dd hj => ?_⟩, ?_, ?_⟩
   ·rw [Re.c_mk] at hj
    match j, hj with
    | 0, hj => simp at hj; subst hj; exact ⟨_, rfl, rfl, .v _⟩
    | 1, hj => simp at hj; subst hj; exact ⟨_, rfl, rfl, .v _⟩
    | 2, hj => simp at hj; subst hj; exact ⟨_, rfl, rfl, .v _⟩
    | 3, hj => simp at hj; subst hj; exact ⟨_, rfl, rfl, .v _⟩
    | 4, hj => simp at hj; subst hj; exact ⟨_, rfl, rfl, .v _⟩
    | 5, hj => simp at hj; subst hj; exact ⟨_, rfl, hy1, hrd⟩
    | j + 6, hj => simp at hj
   ·have hm2 : y2.1 ∈ xs.map (·.1) := List.mem_map.2 ⟨y2, List.mem_of_getElem? e2, rfl⟩
    have := bulk_mem hm2
    simp only [Rows.uptoBulk, Re.sz]
    omega
   ·rw [Re.wd]
    refine ⟨?_, hwk⟩
    simp only [Lit.wf, Bool.and_eq_true, decide_eq_true_eq] at wa wb wc wd
    have u1 : IntKind.min .u64 = 0 := rfl
    have u2 : IntKind.max .u64 = 18446744073709551615 := rfl
    rw [u1, u2] at wa wb wc wd
    refine ⟨[a.toNat, b.toNat, c.toNat, d.toNat], ?_, rfl, ?_⟩
    ·simp only [List.map_cons, List.map_nil, List.cons.injEq, and_true]
     omega
    ·intro m hm'
     simp only [List.mem_cons, List.not_mem_nil, or_false] at hm'
     rcases hm' with rfl | rfl | rfl | rfl <;> omega
end
theorem re_argB {H : Type} {enc : TypeId × Value → H} {P : Program} {W : World} {sp : Nat → Bool} {hd : Bool} {tRe tU8 tSet tW tRes : TypeId} (h : ReT P tRe tU8 tSet tW tRes) {v : Value} {d : DataW H} {p : List MemPlace}
  (ht : DataW.Trod enc P W 0 sp hd tRe v d p) : ∃ r : Re, Rd (envAt W) (.agg r.c) v ∧ r.sz ≤ Rows.uptoBulk d ∧ r.wd := by
 obtain ⟨n, hn⟩ := ht
 obtain ⟨r, ⟨h1, h2⟩, h3, h4⟩ := re_readB h n _ _ hn
 rw [Re.c_len] at h1
 refine ⟨r, ?_, h3, h4⟩
 cases v with
 | agg cs =>
  have hl : cs.size = 6 := by simpa [Value.cells] using h1
  refine .agg cs (by rw [hl, Re.c_len]) (fun j hj => ?_) (fun j d' hj => ?_)
  ·obtain ⟨d', hd'⟩ := get_ex (l := r.c) (i := j) (by rw [Re.c_len]; omega)
   obtain ⟨y, e1, e2, _⟩ := h2 j d' hd'
   have : cs.getD j undef = y := by
    have e1' : cs[j]? = some y := by simpa [Value.cells] using e1
    simp [Array.getD_eq_getD_getElem?, e1']
   rw [this]; exact e2
  ·obtain ⟨y, e1, _, e3⟩ := h2 j d' hj
   have : cs.getD j undef = y := by
    have e1' : cs[j]? = some y := by simpa [Value.cells] using e1
    simp [Array.getD_eq_getD_getElem?, e1']
   rw [this]; exact e3
 | _ => simp [Value.cells] at h1
theorem bulk_all {H : Type} {l : List (DataW H)} (hk : Rows.uptoSmall H l = true) : Rows.uptoBulkAll l ≤ 1048576 := of_decide_eq_true hk
end Go.Proofs.YtlejbkfefpfolaaGreatDoor.W
