/- The built-in copy into a row of one's own. -/
import Derived.Test.YtlejbkfefpfolaaGreatDoorLogicA
import Derived.Laws.CopyRow
import Derived.Laws.IdiomCopy
set_option linter.unusedVariables false
set_option linter.unusedSimpArgs false
set_option linter.unusedSectionVars false
namespace Go.Proofs.YtlejbkfefpfolaaGreatDoor.AWP
open Go
theorem set_same {α : Type} {l : List α} {k : Nat} {x : α} (h : l[k]? = some x) : l.set k x = l := by
 refine List.ext_getElem? fun j => ?_
 rw [List.getElem?_set]
 split
 ·rename_i e; subst e
  split
  ·exact h.symm
  ·rename_i hn; rw [List.getElem?_eq_none (by omega)]
 ·rfl
theorem put_okG {E : Env} {om : List Ob} (hR : Rel E om) {k b : Nat} {o0 : Ob} (ho : om[k]? = some o0) (hlo : o0.live = true) (hg : hb (E.g k) = some b) (obj : Obj) (o : Ob)
  (hob : Ext E om { E with w := E.w.putObj b obj } (om.set k o) → ObR { E with w := E.w.putObj b obj } k o) : Ext E om { E with w := E.w.putObj b obj } (om.set k o) ∧ Rel { E with w := E.w.putObj b obj } (om.set k o) := by
 have hk : k < om.length := (List.getElem?_eq_some_iff.1 ho).1
 have hlv : Live E om b := ⟨k, _, ho, hlo, hg⟩
 have hget : ∀ (j : Nat) (o1 : Ob), (om.set k o)[j]? = some o1 → (j = k ∧ o1 = o) ∨ (j ≠ k ∧ om[j]? = some o1) := by
  intro j o1 h
  rw [List.getElem?_set] at h
  split at h
  ·rename_i e
   have h' : o = o1 := by simpa [hk] using h
   exact .inl ⟨e.symm, h'.symm⟩
  ·rename_i e
   exact .inr ⟨fun h => e h.symm, h⟩
 have same : ∀ j, j ≠ b → (E.w.putObj b obj).heap[j]? = E.w.heap[j]? := fun j hj => World.putObj_heap_other hj
 have hx : Ext E om { E with w := E.w.putObj b obj } (om.set k o) := by
  refine ⟨Nat.le_refl _, fun _ _ => rfl, fun _ h => h, by show E.w.heap.size ≤ (E.w.putObj b obj).heap.size; rw [World.putObj_size]; exact Nat.le_refl _, rfl, rfl, rfl, fun b' hb' hn => same b' (fun e => hn (e ▸ hlv)), ?_, fun b hA => .inl hA⟩
  rintro b' ⟨j, o1, hj, hl, hgj⟩
  rcases hget j o1 hj with ⟨rfl, rfl⟩ | ⟨_, h⟩
  ·have hgj : hb (E.g j) = some b' := hgj
   rw [hg] at hgj
   injection hgj with e
   exact .inl (e ▸ hlv)
  ·exact .inl ⟨j, o1, h, hl, hgj⟩
 refine ⟨hx, by rw [List.length_set]; exact hR.len, fun j o1 hj => ?_, fun i j o1 o2 b' h1 h2 h3 h4 h5 h6 => ?_, fun b' hA => by show b' < (E.w.putObj b obj).heap.size; rw [World.putObj_size]; exact hR.old b' hA, hR.one, fun g c h => (hR.gt g c h).ext hR hx⟩
 ·rcases hget j o1 hj with ⟨rfl, rfl⟩ | ⟨hne, h⟩
  ·exact hob hx
  ·refine ObR.keep hR hx (by rw [← hR.len]; exact (List.getElem?_eq_some_iff.1 h).1) (hR.ob j o1 h) fun hl b' hb' => ⟨same b' fun e => hne (hR.inj j k _ _ b h ho hl hlo (e ▸ hb') hg), (hR.live_lt ⟨j, o1, h, hl, hb'⟩).2⟩
 ·have look : ∀ (i : Nat) (o1 : Ob), (om.set k o)[i]? = some o1 → o1.live = true → ∃ o2, om[i]? = some o2 ∧ o2.live = true := by
   intro i o1 h hl
   rcases hget i o1 h with ⟨rfl, rfl⟩ | ⟨_, h⟩
   ·exact ⟨_, ho, hlo⟩
   ·exact ⟨o1, h, hl⟩
  obtain ⟨a1, q1, q2⟩ := look i o1 h1 h3
  obtain ⟨a2, q3, q4⟩ := look j o2 h2 h4
  exact hR.inj i j a1 a2 b' q1 q3 q2 q4 h5 h6
theorem setRow_put {w : World} {g : Nat} {cur new : Array Value} {t : TypeId} (h : w.heap[g]? = some (.cells cur t (0, 0))) : w.setRow g new = w.putObj g (.cells new t (0, 0)) := by
 unfold World.setRow World.putObj
 congr 1
 refine Array.ext_getElem? fun j => ?_
 rw [Array.getElem?_modify, Array.getElem?_setIfInBounds]
 by_cases e : g = j
 ·subst e
  rw [if_pos rfl, if_pos rfl, h]
  have hlt : g < w.heap.size := (Array.getElem?_eq_some_iff.1 h).1
  rw [if_pos hlt]
  rfl
 ·rw [if_neg e, if_neg e]
theorem copy_ok {P : Program} {T : Tab} {E : Env} {om : List Ob} (hT : TabOk P T) (hR : Rel E om) {t t' ty e e' : Nat} {i ei : TI} (ht : T t = some i) (hk : i.kd = .slice e) (he : T e = some ei) (h1 : ei.size = 1) {k : Nat} {rows rows' : List (List D)} {src : D} {y : Value}
  (ho : om[k]? = some (.slc e' 1 rows)) (hsrc : srcRows om 1 src = some rows') (hy : Rd E src y) :
  Eff P (Builtin.copy_ #[t, t'] ty #[E.g k, y]) E om (.i (min rows'.length rows.length : Nat)) (om.set k (.slc e' 1 (rows'.take rows.length ++ rows.drop rows'.length))) := by
 have hu := (hT _ _ ht).slice hk
 obtain ⟨inf, z, hinf, hsize, hbytes, hzero, hz, _⟩ := (hT _ _ he).info
 have hs1 : (P.info? e).map (·.size) = some 1 := by rw [hinf]; simp [hsize, h1]
 obtain ⟨a, m, c, rfl, hs', hcase⟩ := srcRows_ok hR hsrc hy
 obtain ⟨_, hrs, hob⟩ := hR.ob k _ ho
 have nothing : min rows'.length rows.length = 0 → Nat.min m rows.length = 0 → Eff P (Builtin.copy_ #[t, t'] ty #[E.g k, .slice a m c]) E om (.i (min rows'.length rows.length : Nat)) (om.set k (.slc e' 1 (rows'.take rows.length ++ rows.drop rows'.length))) := by
  intro h0 h0'
  have er : rows'.take rows.length ++ rows.drop rows'.length = rows := by
   rcases Nat.eq_zero_or_pos rows'.length with hz' | hz'
   ·rw [List.eq_nil_of_length_eq_zero hz']; simp
   ·have : rows.length = 0 := by omega
    rw [List.eq_nil_of_length_eq_zero this]; simp
  rw [er, set_same ho, h0]
  have hrun : (Builtin.copy_ #[t, t'] ty #[E.g k, .slice a m c]).run P E.w = .ok (goInt 0) E.w := by
   rcases hob with ⟨hg, hr0⟩ | ⟨b, cs, cap, hg, _⟩
   ·rw [hg]
    exact run_copy_none (P := P) E.w t t' ty e none a 0 0 m c hu hs1 (Nat.min_zero m)
   ·rw [hg]
    exact run_copy_none (P := P) E.w t t' ty e _ a _ cap m c hu hs1 h0'
  exact ⟨E, _, hrun, Ext.refl _ _, hR, .v _⟩
 by_cases h0 : min rows'.length rows.length = 0
 ·refine nothing h0 ?_
  rcases hcase with ⟨_, _, hm⟩ | ⟨hm, _⟩
  ·rw [hm]; exact Nat.zero_min _
  ·rw [hm]; exact h0
 have hr' : rows' ≠ [] := by rintro rfl; simp at h0
 have hr : rows ≠ [] := by rintro rfl; simp at h0
 rcases hcase with ⟨h, _⟩ | ⟨hm, hcase⟩
 ·exact absurd h hr'
 rcases hcase with h | ⟨ad, ha, hrow⟩
 ·exact absurd h hr'
 subst ha hm
 rcases hob with ⟨_, h⟩ | ⟨b, cs, cap, hg, hheap, hnA, hsz, hle, hmx, hcells⟩
 ·exact absurd h hr
 have hrow1 : ∀ (j : Nat) (r : List D), rows'[j]? = some r → ∃ d u, r = [d] ∧ E.w.cell? (ad.add j) = some u ∧ u.oneCell' = true ∧ Rd E d u := by
  intro j r hj
  have hl := hs' r (List.mem_of_getElem? hj)
  obtain ⟨d, rfl⟩ : ∃ d, r = [d] := by
   match r, hl with
   | [d], _ => exact ⟨d, rfl⟩
  obtain ⟨u, q1, q2, q3⟩ := hrow j _ hj 0 d rfl
  refine ⟨d, u, rfl, ?_, q2, q3⟩
  rw [Nat.mul_one, add_add, Nat.add_zero] at q1
  exact q1
 let n := min rows'.length rows.length
 let new : List Value := (List.range n).map fun j => (E.w.cell? (ad.add j)).getD undef
 have hnew : ∀ j, j < n → ∃ d u, rows'[j]? = some [d] ∧ new[j]? = some u ∧ E.w.cell? (ad.add j) = some u ∧ u.oneCell' = true ∧ Rd E d u := by
  intro j hj
  have hj' : j < rows'.length := Nat.lt_of_lt_of_le hj (Nat.min_le_left _ _)
  obtain ⟨d, u, q0, q1, q2, q3⟩ := hrow1 j _ (List.getElem?_eq_getElem hj')
  refine ⟨d, u, by rw [List.getElem?_eq_getElem hj', q0], ?_, q1, q2, q3⟩
  simp only [new, List.getElem?_map, List.getElem?_range hj, Option.map_some, q1, Option.getD_some]
 have hnl : new.length = n := by simp [new]
 have hrun := run_copy_row P E.w t t' ty e b 0 rows.length cap ad rows'.length c cs e' new hu hs1 hheap (by rw [hnl]) (fun j v hj => by
   have hjn : j < n := by rw [← hnl]; exact (List.getElem?_eq_some_iff.1 hj).1
   obtain ⟨d, u, _, q1, q2, _⟩ := hnew j hjn
   rw [q1] at hj; cases hj
   exact q2) (by rw [hnl, hsz]; have := Nat.min_le_right rows'.length rows.length; show 0 + n ≤ cap * 1; omega) (fun v hv => by
   obtain ⟨j, hj⟩ := List.getElem?_of_mem hv
   have hjn : j < n := by rw [← hnl]; exact (List.getElem?_eq_some_iff.1 hj).1
   obtain ⟨d, u, _, q1, _, q3, _⟩ := hnew j hjn
   rw [q1] at hj; cases hj
   exact q3)
 have hrun' : (Builtin.copy_ #[t, t'] ty #[E.g k, .slice (some ad) rows'.length c]).run P E.w = .ok (.int .i64 (n : Nat)) (E.w.putObj b (.cells (cs.toList.take 0 ++ new ++ cs.toList.drop (0 + new.length)).toArray e' (0, 0))) := by
  rw [hg, hrun, setRow_put hheap, hnl]
  rfl
 generalize hcs' : (cs.toList.take 0 ++ new ++ cs.toList.drop (0 + new.length)).toArray = cs' at hrun'
 have hcsL : cs' = (new ++ cs.toList.drop n).toArray := by rw [← hcs', hnl]; simp
 have hget : ∀ j : Nat, cs'[j]? = (new ++ cs.toList.drop n)[j]? := fun j => by rw [hcsL]; simp
 have hcsz : cs'.size = n + (cs.size - n) := by rw [hcsL]; simp [hnl]
 have hgb : hb (E.g k) = some b := by rw [hg]; rfl
 obtain ⟨hx, hR'⟩ := put_okG hR ho rfl hgb (.cells cs' e' (0, 0)) (.slc e' 1 (rows'.take rows.length ++ rows.drop rows'.length)) (fun hx => by
  refine ⟨Nat.one_pos, ?_, .inr ⟨b, cs', cap, ?_, ?_, hnA, ?_, ?_, hmx, ?_⟩⟩
  ·intro r hr
   rcases List.mem_append.1 hr with h | h
   ·exact hs' r (List.mem_of_mem_take h)
   ·exact hrs r (List.mem_of_mem_drop h)
  ·show E.g k = _
   rw [hg]
   congr 1
   simp; omega
  ·exact World.putObj_heap_same (Array.getElem?_eq_some_iff.1 hheap).1
  ·rw [hcsz, hsz]
   have := Nat.min_le_right rows'.length rows.length
   show n + (cap * 1 - n) = cap * 1
   omega
  ·simp; omega
  ·intro j d hj
   have hall : ∀ r ∈ rows'.take rows.length ++ rows.drop rows'.length, r.length = 1 := by
    intro r hr
    rcases List.mem_append.1 hr with h | h
    ·exact hs' r (List.mem_of_mem_take h)
    ·exact hrs r (List.mem_of_mem_drop h)
   obtain ⟨i', r, j', q1, q2, q3, q4⟩ := flatten_inv hall hj
   have hr1 := hall r (List.mem_of_getElem? q1)
   have hj0 : j' = 0 := by have := (List.getElem?_eq_some_iff.1 q2).1; omega
   subst hj0
   have hji : j = i' := by omega
   subst hji
   rw [hget]
   by_cases hjn : j < n
   ·obtain ⟨d', u, p1, p2, p3, p4, p5⟩ := hnew j hjn
    have hjr : j < rows.length := Nat.lt_of_lt_of_le hjn (Nat.min_le_right _ _)
    rw [List.getElem?_append_left (by rw [List.length_take]; omega), List.getElem?_take_of_lt hjr, p1] at q1
    cases q1
    simp at q2
    subst q2
    exact ⟨u, by rw [List.getElem?_append_left (by rw [hnl]; exact hjn)]; exact p2, p4, p5.ext hR hx⟩
   ·have hlt : (rows'.take rows.length).length = n := by rw [List.length_take]; omega
    rw [List.getElem?_append_right (by omega), hlt, List.getElem?_drop] at q1
    have hjl := (List.getElem?_eq_some_iff.1 q1).1
    have hn2 : n = rows'.length := by omega
    have ej : rows'.length + (j - n) = j := by omega
    rw [ej] at q1
    obtain ⟨u, p1, p2, p3⟩ := hcells j d (by have := flatten_get hrs q1 q2; rwa [Nat.mul_one, Nat.add_zero] at this)
    refine ⟨u, ?_, p2, p3.ext hR hx⟩
    rw [List.getElem?_append_right (by rw [hnl]; omega), hnl, List.getElem?_drop, show n + (j - n) = j from by omega]
    simpa using p1)
 exact ⟨_, _, hrun', hx, hR', .v _⟩
end Go.Proofs.YtlejbkfefpfolaaGreatDoor.AWP
