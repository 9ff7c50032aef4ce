/- A contract in wider surroundings: other objects stay as they are. -/
import Derived.Test.YtlejbkfefpfolaaGreatDoorAwpT
set_option linter.unusedVariables false
set_option linter.unusedSimpArgs false
set_option linter.unusedSectionVars false
namespace Go.Proofs.YtlejbkfefpfolaaGreatDoor.AWP
open Go
theorem getElem?_app {α : Type} {l m : List α} {k : Nat} {x : α} (h : (l ++ m)[k]? = some x) : (k < l.length ∧ l[k]? = some x) ∨ (l.length ≤ k ∧ m[k - l.length]? = some x) := by
 rw [List.getElem?_append] at h
 split at h
 ·exact .inl ⟨by assumption, h⟩
 ·exact .inr ⟨by omega, h⟩
theorem AC.frame {P : Program} {f : FuncId} {ds : List D} {om fr : List Ob} {R : Out → List Ob → Prop} (h : AC P f ds om R) (ho : ∀ o ∈ om, ObAll (Bl om.length) o) (hds : ∀ d ∈ ds, Bl om.length d)
  (hl : ∀ o om', R o om' → om'.length = om.length) : AC P f ds (om ++ fr) fun o om2 => ∃ om', R o om' ∧ om2 = om' ++ fr := by
 refine ⟨h.1, fun E vs hR hA => ?_⟩
 have hn : om.length + fr.length = E.n := by rw [← hR.len]; simp
 let E1 : Env := ⟨om.length, E.g, E.A, E.w⟩
 have rd1 : ∀ d, Bl om.length d → ∀ y, Rd E d y → Rd E1 d y := fun d hd y hy => Rd.bl (E := E) (E2 := E1) (n := om.length) (Nat.le_refl _) (fun _ _ => rfl) (fun _ h => h) rfl hy hd
 have sub : ∀ {k : Nat} {o : Ob}, om[k]? = some o → (om ++ fr)[k]? = some o := fun {k o} hk => by rw [List.getElem?_append_left (List.getElem?_eq_some_iff.1 hk).1]; exact hk
 have sub2 : ∀ {k : Nat} {o : Ob}, fr[k]? = some o → (om ++ fr)[om.length + k]? = some o := fun {k o} hk => by rw [List.getElem?_append_right (by omega)]; simpa using hk
 have hR1 : Rel E1 om := by
  refine ⟨rfl, fun k o hk => ?_, fun k k' o o' b hk hk' hl hl' hb hb' => hR.inj k k' o o' b (sub hk) (sub hk') hl hl' hb hb', hR.old, fun k hk => hR.one k (by show k < E.n; have : k < om.length := hk; omega), fun g c h => rd1 _ ((gtab_bl h).mono (Nat.zero_le _)) _ (hR.gt g c h)⟩
  exact ObR.via (E := E) (k := k) rfl (ho o (List.mem_of_getElem? hk)) rd1 (fun hl b hb => ⟨rfl, fun hA => hR.notlive hA ⟨k, o, sub hk, hl, hb⟩⟩) (hR.ob k o (sub hk))
 refine (h.2 E1 vs hR1 ⟨hA.1, fun j d hj => rd1 d (hds d (List.mem_of_getElem? hj)) _ (hA.2 j d hj)⟩).mono ?_
 rintro e w' ⟨E', o, om', hr, rfl, hx, hR', hO⟩
 have hlen := hl o om' hr
 have hn' : E'.n = om.length := by rw [← hR'.len, hlen]
 let E2 : Env := ⟨E.n, E.g, E'.A, E'.w⟩
 have hg : ∀ k, k < E'.n → E2.g k = E'.g k := fun k hk => (hx.g k (by show k < om.length; omega)).symm
 have rd2 : ∀ d y, Rd E' d y → Rd E2 d y := fun d y hy => Rd.gen (E := E') (E' := E2) (by show E'.n ≤ E.n; omega) hg (fun _ h => h) (fun _ _ => rfl) hy
 have live1 : ∀ {b}, Live E1 om b → Live E (om ++ fr) b := by
  rintro b ⟨k, o, hk, hl, hb⟩
  exact ⟨k, o, sub hk, hl, hb⟩
 have sep : ∀ {k o b}, fr[k]? = some o → o.live = true → hb (E.g (om.length + k)) = some b → ¬ Live E1 om b := by
  rintro k o b hk hl hb ⟨k', o', hk', hl', hb'⟩
  have := hR.inj _ _ _ _ b (sub2 hk) (sub hk') hl hl' hb hb'
  have := (List.getElem?_eq_some_iff.1 hk').1
  omega
 have lt : ∀ {k o b}, fr[k]? = some o → o.live = true → hb (E.g (om.length + k)) = some b → b < E.w.heap.size ∧ ¬ E.A b := fun hk hl hb => hR.live_lt ⟨_, _, sub2 hk, hl, hb⟩
 have rd3 : ∀ d y, Rd E d y → Rd E2 d y := fun d y hy => Rd.gen (E := E) (E' := E2) (Nat.le_refl _) (fun _ _ => rfl) hx.A (h := hy) fun a hA => World.cell?_of_block (hx.keep _ (hR.old _ hA) fun hL => hR.notlive hA (live1 hL))
 have cases2 : ∀ {k o}, (om' ++ fr)[k]? = some o → (k < om.length ∧ om'[k]? = some o) ∨ ∃ j, k = om.length + j ∧ fr[j]? = some o := by
  intro k o hk
  rcases getElem?_app hk with ⟨h1, h2⟩ | ⟨h1, h2⟩
  ·exact .inl ⟨by omega, h2⟩
  ·exact .inr ⟨k - om'.length, by omega, h2⟩
 have live' : ∀ {k o b}, om'[k]? = some o → o.live = true → hb (E.g k) = some b → Live E' om' b := by
  intro k o b hk hl hb
  refine ⟨k, o, hk, hl, ?_⟩
  rw [hx.g k (by have := (List.getElem?_eq_some_iff.1 hk).1; show k < om.length; omega)]
  exact hb
 have mix : ∀ {k j o o' b}, om'[k]? = some o → o.live = true → hb (E.g k) = some b → fr[j]? = some o' → o'.live = true → hb (E.g (om.length + j)) = some b → False := by
  intro k j o o' b hk hl hb hj hl' hb'
  rcases hx.live b (live' hk hl hb) with h | h
  ·exact sep hj hl' hb' h
  ·have := (lt hj hl' hb').1
   have h : E.w.heap.size ≤ b := h
   omega
 refine ⟨E2, o, om' ++ fr, ⟨om', hr, rfl⟩, rfl, ?_, ?_, ?_⟩
 ·refine ⟨Nat.le_refl _, fun _ _ => rfl, hx.A, hx.size, hx.os, hx.tape, hx.output, fun b hb hn => hx.keep b hb fun hL => hn (live1 hL), ?_, fun b hA => ?_⟩
  ·rintro b ⟨k, o, hk, hl, hb⟩
   rcases cases2 hk with ⟨_, h2⟩ | ⟨j, rfl, h2⟩
   ·exact (hx.live b (live' h2 hl hb)).imp live1 id
   ·exact .inl ⟨_, _, sub2 h2, hl, hb⟩
  ·exact (hx.newA b hA).imp id fun h => h.imp live1 id
 ·refine ⟨by simp [hlen]; exact hn, fun k o hk => ?_, fun k k' o o' b hk hk' hl hl' hb hb' => ?_, hR'.old, hR.one, fun g c h => rd2 _ _ (hR'.gt g c h)⟩
  ·rcases cases2 hk with ⟨h1, h2⟩ | ⟨j, rfl, h2⟩
   ·refine ObR.via (E := E') (k := k) (hg k (by omega)) ObAll.triv (fun d _ y => rd2 d y) (fun hl b hb => ⟨rfl, ?_⟩) (hR'.ob k o h2)
    exact (hR'.live_lt ⟨k, o, h2, hl, hb⟩).2
   ·refine ObR.via (E := E) (k := om.length + j) rfl ObAll.triv (fun d _ y => rd3 d y) (fun hl b hb => ?_) (hR.ob _ o (sub2 h2))
    have h3 := lt h2 hl hb
    have h4 := sep h2 hl hb
    refine ⟨hx.keep b h3.1 h4, fun hA => ?_⟩
    rcases hx.newA b hA with h | h | h
    ·exact h3.2 h
    ·exact h4 h
    ·have h : E.w.heap.size ≤ b := h
     omega
  ·rcases cases2 hk with ⟨h1, h2⟩ | ⟨j, rfl, h2⟩ <;> rcases cases2 hk' with ⟨h1', h2'⟩ | ⟨j', rfl, h2'⟩
   ·exact hR'.inj k k' o o' b h2 h2' hl hl' (by rw [← hg k (by omega)]; exact hb) (by rw [← hg k' (by omega)]; exact hb')
   ·exact (mix h2 hl hb h2' hl' hb').elim
   ·exact (mix h2' hl' hb' h2 hl hb).elim
   ·exact hR.inj _ _ _ _ b (sub2 h2) (sub2 h2') hl hl' hb hb'
 ·cases o <;> cases e <;> simp only [OutR] at hO ⊢
  ·exact rd2 _ _ hO
  ·obtain ⟨y, h1, h2⟩ := hO
   exact ⟨y, h1, rd2 _ _ h2⟩
end Go.Proofs.YtlejbkfefpfolaaGreatDoor.AWP
