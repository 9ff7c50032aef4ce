/- A contract in wider surroundings: other objects ahead stay as they are. -/
import Derived.Test.YtlejbkfefpfolaaGreatDoorAwpU
set_option linter.unusedVariables false
set_option linter.unusedSimpArgs false
set_option linter.unusedSectionVars false
namespace Go.Proofs.YtlejbkfefpfolaaGreatDoor.AWP
open Go
def ShA (c : Nat) (d d' : D) : Prop := (Bl 0 d ∧ d' = d) ∨ ∃ k off, d = .ref k off ∧ d' = .ref (c + k) off
def OutBl : Out → Prop
 | .ret d => Bl 0 d
 | .panic d => Bl 0 d
theorem AC.shift {P : Program} {f : FuncId} {ds ds' : List D} {om fr : List Ob} {R : Out → List Ob → Prop} (h : AC P f ds om R) (hlen : ds'.length = ds.length)
  (hds : ∀ (j : Nat) (d d' : D), ds[j]? = some d → ds'[j]? = some d' → ShA fr.length d d') (ho : ∀ o ∈ om, ObAll (Bl 0) o)
  (hl : ∀ o om', R o om' → om'.length = om.length ∧ OutBl o ∧ ∀ x ∈ om', ObAll (Bl 0) x) : AC P f ds' (fr ++ om) fun o om2 => ∃ om', R o om' ∧ om2 = fr ++ om' := by
 refine ⟨h.1, fun E vs hR hA => ?_⟩
 have hn : fr.length + om.length = E.n := by rw [← hR.len]; simp
 let E1 : Env := ⟨om.length, fun k => E.g (fr.length + k), E.A, E.w⟩
 have rd1 : ∀ d, Bl 0 d → ∀ y, Rd E d y → Rd E1 d y := fun d hd y hy => Rd.bl (E := E) (E2 := E1) (n := 0) (Nat.zero_le _) (fun _ h => absurd h (Nat.not_lt_zero _)) (fun _ h => h) rfl hy hd
 have sub : ∀ {k : Nat} {o : Ob}, om[k]? = some o → (fr ++ om)[fr.length + k]? = some o := fun {k o} hk => by rw [List.getElem?_append_right (by omega)]; simpa using hk
 have sub2 : ∀ {k : Nat} {o : Ob}, fr[k]? = some o → (fr ++ om)[k]? = some o := fun {k o} hk => by rw [List.getElem?_append_left (List.getElem?_eq_some_iff.1 hk).1]; exact hk
 have hR1 : Rel E1 om := by
  refine ⟨rfl, fun k o hk => ?_, fun k k' o o' b hk hk' hl hl' hb hb' => ?_, hR.old, fun k hk => hR.one _ (by show fr.length + k < E.n; have : k < om.length := hk; omega), fun g c h => rd1 _ (gtab_bl h) _ (hR.gt g c h)⟩
  ·exact ObR.via (E := E) (k := fr.length + k) rfl (ho o (List.mem_of_getElem? hk)) rd1 (fun hl b hb => ⟨rfl, fun hA => hR.notlive hA ⟨_, o, sub hk, hl, hb⟩⟩) (hR.ob _ o (sub hk))
  ·have := hR.inj _ _ o o' b (sub hk) (sub hk') hl hl' hb hb'
   omega
 have rdA : ∀ d d' y, ShA fr.length d d' → Rd E d' y → (∀ k off, d = .ref k off → fr.length + k < E.n) → Rd E1 d y := by
  rintro d d' y (⟨h1, rfl⟩ | ⟨k, off, rfl, rfl⟩) hy hk
  ·exact rd1 _ h1 _ hy
  ·cases hy with
   | ref hk' hg => exact .ref (by show k < om.length; omega) hg
 have kk : ∀ d d' y, ShA fr.length d d' → Rd E d' y → ∀ k off, d = .ref k off → fr.length + k < E.n := by
  rintro d d' y (⟨h1, rfl⟩ | ⟨k, off, rfl, rfl⟩) hy k' off' e
  ·subst e; cases h1 with | ref h => exact absurd h (Nat.not_lt_zero _)
  ·cases e
   cases hy with
   | ref hk' hg => exact hk'
 refine (h.2 E1 vs hR1 ⟨by rw [hA.1, hlen], fun j d hj => ?_⟩).mono ?_
 ·have hj' : j < ds'.length := by rw [hlen]; exact (List.getElem?_eq_some_iff.1 hj).1
  have hs := hds j d ds'[j] hj (List.getElem?_eq_getElem hj')
  have hy := hA.2 j _ (List.getElem?_eq_getElem hj')
  exact rdA _ _ _ hs hy (kk _ _ _ hs hy)
 rintro e w' ⟨E', o, om', hr, rfl, hx, hR', hO⟩
 obtain ⟨hlen', hob, hoa⟩ := hl o om' hr
 have hn' : E'.n = om.length := by rw [← hR'.len, hlen']
 let E2 : Env := ⟨E.n, E.g, E'.A, E'.w⟩
 have hg : ∀ k, k < E'.n → E2.g (fr.length + k) = E'.g k := fun k hk => (hx.g k (by show k < om.length; omega)).symm
 have rd2 : ∀ d, Bl 0 d → ∀ y, Rd E' d y → Rd E2 d y := fun d hd y hy => Rd.bl (E := E') (E2 := E2) (n := 0) (Nat.zero_le _) (fun _ h => absurd h (Nat.not_lt_zero _)) (fun _ h => h) rfl hy hd
 have live1 : ∀ {b}, Live E1 om b → Live E (fr ++ om) b := by
  rintro b ⟨k, o, hk, hl, hb⟩
  exact ⟨_, o, sub hk, hl, hb⟩
 have sep : ∀ {k o b}, fr[k]? = some o → o.live = true → hb (E.g k) = some b → ¬ Live E1 om b := by
  rintro k o b hk hl hb ⟨k', o', hk', hl', hb'⟩
  have := hR.inj _ _ _ _ b (sub2 hk) (sub hk') hl hl' hb hb'
  have := (List.getElem?_eq_some_iff.1 hk).1
  omega
 have lt : ∀ {k o b}, fr[k]? = some o → o.live = true → hb (E.g k) = some b → b < E.w.heap.size ∧ ¬ E.A b := fun hk hl hb => hR.live_lt ⟨_, _, sub2 hk, hl, hb⟩
 have rd3 : ∀ d y, Rd E d y → Rd E2 d y := fun d y hy => Rd.gen (E := E) (E' := E2) (Nat.le_refl _) (fun _ _ => rfl) hx.A (h := hy) fun a hA => World.cell?_of_block (hx.keep _ (hR.old _ hA) fun hL => hR.notlive hA (live1 hL))
 have cases2 : ∀ {k o}, (fr ++ om')[k]? = some o → (∃ j, k = fr.length + j ∧ j < om.length ∧ om'[j]? = some o) ∨ (k < fr.length ∧ fr[k]? = some o) := by
  intro k o hk
  rcases getElem?_app hk with ⟨h1, h2⟩ | ⟨h1, h2⟩
  ·exact .inr ⟨h1, h2⟩
  ·exact .inl ⟨k - fr.length, by omega, by have := (List.getElem?_eq_some_iff.1 h2).1; omega, h2⟩
 have live' : ∀ {k o b}, om'[k]? = some o → o.live = true → hb (E.g (fr.length + k)) = some b → Live E' om' b := by
  intro k o b hk hl hb
  refine ⟨k, o, hk, hl, ?_⟩
  rw [hx.g k (by have := (List.getElem?_eq_some_iff.1 hk).1; show k < om.length; omega)]
  exact hb
 have mix : ∀ {k j o o' b}, om'[k]? = some o → o.live = true → hb (E.g (fr.length + k)) = some b → fr[j]? = some o' → o'.live = true → hb (E.g j) = some b → False := by
  intro k j o o' b hk hl hb hj hl' hb'
  rcases hx.live b (live' hk hl hb) with h | h
  ·exact sep hj hl' hb' h
  ·have := (lt hj hl' hb').1
   have h : E.w.heap.size ≤ b := h
   omega
 refine ⟨E2, o, fr ++ om', ⟨om', hr, rfl⟩, rfl, ?_, ?_, ?_⟩
 ·refine ⟨Nat.le_refl _, fun _ _ => rfl, hx.A, hx.size, hx.os, hx.tape, hx.output, fun b hb hn => hx.keep b hb fun hL => hn (live1 hL), ?_, fun b hA => ?_⟩
  ·rintro b ⟨k, o, hk, hl, hb⟩
   rcases cases2 hk with ⟨j, rfl, _, h2⟩ | ⟨_, h2⟩
   ·exact (hx.live b (live' h2 hl hb)).imp live1 id
   ·exact .inl ⟨_, _, sub2 h2, hl, hb⟩
  ·exact (hx.newA b hA).imp id fun h => h.imp live1 id
 ·refine ⟨by simp [hlen']; exact hn, fun k o hk => ?_, fun k k' o o' b hk hk' hl hl' hb hb' => ?_, hR'.old, hR.one, fun g c h => rd2 _ (gtab_bl h) _ (hR'.gt g c h)⟩
  ·rcases cases2 hk with ⟨j, rfl, h1, h2⟩ | ⟨h1, h2⟩
   ·refine ObR.via (E := E') (k := j) (p := Bl 0) (hg j (by omega)) (hoa _ (List.mem_of_getElem? h2)) (fun d hd y => rd2 d hd y) (fun hl b hb => ⟨rfl, ?_⟩) (hR'.ob j o h2)
    exact (hR'.live_lt ⟨j, o, h2, hl, hb⟩).2
   ·refine ObR.via (E := E) (k := k) rfl ObAll.triv (fun d _ y => rd3 d y) (fun hl b hb => ?_) (hR.ob _ o (sub2 h2))
    have h3 := lt h2 hl hb
    have h4 := sep h2 hl hb
    refine ⟨hx.keep b h3.1 h4, fun hA => ?_⟩
    rcases hx.newA b hA with h | h | h
    ·exact h3.2 h
    ·exact h4 h
    ·have h : E.w.heap.size ≤ b := h
     omega
  ·rcases cases2 hk with ⟨j, rfl, h1, h2⟩ | ⟨h1, h2⟩ <;> rcases cases2 hk' with ⟨j', rfl, h1', h2'⟩ | ⟨h1', h2'⟩
   ·exact congrArg (fr.length + ·) (hR'.inj j j' o o' b h2 h2' hl hl' (by rw [← hg j (by omega)]; exact hb) (by rw [← hg j' (by omega)]; exact hb'))
   ·exact (mix h2 hl hb h2' hl' hb').elim
   ·exact (mix h2' hl' hb' h2 hl hb).elim
   ·exact hR.inj _ _ _ _ b (sub2 h2) (sub2 h2') hl hl' hb hb'
 ·cases o <;> cases e <;> simp only [OutR] at hO ⊢
  ·exact rd2 _ hob _ hO
  ·obtain ⟨y, h1, h2⟩ := hO
   exact ⟨y, h1, rd2 _ hob _ h2⟩
end Go.Proofs.YtlejbkfefpfolaaGreatDoor.AWP
