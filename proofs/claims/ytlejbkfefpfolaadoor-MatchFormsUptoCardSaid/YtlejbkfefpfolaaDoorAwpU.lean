/- A contract in wider surroundings: other objects stay as they are. -/
import Derived.Test.YtlejbkfefpfolaaDoorAwpT
set_option linter.unusedVariables false
set_option linter.unusedSimpArgs false
set_option linter.unusedSectionVars false
/- A contract in wider surroundings: other objects stay as they are. -/
namespace Go.Proofs.YtlejbkfefpfolaaDoor.AWP
open Go
/-- What an object reads as, datum by datum. -/
def ObAll (p : D → Prop) : Ob → Prop
  | .var _ c => ∀ d ∈ c, p d
  | .slc _ _ rows => ∀ r ∈ rows, ∀ d ∈ r, p d
  | .frz sz rows => p (.sl sz rows)
  | .frv c => p (.pel c)
  | .lp _ _ _ _ _ env => ∀ d ∈ env, p d
  | .dead => True
theorem ObAll.triv {o : Ob} : ObAll (fun _ => True) o := by cases o <;> simp [ObAll]
theorem CellsR.via {E E' : Env} {c : List D} {cs : Array Value} (rd : ∀ d ∈ c, ∀ y, Rd E d y → Rd E' d y) (h : CellsR E c cs) : CellsR E' c cs :=
  fun j d hj => let ⟨y, h1, h2, h3⟩ := h j d hj; ⟨y, h1, h2, rd d (List.mem_of_getElem? hj) y h3⟩
theorem ObR.via {E E' : Env} {k k' : Nat} {o : Ob} {p : D → Prop} (hg : E'.g k' = E.g k) (ha : ObAll p o) (rd : ∀ d, p d → ∀ y, Rd E d y → Rd E' d y)
    (hw : o.live = true → ∀ b, hb (E.g k) = some b → E'.w.heap[b]? = E.w.heap[b]? ∧ ¬ E'.A b) (h : ObR E k o) : ObR E' k' o := by
  cases o with
  | var ty c =>
    obtain ⟨b, cs, h1, h2, h3, h4, h5⟩ := h
    obtain ⟨e1, e2⟩ := hw rfl b (by rw [h1]; rfl)
    exact ⟨b, cs, by rw [hg]; exact h1, by rw [e1]; exact h2, e2, h4, h5.via fun d hd => rd d (ha d hd)⟩
  | slc ty sz rows =>
    obtain ⟨h0, hs, h | ⟨b, cs, cap, h1, h2, h3, h4, h5, h6, h7⟩⟩ := h
    · exact ⟨h0, hs, .inl ⟨by rw [hg]; exact h.1, h.2⟩⟩
    · obtain ⟨e1, e2⟩ := hw rfl b (by rw [h1]; rfl)
      refine ⟨h0, hs, .inr ⟨b, cs, cap, by rw [hg]; exact h1, by rw [e1]; exact h2, e2, h4, h5, h6, h7.via fun d hd => ?_⟩⟩
      obtain ⟨r, hr, hd⟩ := List.mem_flatten.1 hd
      exact rd d (ha r hr d hd)
  | frz sz rows => exact ⟨by rw [hg]; exact rd _ ha _ h.1, by rw [hg]; exact h.2⟩
  | frv c => exact ⟨by rw [hg]; exact rd _ ha _ h.1, by rw [hg]; exact h.2⟩
  | lp ps as bo st pe env =>
    obtain ⟨b, r, h1, h2, h3, h4, h5, h6, h7, h8, h9, h10⟩ := h
    obtain ⟨e1, e2⟩ := hw rfl b (by rw [h1]; rfl)
    refine ⟨b, r, by rw [hg]; exact h1, by rw [e1]; exact h2, e2, h4, h5, h6, h7, h8, h9, fun t => ?_⟩
    have := h10 t
    by_cases ht : t < env.length
    · have e : env.getD t .any = env[t] := by simp [List.getD_eq_getElem?_getD, ht]
      rw [e] at this ⊢
      exact rd _ (ha _ (List.getElem_mem ht)) _ this
    · have e : env.getD t .any = .any := by simp [List.getD_eq_getElem?_getD, ht]
      rw [e]; exact .any _
  | dead => trivial
theorem getElem?_app {α : Type} {l m : List α} {k : Nat} {x : α} (h : (l ++ m)[k]? = some x) : (k < l.length ∧ l[k]? = some x) ∨ (l.length ≤ k ∧ m[k - l.length]? = some x) := by
  rw [List.getElem?_append] at h
  split at h
  · exact .inl ⟨by assumption, h⟩
  · exact .inr ⟨by omega, h⟩
theorem AC.frame {P : Program} {f : FuncId} {ds : List D} {om fr : List Ob} {R : Out → List Ob → Prop} (h : AC P f ds om R) (ho : ∀ o ∈ om, ObAll (Bl om.length) o) (hds : ∀ d ∈ ds, Bl om.length d)
    (hl : ∀ o om', R o om' → om'.length = om.length) : AC P f ds (om ++ fr) fun o om2 => ∃ om', R o om' ∧ om2 = om' ++ fr := by
  refine ⟨h.1, fun E vs hR hA => ?_⟩
  have hn : om.length + fr.length = E.n := by rw [← hR.len]; simp
  let E1 : Env := ⟨om.length, E.g, E.A, E.w⟩
  have rd1 : ∀ d, Bl om.length d → ∀ y, Rd E d y → Rd E1 d y := fun d hd y hy => Rd.bl (E := E) (E2 := E1) (n := om.length) (Nat.le_refl _) (fun _ _ => rfl) (fun _ h => h) rfl hy hd
  have sub : ∀ {k : Nat} {o : Ob}, om[k]? = some o → (om ++ fr)[k]? = some o := fun {k o} hk => by rw [List.getElem?_append_left (List.getElem?_eq_some_iff.1 hk).1]; exact hk
  have sub2 : ∀ {k : Nat} {o : Ob}, fr[k]? = some o → (om ++ fr)[om.length + k]? = some o := fun {k o} hk => by rw [List.getElem?_append_right (by omega)]; simpa using hk
  have hR1 : Rel E1 om := by
    refine ⟨rfl, fun k o hk => ?_, fun k k' o o' b hk hk' hl hl' hb hb' => hR.inj k k' o o' b (sub hk) (sub hk') hl hl' hb hb', hR.old, fun k hk => hR.one k (by show k < E.n; have : k < om.length := hk; omega), fun g c h => rd1 _ ((gtab_bl h).mono (Nat.zero_le _)) _ (hR.gt g c h)⟩
    exact ObR.via (E := E) (k := k) rfl (ho o (List.mem_of_getElem? hk)) rd1 (fun hl b hb => ⟨rfl, fun hA => hR.notlive hA ⟨k, o, sub hk, hl, hb⟩⟩) (hR.ob k o (sub hk))
  refine (h.2 E1 vs hR1 ⟨hA.1, fun j d hj => rd1 d (hds d (List.mem_of_getElem? hj)) _ (hA.2 j d hj)⟩).mono ?_
  rintro e w' ⟨E', o, om', hr, rfl, hx, hR', hO⟩
  have hlen := hl o om' hr
  have hn' : E'.n = om.length := by rw [← hR'.len, hlen]
  let E2 : Env := ⟨E.n, E.g, E'.A, E'.w⟩
  have hg : ∀ k, k < E'.n → E2.g k = E'.g k := fun k hk => (hx.g k (by show k < om.length; omega)).symm
  have rd2 : ∀ d y, Rd E' d y → Rd E2 d y := fun d y hy => Rd.gen (E := E') (E' := E2) (by show E'.n ≤ E.n; omega) hg (fun _ h => h) (fun _ _ => rfl) hy
  have live1 : ∀ {b}, Live E1 om b → Live E (om ++ fr) b := by
    rintro b ⟨k, o, hk, hl, hb⟩
    exact ⟨k, o, sub hk, hl, hb⟩
  have sep : ∀ {k o b}, fr[k]? = some o → o.live = true → hb (E.g (om.length + k)) = some b → ¬ Live E1 om b := by
    rintro k o b hk hl hb ⟨k', o', hk', hl', hb'⟩
    have := hR.inj _ _ _ _ b (sub2 hk) (sub hk') hl hl' hb hb'
    have := (List.getElem?_eq_some_iff.1 hk').1
    omega
  have lt : ∀ {k o b}, fr[k]? = some o → o.live = true → hb (E.g (om.length + k)) = some b → b < E.w.heap.size ∧ ¬ E.A b := fun hk hl hb => hR.live_lt ⟨_, _, sub2 hk, hl, hb⟩
  have rd3 : ∀ d y, Rd E d y → Rd E2 d y := fun d y hy => Rd.gen (E := E) (E' := E2) (Nat.le_refl _) (fun _ _ => rfl) hx.A (h := hy) fun a hA => World.cell?_of_block (hx.keep _ (hR.old _ hA) fun hL => hR.notlive hA (live1 hL))
  have cases2 : ∀ {k o}, (om' ++ fr)[k]? = some o → (k < om.length ∧ om'[k]? = some o) ∨ ∃ j, k = om.length + j ∧ fr[j]? = some o := by
    intro k o hk
    rcases getElem?_app hk with ⟨h1, h2⟩ | ⟨h1, h2⟩
    · exact .inl ⟨by omega, h2⟩
    · exact .inr ⟨k - om'.length, by omega, h2⟩
  have live' : ∀ {k o b}, om'[k]? = some o → o.live = true → hb (E.g k) = some b → Live E' om' b := by
    intro k o b hk hl hb
    refine ⟨k, o, hk, hl, ?_⟩
    rw [hx.g k (by have := (List.getElem?_eq_some_iff.1 hk).1; show k < om.length; omega)]
    exact hb
  have mix : ∀ {k j o o' b}, om'[k]? = some o → o.live = true → hb (E.g k) = some b → fr[j]? = some o' → o'.live = true → hb (E.g (om.length + j)) = some b → False := by
    intro k j o o' b hk hl hb hj hl' hb'
    rcases hx.live b (live' hk hl hb) with h | h
    · exact sep hj hl' hb' h
    · have := (lt hj hl' hb').1
      have h : E.w.heap.size ≤ b := h
      omega
  refine ⟨E2, o, om' ++ fr, ⟨om', hr, rfl⟩, rfl, ?_, ?_, ?_⟩
  · refine ⟨Nat.le_refl _, fun _ _ => rfl, hx.A, hx.size, hx.os, hx.tape, hx.output, fun b hb hn => hx.keep b hb fun hL => hn (live1 hL), ?_, fun b hA => ?_⟩
    · rintro b ⟨k, o, hk, hl, hb⟩
      rcases cases2 hk with ⟨_, h2⟩ | ⟨j, rfl, h2⟩
      · exact (hx.live b (live' h2 hl hb)).imp live1 id
      · exact .inl ⟨_, _, sub2 h2, hl, hb⟩
    · exact (hx.newA b hA).imp id fun h => h.imp live1 id
  · refine ⟨by simp [hlen]; exact hn, fun k o hk => ?_, fun k k' o o' b hk hk' hl hl' hb hb' => ?_, hR'.old, hR.one, fun g c h => rd2 _ _ (hR'.gt g c h)⟩
    · rcases cases2 hk with ⟨h1, h2⟩ | ⟨j, rfl, h2⟩
      · refine ObR.via (E := E') (k := k) (hg k (by omega)) ObAll.triv (fun d _ y => rd2 d y) (fun hl b hb => ⟨rfl, ?_⟩) (hR'.ob k o h2)
        exact (hR'.live_lt ⟨k, o, h2, hl, hb⟩).2
      · refine ObR.via (E := E) (k := om.length + j) rfl ObAll.triv (fun d _ y => rd3 d y) (fun hl b hb => ?_) (hR.ob _ o (sub2 h2))
        have h3 := lt h2 hl hb
        have h4 := sep h2 hl hb
        refine ⟨hx.keep b h3.1 h4, fun hA => ?_⟩
        rcases hx.newA b hA with h | h | h
        · exact h3.2 h
        · exact h4 h
        · have h : E.w.heap.size ≤ b := h
          omega
    · rcases cases2 hk with ⟨h1, h2⟩ | ⟨j, rfl, h2⟩ <;> rcases cases2 hk' with ⟨h1', h2'⟩ | ⟨j', rfl, h2'⟩
      · exact hR'.inj k k' o o' b h2 h2' hl hl' (by rw [← hg k (by omega)]; exact hb) (by rw [← hg k' (by omega)]; exact hb')
      · exact (mix h2 hl hb h2' hl' hb').elim
      · exact (mix h2' hl' hb' h2 hl hb).elim
      · exact hR.inj _ _ _ _ b (sub2 h2) (sub2 h2') hl hl' hb hb'
  · cases o <;> cases e <;> simp only [OutR] at hO ⊢
    · exact rd2 _ _ hO
    · obtain ⟨y, h1, h2⟩ := hO
      exact ⟨y, h1, rd2 _ _ h2⟩
end Go.Proofs.YtlejbkfefpfolaaDoor.AWP
