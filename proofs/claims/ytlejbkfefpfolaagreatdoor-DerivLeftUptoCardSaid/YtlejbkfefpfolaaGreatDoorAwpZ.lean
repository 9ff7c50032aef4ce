/- A contract that leaves its objects, in wider surroundings: other objects ahead and behind stay as they are. -/
import Derived.Test.YtlejbkfefpfolaaGreatDoorAwpX
set_option linter.unusedVariables false
set_option linter.unusedSimpArgs false
set_option linter.unusedSectionVars false
/- A contract that leaves its objects, in wider surroundings: other objects ahead and behind stay as they are. -/
namespace Go.Proofs.YtlejbkfefpfolaaGreatDoor.AWP
open Go
/-- An argument or an answer, its objects c further. -/
def ShB (c n : Nat) (d d' : D) : Prop := (Bl 0 d ∧ d' = d) ∨ (∃ k off, k < n ∧ d = .ref k off ∧ d' = .ref (c + k) off) ∨ ∃ k, k < n ∧ d = .own k ∧ d' = .own (c + k)
theorem AC.framed {P : Program} {f : FuncId} {ds ds' : List D} {om fr bk : List Ob} {r r' : D} (h : AC P f ds om (retP r om)) (hlen : ds'.length = ds.length)
    (hds : ∀ (j : Nat) (d d' : D), ds[j]? = some d → ds'[j]? = some d' → ShB fr.length om.length d d') (ho : ∀ o ∈ om, ObAll (Bl 0) o) (hr : ShB fr.length om.length r r') :
    AC P f ds' (fr ++ (om ++ bk)) (retP r' (fr ++ (om ++ bk))) := by
  refine ⟨h.1, fun E vs hR hA => ?_⟩
  have hn : fr.length + (om.length + bk.length) = E.n := by rw [← hR.len]; simp
  let E1 : Env := ⟨om.length, fun k => E.g (fr.length + k), E.A, E.w⟩
  have rd1 : ∀ d, Bl 0 d → ∀ y, Rd E d y → Rd E1 d y := fun d hd y hy => Rd.bl (E := E) (E2 := E1) (n := 0) (Nat.zero_le _) (fun _ h => absurd h (Nat.not_lt_zero _)) (fun _ h => h) rfl hy hd
  have sub : ∀ {k : Nat} {o : Ob}, om[k]? = some o → (fr ++ (om ++ bk))[fr.length + k]? = some o := fun {k o} hk => by
    rw [List.getElem?_append_right (by omega), Nat.add_sub_cancel_left, List.getElem?_append_left (List.getElem?_eq_some_iff.1 hk).1]; exact hk
  have hR1 : Rel E1 om := by
    refine ⟨rfl, fun k o hk => ?_, fun k k' o o' b hk hk' hl hl' hb hb' => ?_, hR.old, fun k hk => hR.one _ (by show fr.length + k < E.n; have : k < om.length := hk; omega), fun g c h => rd1 _ (gtab_bl h) _ (hR.gt g c h)⟩
    · exact ObR.via (E := E) (k := fr.length + k) rfl (ho o (List.mem_of_getElem? hk)) rd1 (fun hl b hb => ⟨rfl, fun hA => hR.notlive hA ⟨_, o, sub hk, hl, hb⟩⟩) (hR.ob _ o (sub hk))
    · have := hR.inj _ _ o o' b (sub hk) (sub hk') hl hl' hb hb'
      omega
  have rdA : ∀ d d' y, ShB fr.length om.length d d' → Rd E d' y → Rd E1 d y := by
    rintro d d' y (⟨h1, rfl⟩ | ⟨k, off, hk, rfl, rfl⟩ | ⟨k, hk, rfl, rfl⟩) hy
    · exact rd1 _ h1 _ hy
    · cases hy with
      | ref hk' hg => exact .ref hk hg
    · cases hy with
      | own hk' => exact Rd.own (E := E1) (k := k) hk
  refine (h.2 E1 vs hR1 ⟨by rw [hA.1, hlen], fun j d hj => ?_⟩).mono ?_
  · have hj' : j < ds'.length := by rw [hlen]; exact (List.getElem?_eq_some_iff.1 hj).1
    exact rdA _ _ _ (hds j d ds'[j] hj (List.getElem?_eq_getElem hj')) (hA.2 j _ (List.getElem?_eq_getElem hj'))
  rintro e w' ⟨E', o, om', ⟨rfl, rfl⟩, rfl, hx, hR', hO⟩
  have hn' : E'.n = om'.length := hR'.len.symm
  let E2 : Env := ⟨E.n, E.g, E'.A, E'.w⟩
  have hg : ∀ k, k < om'.length → E2.g (fr.length + k) = E'.g k := fun k hk => (hx.g k hk).symm
  have rd2 : ∀ d, Bl 0 d → ∀ y, Rd E' d y → Rd E2 d y := fun d hd y hy => Rd.bl (E := E') (E2 := E2) (n := 0) (Nat.zero_le _) (fun _ h => absurd h (Nat.not_lt_zero _)) (fun _ h => h) rfl hy hd
  have live1 : ∀ {b}, Live E1 om' b → Live E (fr ++ (om' ++ bk)) b := by
    rintro b ⟨k, o, hk, hl, hb⟩
    exact ⟨_, o, sub hk, hl, hb⟩
  have sep : ∀ {k o b}, (fr ++ (om' ++ bk))[k]? = some o → (k < fr.length ∨ fr.length + om'.length ≤ k) → o.live = true → hb (E.g k) = some b → ¬ Live E1 om' b := by
    rintro k o b hk ho hl hb ⟨k', o', hk', hl', hb'⟩
    have := hR.inj _ _ _ _ b hk (sub hk') hl hl' hb hb'
    have := (List.getElem?_eq_some_iff.1 hk').1
    omega
  have lt : ∀ {k o b}, (fr ++ (om' ++ bk))[k]? = some o → o.live = true → hb (E.g k) = some b → b < E.w.heap.size ∧ ¬ E.A b := fun hk hl hb => hR.live_lt ⟨_, _, hk, hl, hb⟩
  have rd3 : ∀ d y, Rd E d y → Rd E2 d y := fun d y hy => Rd.gen (E := E) (E' := E2) (Nat.le_refl _) (fun _ _ => rfl) hx.A (h := hy) fun a hA => World.cell?_of_block (hx.keep _ (hR.old _ hA) fun hL => hR.notlive hA (live1 hL))
  have cases2 : ∀ {k o}, (fr ++ (om' ++ bk))[k]? = some o → (∃ j, k = fr.length + j ∧ j < om'.length ∧ om'[j]? = some o) ∨ (k < fr.length ∨ fr.length + om'.length ≤ k) := by
    intro k o hk
    by_cases h1 : k < fr.length
    · exact .inr (.inl h1)
    by_cases h2 : fr.length + om'.length ≤ k
    · exact .inr (.inr h2)
    refine .inl ⟨k - fr.length, by omega, by omega, ?_⟩
    rw [List.getElem?_append_right (by omega), List.getElem?_append_left (by omega)] at hk
    exact hk
  have live' : ∀ {k o b}, om'[k]? = some o → o.live = true → hb (E.g (fr.length + k)) = some b → Live E' om' b := by
    intro k o b hk hl hb
    refine ⟨k, o, hk, hl, ?_⟩
    rw [hx.g k (List.getElem?_eq_some_iff.1 hk).1]
    exact hb
  refine ⟨E2, .ret r', _, ⟨rfl, rfl⟩, rfl, ?_, ?_, ?_⟩
  · refine ⟨Nat.le_refl _, fun _ _ => rfl, hx.A, hx.size, hx.os, hx.tape, hx.output, fun b hb hn => hx.keep b hb fun hL => hn (live1 hL), ?_, fun b hA => ?_⟩
    · rintro b ⟨k, o, hk, hl, hb⟩
      exact .inl ⟨k, o, hk, hl, hb⟩
    · exact (hx.newA b hA).imp id fun h => h.imp live1 id
  · refine ⟨hR.len, fun k o hk => ?_, hR.inj, hR'.old, hR.one, fun g c h => rd2 _ (gtab_bl h) _ (hR'.gt g c h)⟩
    rcases cases2 hk with ⟨j, rfl, h1, h2⟩ | h1
    · refine ObR.via (E := E') (k := j) (p := Bl 0) (hg j h1) (ho _ (List.mem_of_getElem? h2)) (fun d hd y => rd2 d hd y) (fun hl b hb => ⟨rfl, ?_⟩) (hR'.ob j o h2)
      exact (hR'.live_lt ⟨j, o, h2, hl, hb⟩).2
    · refine ObR.via (E := E) (k := k) rfl ObAll.triv (fun d _ y => rd3 d y) (fun hl b hb => ?_) (hR.ob _ o hk)
      have h3 := lt hk hl hb
      have h4 := sep hk h1 hl hb
      refine ⟨hx.keep b h3.1 h4, fun hA => ?_⟩
      rcases hx.newA b hA with h | h | h
      · exact h3.2 h
      · exact h4 h
      · have h : E.w.heap.size ≤ b := h
        omega
  · cases e <;> simp only [OutR] at hO ⊢
    rcases hr with ⟨h1, rfl⟩ | ⟨k, off, hk, rfl, rfl⟩ | ⟨k, hk, rfl, rfl⟩
    · exact rd2 _ h1 _ hO
    · cases hO with
      | ref hk' hgk => exact Rd.ref (E := E2) (by show fr.length + k < E.n; omega) (by rw [hg k hk]; exact hgk)
    · cases hO with
      | own hk' =>
        rw [← hg k hk]
        exact Rd.own (E := E2) (by show fr.length + k < E.n; omega)
end Go.Proofs.YtlejbkfefpfolaaGreatDoor.AWP
