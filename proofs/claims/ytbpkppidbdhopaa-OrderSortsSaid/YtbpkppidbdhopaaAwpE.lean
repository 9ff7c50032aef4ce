/- Part of a program logic over data: rules of the walk, each proved. -/
import Derived.Test.YtbpkppidbdhopaaAwpD
set_option linter.unusedSectionVars false
set_option linter.unusedVariables false
set_option linter.unusedSimpArgs false
namespace Go.Proofs.Ytbpkppidbdhopaa.AWP
open Go

section
variable {P : Program} {T : Tab} {E : Env} {om : List Ob}

/-- A frozen slice of one's own is a slice that is read. -/
def rs (om : List Ob) : D → D
  | .own k =>
    match om[k]? with
    | some (.frz sz rows) => .sl sz rows
    | _ => .own k
  | d => d

theorem Rd.rs (hR : Rel E om) {d : D} {y : Value} (h : Rd E d y) : Rd E (rs om d) y := by
  cases d with
  | own k =>
    simp only [AWP.rs]
    split
    · rename_i sz rows ho
      cases h with
      | own hk => exact (hR.ob k _ ho).1
    · exact h
  | _ => exact h

theorem qLen_ok (hT : TabOk P T) (hR : Rel E om) {t ty : Nat} {x d : D} {y : Value} (h : qLen T om t x = some d) (hx : Rd E x y) :
    ∃ z, (Builtin.len_ #[t] ty #[y]).run P E.w = .ok z E.w ∧ Rd E d z := by
  unfold qLen at h
  split at h
  · rename_i ht
    split at h
    · cases hx.v_inv
      simp only [Option.some.injEq] at h
      subst h
      exact ⟨_, by simp [Builtin.len_, run_underlying ((hT _ _ ht).str rfl), goInt], .v _⟩
    · simp at h
  · rename_i n _ _ _ _ ht
    simp only [Option.some.injEq] at h
    subst h
    exact ⟨_, by simp [Builtin.len_, run_underlying ((hT _ _ ht).arr rfl), goInt], .v _⟩
  · rename_i e _ _ _ ht
    have hsl : ∀ a n c, y = .slice a n c → (Builtin.len_ #[t] ty #[y]).run P E.w = .ok (.int .i64 n) E.w := by
      intro a n c hy
      rw [hy]
      simp [Builtin.len_, run_underlying ((hT _ _ ht).slice rfl), goInt]
    split at h
    · cases hx.v_inv
      simp only [Option.some.injEq] at h
      subst h
      exact ⟨_, hsl _ _ _ rfl, .v _⟩
    · simp only [Option.some.injEq] at h
      subst h
      obtain ⟨a, cap, rfl, _⟩ := hx.sl_inv
      exact ⟨_, hsl _ _ _ rfl, .v _⟩
    · rename_i k
      cases hx with
      | own hk' =>
        split at h
        · rename_i ho
          simp only [Option.some.injEq] at h
          subst h
          obtain ⟨_, _, h1 | ⟨b, cs, cap, h1, _⟩⟩ := hR.ob k _ ho
          · rw [h1.2]
            exact ⟨_, hsl _ _ _ h1.1, .v _⟩
          · exact ⟨_, hsl _ _ _ h1, .v _⟩
        · rename_i ho
          simp only [Option.some.injEq] at h
          subst h
          obtain ⟨h1, _⟩ := hR.ob k _ ho
          obtain ⟨a, cap, h2, _⟩ := h1.sl_inv
          exact ⟨_, hsl _ _ _ h2, .v _⟩
        · simp at h
    · simp at h
  · simp at h

/-! ### Cuts -/
def nat? : Option D → Nat → Option Nat
  | none, n => some n
  | some (.v (.int _ n)), _ => if 0 ≤ n then some n.toNat else none
  | _, _ => none

def qSlice (T : Tab) (om : List Ob) (t : Nat) (x : D) (lo hi : Option D) : Option D :=
  match T t with
  | some ⟨.str, _, _, _⟩ =>
    match x with
    | .v (.string s) =>
      match nat? lo 0, nat? hi s.size with
      | some l, some h => if l ≤ h ∧ h ≤ s.size then some (.v (.string (s.extract l h))) else none
      | _, _ => none
    | _ => none
  | some ⟨.slice e, _, _, _⟩ =>
    match T e with
    | some ei =>
      match rs om x with
      | .sl sz rows =>
        match nat? lo 0, nat? hi rows.length with
        | some l, some h => if sz = ei.size ∧ l ≤ h ∧ h ≤ rows.length then some (.sl sz ((rows.take h).drop l)) else none
        | _, _ => none
      | _ => none
    | none => none
  | some ⟨.arr n e, _, _, _⟩ =>
    match T e with
    | some ei =>
      match x, lo, hi with
      | .pel row, none, none => if ei.size = 1 ∧ n = row.length ∧ n ≤ 1000000 then some (.sl 1 (row.map fun d => [d])) else none
      | .ref k 0, none, none =>
        match om[k]? with
        | some (.frv row) => if ei.size = 1 ∧ n = row.length ∧ n ≤ 1000000 then some (.sl 1 (row.map fun d => [d])) else none
        | _ => none
      | _, _, _ => none
    | none => none
  | _ => none

theorem bounds_ok {w : World} {isSl : Bool} {len cap : Nat} {lo hi : Option D} {ylo yhi : Option Value} {l h : Nat}
    (hlo : nat? lo 0 = some l) (hhi : nat? hi len = some h) (h1 : ∀ d, lo = some d → ∃ v, ylo = some v ∧ Rd E d v) (h1' : lo = none → ylo = none)
    (h2 : ∀ d, hi = some d → ∃ v, yhi = some v ∧ Rd E d v) (h2' : hi = none → yhi = none) (hle : l ≤ h) (hc : h ≤ cap) (hlc : len ≤ cap) :
    (Instr.sliceBounds isSl len cap ylo yhi none).run P w = .ok (l, h, cap) w := by
  have hb : ∀ (d : D) (v : Value) (y m : Nat) (n : Nat) (code : BoundsCode), nat? (some d) m = some n → Rd E d v → n ≤ y → (Instr.sliceBound v y code).run P w = .ok n w := by
    intro d v y m n code hn hd hle
    cases d with
    | v x =>
      have := hd.v_inv
      subst this
      cases v with
      | int k q =>
        simp only [nat?] at hn
        split at hn
        · rename_i h0
          simp only [Option.some.injEq] at hn
          subst hn
          exact (run_sliceBound w k q y code h0 (by omega))
        · simp at hn
      | _ => simp [nat?] at hn
    | _ => simp [nat?] at hn
  unfold Instr.sliceBounds
  have e2 : yhi = none ∧ h = len ∨ ∃ d v, hi = some d ∧ yhi = some v ∧ Rd E d v := by
    cases hi with
    | none => exact .inl ⟨h2' rfl, by simpa [nat?] using hhi.symm⟩
    | some d =>
      obtain ⟨v, e, r⟩ := h2 d rfl
      exact .inr ⟨d, v, rfl, e, r⟩
  have e1 : ylo = none ∧ l = 0 ∨ ∃ d v, lo = some d ∧ ylo = some v ∧ Rd E d v := by
    cases lo with
    | none => exact .inl ⟨h1' rfl, by simpa [nat?] using hlo.symm⟩
    | some d =>
      obtain ⟨v, e, r⟩ := h1 d rfl
      exact .inr ⟨d, v, rfl, e, r⟩
  rcases e2 with ⟨rfl, rfl⟩ | ⟨d2, v2, rfl, rfl, r2⟩ <;> rcases e1 with ⟨rfl, rfl⟩ | ⟨d1, v1, rfl, rfl, r1⟩
  · simp
  · simp [hb d1 v1 _ _ _ _ hlo r1 hle]
  · simp [hb d2 v2 _ _ _ _ hhi r2 hc]
  · simp [hb d2 v2 _ _ _ _ hhi r2 hc, hb d1 v1 _ _ _ _ hlo r1 hle]

end
end Go.Proofs.Ytbpkppidbdhopaa.AWP
