/- A text in round brackets, blanks around, is read as it is alone. -/
import Derived.Test.YtdliolbjngcgcaaMathA
import Derived.Lib.SlicesCompact
set_option linter.unusedVariables false
set_option linter.unusedSimpArgs false
set_option linter.unusedSectionVars false
/- What a text of a grammar is read as: plain functions, for the program's reader and for the document's one. -/
namespace Go.Proofs.Ytdliolbjngcgcaa.AWP
open Go
/-- The place behind blanks. -/
def skipB (s : ByteArray) (p : Nat) : Nat := if h : p < s.size ∧ (s.data.getD p 0).toNat = 32 then skipB s (p + 1) else p
termination_by s.size - p
/-- Does a byte stand there? -/
def byB (s : ByteArray) (p : Nat) (c : Nat) : Bool := decide (p < s.size) && decide ((s.data.getD p 0).toNat = c)
/-- A small letter? -/
def lowB (s : ByteArray) (p : Nat) : Bool := decide (p < s.size) && (decide (97 ≤ (s.data.getD p 0).toNat) && decide ((s.data.getD p 0).toNat ≤ 122))
/-- A letter of a name? -/
def ltrB (n : Nat) : Bool := ((decide (97 ≤ n) && decide (n ≤ 122)) || (decide (48 ≤ n) && decide (n ≤ 57))) || decide (n = 95)
/-- The place behind a name. -/
def nameTo (s : ByteArray) (p : Nat) : Nat := if h : p < s.size ∧ ltrB (s.data.getD p 0).toNat = true then nameTo s (p + 1) else p
termination_by s.size - p
theorem skipB_eq (s : ByteArray) (p : Nat) : skipB s p = if p < s.size ∧ (s.data.getD p 0).toNat = 32 then skipB s (p + 1) else p := by
  rw [skipB]; split <;> rfl
theorem nameTo_eq (s : ByteArray) (p : Nat) : nameTo s p = if p < s.size ∧ ltrB (s.data.getD p 0).toNat = true then nameTo s (p + 1) else p := by
  rw [nameTo]; split <;> rfl
theorem skipB_ge (s : ByteArray) : ∀ (n p : Nat), s.size - p ≤ n → p ≤ skipB s p ∧ (p ≤ s.size → skipB s p ≤ s.size) := by
  intro n
  induction n with
  | zero =>
    intro p hn
    rw [skipB_eq, if_neg (by omega)]
    exact ⟨Nat.le_refl _, id⟩
  | succ n ih =>
    intro p hn
    rw [skipB_eq]
    split
    · have := ih (p + 1) (by omega)
      exact ⟨by omega, fun h => this.2 (by omega)⟩
    · exact ⟨Nat.le_refl _, id⟩
theorem le_skipB (s : ByteArray) (p : Nat) : p ≤ skipB s p := (skipB_ge s _ p (Nat.le_refl _)).1
theorem skipB_le {s : ByteArray} {p : Nat} (h : p ≤ s.size) : skipB s p ≤ s.size := (skipB_ge s _ p (Nat.le_refl _)).2 h
theorem skipB_at (s : ByteArray) : ∀ (n p : Nat), s.size - p ≤ n → ¬ (skipB s p < s.size ∧ (s.data.getD (skipB s p) 0).toNat = 32) := by
  intro n
  induction n with
  | zero =>
    intro p hn
    rw [skipB_eq, if_neg (by omega)]
    omega
  | succ n ih =>
    intro p hn
    rw [skipB_eq]
    split
    · exact ih (p + 1) (by omega)
    · assumption
theorem skipB_idem (s : ByteArray) (p : Nat) : skipB s (skipB s p) = skipB s p := by
  rw [skipB_eq s (skipB s p), if_neg (skipB_at s _ p (Nat.le_refl _))]
theorem nameTo_ge (s : ByteArray) : ∀ (n p : Nat), s.size - p ≤ n → p ≤ nameTo s p ∧ (p ≤ s.size → nameTo s p ≤ s.size) := by
  intro n
  induction n with
  | zero =>
    intro p hn
    rw [nameTo_eq, if_neg (by omega)]
    exact ⟨Nat.le_refl _, id⟩
  | succ n ih =>
    intro p hn
    rw [nameTo_eq]
    split
    · have := ih (p + 1) (by omega)
      exact ⟨by omega, fun h => this.2 (by omega)⟩
    · exact ⟨Nat.le_refl _, id⟩
theorem le_nameTo (s : ByteArray) (p : Nat) : p ≤ nameTo s p := (nameTo_ge s _ p (Nat.le_refl _)).1
theorem nameTo_le {s : ByteArray} {p : Nat} (h : p ≤ s.size) : nameTo s p ≤ s.size := (nameTo_ge s _ p (Nat.le_refl _)).2 h
theorem byB_lt {s : ByteArray} {p c : Nat} (h : byB s p c = true) : p < s.size := by
  unfold byB at h; rw [Bool.and_eq_true, decide_eq_true_eq] at h; exact h.1
theorem lowB_lt {s : ByteArray} {p : Nat} (h : lowB s p = true) : p < s.size := by
  unfold lowB at h; rw [Bool.and_eq_true, decide_eq_true_eq] at h; exact h.1
theorem lowB_ltr {s : ByteArray} {p : Nat} (h : lowB s p = true) : p < nameTo s p := by
  have hp := lowB_lt h
  unfold lowB at h
  rw [Bool.and_eq_true] at h
  rw [nameTo_eq, if_pos ⟨hp, by unfold ltrB; rw [h.2]; rfl⟩]
  exact le_nameTo s (p + 1)
theorem byB_end {s : ByteArray} {p c : Nat} (h : ¬ p < s.size) : byB s p c = false := by unfold byB; rw [decide_eq_false h]; rfl
theorem lowB_end {s : ByteArray} {p : Nat} (h : ¬ p < s.size) : lowB s p = false := by unfold lowB; rw [decide_eq_false h]; rfl
theorem byB_at {s : ByteArray} {p c : Nat} {b : UInt8} (hp : p < s.size) (h : s.data[p]? = some b) : byB s p c = decide (b.toNat = c) := by
  unfold byB; rw [decide_eq_true hp, at_of h]; rfl
theorem lowB_at {s : ByteArray} {p : Nat} {b : UInt8} (hp : p < s.size) (h : s.data[p]? = some b) : lowB s p = (decide (97 ≤ b.toNat) && decide (b.toNat ≤ 122)) := by
  unfold lowB; rw [decide_eq_true hp, at_of h]; rfl
/-- What is read: an expression, and where it ends; or where the error is, and its number. -/
inductive CR where
  | ok (r : Cf) (p : Nat)
  | bad (p e : Nat)
/-- Some, two by two. -/
def Cf.fold (kind : Int) : List Cf → Cf
  | [] => .mk 0 0 []
  | x :: l => match l with
    | [] => x
    | _ :: _ => .mk kind 0 [x, Cf.fold kind l]
theorem Cf.fold_one (kind : Int) (x : Cf) : Cf.fold kind [x] = x := by rw [Cf.fold]
theorem Cf.fold_two (kind : Int) (x y : Cf) (l : List Cf) : Cf.fold kind (x :: y :: l) = .mk kind 0 [x, Cf.fold kind (y :: l)] := by rw [Cf.fold]
theorem Cf.fold_foldr (kind : Int) : ∀ (l : List Cf) (x : Cf), Cf.fold kind (l ++ [x]) = l.foldr (fun y acc => .mk kind 0 [y, acc]) x
  | [], x => Cf.fold_one kind x
  | y :: l, x => by
    have ih := Cf.fold_foldr kind l x
    cases l with
    | nil => rw [List.nil_append] at ih; rw [List.cons_append, List.nil_append, Cf.fold_two, ih]; rfl
    | cons z l => rw [List.cons_append, List.cons_append, Cf.fold_two]; rw [List.cons_append] at ih; rw [ih]; rfl
/-- The first place of a name; -1. -/
def nmI (l : List ByteArray) (s : ByteArray) : Int :=
  match l.findIdx? (fun x => decide (s = x)) with
  | some i => (i : Int)
  | none => -1
section
variable (ks ds : List ByteArray) (A : Nat → CR) (s : ByteArray)
/-- An atom, at a place that is no blank. -/
def atomQ (p : Nat) : CR :=
  if byB s p 91 = true then
    if byB s (skipB s (p + 1)) 93 = true then .ok (.mk 1 0 []) (skipB s (p + 1) + 1) else .bad (skipB s (p + 1)) 2
  else if byB s p 40 = true then
    if byB s (skipB s (p + 1)) 41 = true then .ok (.mk 2 0 []) (skipB s (p + 1) + 1)
    else match A (skipB s (p + 1)) with
      | .bad q e => .bad q e
      | .ok r q => if byB s (skipB s q) 41 = true then .ok r (skipB s q + 1) else .bad (skipB s q) 2
  else if lowB s p = true then
    if 0 ≤ nmI ks (s.extract p (nameTo s p)) then .ok (.mk 3 (nmI ks (s.extract p (nameTo s p))) []) (nameTo s p)
    else if 0 ≤ nmI ds (s.extract p (nameTo s p)) then .ok (.mk 6 (nmI ds (s.extract p (nameTo s p))) []) (nameTo s p)
    else .bad p 5
  else .bad p 2
def atomP (p : Nat) : CR := atomQ ks ds A s (skipB s p)
/-- Does an atom begin there? -/
def moreB (p : Nat) : Bool := byB s p 91 || (byB s p 40 || lowB s p)
/-- A row. -/
def thenGo (l : List Cf) (p : Nat) : CR :=
  if moreB s (skipB s p) = true then
    match atomP ks ds A s p with
    | .bad q e => .bad q e
    | .ok r q => if hq : p < q ∧ q ≤ s.size then thenGo (l ++ [r]) q else .bad 0 2
  else .ok (Cf.fold 4 l) p
termination_by s.size - p
def thenP (p : Nat) : CR :=
  match atomP ks ds A s p with
  | .bad q e => .bad q e
  | .ok r q => thenGo ks ds A s [r] q
def orGo (l : List Cf) (p : Nat) : CR :=
  if byB s (skipB s p) 124 = true then
    match thenP ks ds A s (skipB s p + 1) with
    | .bad q e => .bad q e
    | .ok r q => if hq : skipB s p < q ∧ q ≤ s.size then orGo (l ++ [r]) q else .bad 0 2
  else .ok (Cf.fold 5 l) p
termination_by s.size - p
decreasing_by have := le_skipB s p; omega
def orP (p : Nat) : CR :=
  match thenP ks ds A s p with
  | .bad q e => .bad q e
  | .ok r q => orGo ks ds A s [r] q
end
/-- An expression, from a place on. -/
def orF (ks ds : List ByteArray) (s : ByteArray) (p : Nat) : CR := orP ks ds (fun q => if h : skipB s p < q ∧ q ≤ s.size then orF ks ds s q else .bad 0 2) s p
termination_by s.size - p
decreasing_by have := le_skipB s p; omega
/-- Expressions from behind a place on. -/
def orA (ks ds : List ByteArray) (s : ByteArray) (p q : Nat) : CR := if skipB s p < q ∧ q ≤ s.size then orF ks ds s q else .bad 0 2
theorem orF_eq (ks ds : List ByteArray) (s : ByteArray) (p : Nat) : orF ks ds s p = orP ks ds (orA ks ds s p) s p := by
  rw [orF]; rfl
/-! ### Where it ends -/
/-- What is read ends behind its beginning. -/
def FwdC (A : Nat → CR) (s : ByteArray) : Prop := ∀ {p r q}, A p = .ok r q → p ≤ q ∧ q ≤ s.size
section
variable {ks ds : List ByteArray} {A : Nat → CR} {s : ByteArray}
theorem atomP_skip {p p' : Nat} (h : skipB s p = skipB s p') : atomP ks ds A s p = atomP ks ds A s p' := by unfold atomP; rw [h]
theorem thenP_skip {p p' : Nat} (h : skipB s p = skipB s p') : thenP ks ds A s p = thenP ks ds A s p' := by unfold thenP; rw [atomP_skip h]
theorem orP_skip {p p' : Nat} (h : skipB s p = skipB s p') : orP ks ds A s p = orP ks ds A s p' := by unfold orP; rw [thenP_skip h]
theorem orA_skip {p p' : Nat} (h : skipB s p = skipB s p') : orA ks ds s p = orA ks ds s p' := by funext q; unfold orA; rw [h]
theorem orF_skip {p p' : Nat} (h : skipB s p = skipB s p') : orF ks ds s p = orF ks ds s p' := by rw [orF_eq, orF_eq, orP_skip h, orA_skip h]
theorem atomQ_lt (hA : FwdC A s) {p : Nat} {r : Cf} {q : Nat} (h : atomQ ks ds A s p = .ok r q) : p < q ∧ q ≤ s.size := by
  have h1 := le_skipB s (p + 1)
  unfold atomQ at h
  split at h
  · split at h
    · rename_i h0; have := byB_lt h0; cases h; omega
    · cases h
  split at h
  · split at h
    · rename_i h0; have := byB_lt h0; cases h; omega
    · split at h
      · cases h
      · rename_i r1 q1 h2
        have := hA h2
        have := le_skipB s q1
        split at h
        · rename_i h0; have := byB_lt h0; cases h; omega
        · cases h
  split at h
  · rename_i h0
    have h2 := lowB_ltr h0
    have h3 := nameTo_le (Nat.le_of_lt (lowB_lt h0))
    split at h
    · cases h; exact ⟨h2, h3⟩
    · split at h
      · cases h; exact ⟨h2, h3⟩
      · cases h
  · cases h
theorem atomP_lt (hA : FwdC A s) {p : Nat} {r : Cf} {q : Nat} (h : atomP ks ds A s p = .ok r q) : skipB s p < q ∧ q ≤ s.size := atomQ_lt hA h
theorem thenGo_le (hA : FwdC A s) : ∀ (n : Nat) (l : List Cf) (p : Nat) {r : Cf} {q : Nat}, s.size - p ≤ n → p ≤ s.size → thenGo ks ds A s l p = .ok r q → p ≤ q ∧ q ≤ s.size := by
  intro n
  induction n with
  | zero =>
    intro l p r q hn hp h
    rw [thenGo] at h
    split at h
    · split at h
      · cases h
      · rename_i h1
        have := atomP_lt hA h1
        have := le_skipB s p
        omega
    · cases h; exact ⟨Nat.le_refl _, hp⟩
  | succ n ih =>
    intro l p r q hn hp h
    rw [thenGo] at h
    split at h
    · split at h
      · cases h
      · split at h
        case isFalse => cases h
        have := ih _ _ (by omega) (by omega) h
        omega
    · cases h; exact ⟨Nat.le_refl _, hp⟩
theorem thenP_lt (hA : FwdC A s) {p : Nat} {r : Cf} {q : Nat} (h : thenP ks ds A s p = .ok r q) : skipB s p < q ∧ q ≤ s.size := by
  unfold thenP at h
  split at h
  · cases h
  · rename_i h1
    have h2 := atomP_lt hA h1
    have := thenGo_le hA _ _ _ (Nat.le_refl _) h2.2 h
    exact ⟨by omega, this.2⟩
theorem orGo_le (hA : FwdC A s) : ∀ (n : Nat) (l : List Cf) (p : Nat) {r : Cf} {q : Nat}, s.size - p ≤ n → p ≤ s.size → orGo ks ds A s l p = .ok r q → p ≤ q ∧ q ≤ s.size := by
  intro n
  induction n with
  | zero =>
    intro l p r q hn hp h
    have := le_skipB s p
    rw [orGo] at h
    split at h
    · rename_i h0; have := byB_lt h0; omega
    · cases h; exact ⟨Nat.le_refl _, hp⟩
  | succ n ih =>
    intro l p r q hn hp h
    have := le_skipB s p
    rw [orGo] at h
    split at h
    · split at h
      · cases h
      · split at h
        case isFalse => cases h
        have := ih _ _ (by omega) (by omega) h
        exact ⟨by omega, this.2⟩
    · cases h; exact ⟨Nat.le_refl _, hp⟩
theorem orP_lt (hA : FwdC A s) {p : Nat} {r : Cf} {q : Nat} (h : orP ks ds A s p = .ok r q) : skipB s p < q ∧ q ≤ s.size := by
  unfold orP at h
  split at h
  · cases h
  · rename_i h1
    have h2 := thenP_lt hA h1
    have := orGo_le hA _ _ _ (Nat.le_refl _) h2.2 h
    exact ⟨by omega, this.2⟩
end
theorem orF_lt {ks ds : List ByteArray} {s : ByteArray} : ∀ (n p : Nat) {r : Cf} {q : Nat}, s.size - p ≤ n → orF ks ds s p = .ok r q → skipB s p < q ∧ q ≤ s.size := by
  intro n
  induction n with
  | zero =>
    intro p r q hn h
    rw [orF_eq] at h
    refine orP_lt ?_ h
    intro p' r' q' h'
    unfold orA at h'
    split at h'
    · have := le_skipB s p; omega
    · cases h'
  | succ n ih =>
    intro p r q hn h
    rw [orF_eq] at h
    refine orP_lt ?_ h
    intro p' r' q' h'
    unfold orA at h'
    split at h'
    · have := le_skipB s p; have := ih _ (by omega) h'; have := le_skipB s p'; exact ⟨by omega, by omega⟩
    · cases h'
theorem orA_fwd (ks ds : List ByteArray) (s : ByteArray) (p : Nat) : FwdC (orA ks ds s p) s := by
  intro p' r q h
  unfold orA at h
  split at h
  · have := orF_lt _ _ (Nat.le_refl _) h; have := le_skipB s p'; exact ⟨by omega, by omega⟩
  · cases h
/-! ### An error has a number -/
def BadC (A : Nat → CR) : Prop := ∀ {p q e}, A p = .bad q e → 0 < e ∧ e < 10
section
variable {ks ds : List ByteArray} {A : Nat → CR} {s : ByteArray}
theorem atomQ_bad (hB : BadC A) {p q e : Nat} (h : atomQ ks ds A s p = .bad q e) : 0 < e ∧ e < 10 := by
  unfold atomQ at h
  split at h
  · split at h <;> cases h; omega
  split at h
  · split at h
    · cases h
    · split at h
      · rename_i h1; cases h; exact hB h1
      · split at h <;> cases h; omega
  split at h
  · split at h
    · cases h
    · split at h <;> cases h; omega
  · cases h; omega
theorem thenGo_bad (hA : FwdC A s) (hB : BadC A) : ∀ (n : Nat) (l : List Cf) (p : Nat) {q e : Nat}, s.size - p ≤ n → thenGo ks ds A s l p = .bad q e → 0 < e ∧ e < 10 := by
  intro n
  induction n with
  | zero =>
    intro l p q e hn h
    rw [thenGo] at h
    split at h
    · split at h
      · rename_i h1; cases h; exact atomQ_bad hB h1
      · split at h
        · omega
        · cases h; omega
    · cases h
  | succ n ih =>
    intro l p q e hn h
    rw [thenGo] at h
    split at h
    · split at h
      · rename_i h1; cases h; exact atomQ_bad hB h1
      · split at h
        · exact ih _ _ (by omega) h
        · cases h; omega
    · cases h
theorem thenP_bad (hA : FwdC A s) (hB : BadC A) {p q e : Nat} (h : thenP ks ds A s p = .bad q e) : 0 < e ∧ e < 10 := by
  unfold thenP at h
  split at h
  · rename_i h1; cases h; exact atomQ_bad hB h1
  · exact thenGo_bad hA hB _ _ _ (Nat.le_refl _) h
theorem orGo_bad (hA : FwdC A s) (hB : BadC A) : ∀ (n : Nat) (l : List Cf) (p : Nat) {q e : Nat}, s.size - p ≤ n → orGo ks ds A s l p = .bad q e → 0 < e ∧ e < 10 := by
  intro n
  induction n with
  | zero =>
    intro l p q e hn h
    have := le_skipB s p
    rw [orGo] at h
    split at h
    · split at h
      · rename_i h1; cases h; exact thenP_bad hA hB h1
      · split at h
        · omega
        · cases h; omega
    · cases h
  | succ n ih =>
    intro l p q e hn h
    have := le_skipB s p
    rw [orGo] at h
    split at h
    · split at h
      · rename_i h1; cases h; exact thenP_bad hA hB h1
      · split at h
        · exact ih _ _ (by omega) h
        · cases h; omega
    · cases h
theorem orP_bad (hA : FwdC A s) (hB : BadC A) {p q e : Nat} (h : orP ks ds A s p = .bad q e) : 0 < e ∧ e < 10 := by
  unfold orP at h
  split at h
  · rename_i h1; cases h; exact thenP_bad hA hB h1
  · exact orGo_bad hA hB _ _ _ (Nat.le_refl _) h
end
theorem orF_bad {ks ds : List ByteArray} {s : ByteArray} : ∀ (n p : Nat) {q e : Nat}, s.size - p ≤ n → orF ks ds s p = .bad q e → 0 < e ∧ e < 10 := by
  intro n
  induction n with
  | zero =>
    intro p q e hn h
    rw [orF_eq] at h
    refine orP_bad (orA_fwd ks ds s p) ?_ h
    intro p' q' e' h'
    change (if skipB s p < p' ∧ p' ≤ s.size then orF ks ds s p' else .bad 0 2) = CR.bad q' e' at h'
    split at h'
    · have := le_skipB s p; omega
    · cases h'; omega
  | succ n ih =>
    intro p q e hn h
    rw [orF_eq] at h
    refine orP_bad (orA_fwd ks ds s p) ?_ h
    intro p' q' e' h'
    change (if skipB s p < p' ∧ p' ≤ s.size then orF ks ds s p' else .bad 0 2) = CR.bad q' e' at h'
    split at h'
    · have := le_skipB s p; exact ih _ (by omega) h'
    · cases h'; omega
/-- The place behind blanks, where something is read. -/
def CR.sk (s : ByteArray) : CR → CR
  | .ok r q => .ok r (skipB s q)
  | .bad q e => .bad q e
/-- A whole text: what it is read as, the error's place, its number. -/
def wholeP (ks ds : List ByteArray) (s : ByteArray) : Cf × Nat × Nat :=
  match orF ks ds s 0 with
  | .bad q e => (.mk 0 0 [], q, e)
  | .ok r q => if skipB s q < s.size then (.mk 0 0 [], skipB s q, 2) else (r, 0, 0)
end Go.Proofs.Ytdliolbjngcgcaa.AWP
/- What is read of a grammar's text may be, and is no greater than the text. -/
namespace Go.Proofs.Ytdliolbjngcgcaa.AWP
open Go
theorem nmI_lt {l : List ByteArray} {w : ByteArray} (h : 0 ≤ nmI l w) : nmI l w < l.length := by
  unfold nmI at h ⊢
  cases e : l.findIdx? (fun x => decide (w = x)) with
  | none => rw [e] at h; simp at h
  | some i =>
    have := List.findIdx?_eq_some_iff_getElem.1 e
    obtain ⟨hi, _⟩ := this
    show (i : Int) < _
    omega
theorem Cf.fold_sz (kind : Int) : ∀ (l : List Cf), l ≠ [] → (Cf.fold kind l).sz + 1 = Cf.szs l + l.length
  | [], h => absurd rfl h
  | x :: l, _ => by
    cases l with
    | nil => rw [Cf.fold_one, Cf.szs_cons, Cf.szs_nil]; rfl
    | cons y l =>
      have ih := Cf.fold_sz kind (y :: l) (by simp)
      rw [Cf.fold_two, Cf.sz_mk, Cf.szs_cons, Cf.szs_cons, Cf.szs_nil, Cf.szs_cons x]
      simp only [List.length_cons] at ih ⊢
      omega
theorem Cf.mays_two (a b : Nat) (x y : Cf) : Cf.mays a b [x, y] = (x.may a b && y.may a b) := by rw [Cf.mays_all]; simp
theorem Cf.fold_may (kind : Int) (hk : kind = 4 ∨ kind = 5) (a b : Nat) : ∀ (l : List Cf), l ≠ [] → (∀ x ∈ l, x.may a b = true) → (Cf.fold kind l).may a b = true
  | [], h, _ => absurd rfl h
  | x :: l, _, h => by
    cases l with
    | nil => rw [Cf.fold_one]; exact h x (by simp)
    | cons y l =>
      have ih := Cf.fold_may kind hk a b (y :: l) (by simp) fun z hz => h z (by simp [hz])
      rw [Cf.fold_two, Cf.may_mk, Cf.mays_two, h x (by simp), ih]
      rcases hk with rfl | rfl <;> rfl
/-- No greater than what is read; may be. -/
def GoodA (a b : Nat) (A : Nat → CR) : Prop := ∀ {p r q}, A p = .ok r q → r.sz + 1 ≤ 2 * (q - p) ∧ r.may a b = true
section
variable {ks ds : List ByteArray} {A : Nat → CR} {s : ByteArray}
theorem atomQ_good (hA : FwdC A s) (hG : GoodA ks.length ds.length A) {p : Nat} {r : Cf} {q : Nat} (h : atomQ ks ds A s p = .ok r q) : r.sz + 1 ≤ 2 * (q - p) ∧ r.may ks.length ds.length = true := by
  have h1 := le_skipB s (p + 1)
  unfold atomQ at h
  split at h
  · split at h
    · cases h; rw [Cf.sz_mk, Cf.szs_nil]; exact ⟨by omega, rfl⟩
    · cases h
  split at h
  · split at h
    · cases h; rw [Cf.sz_mk, Cf.szs_nil]; exact ⟨by omega, rfl⟩
    · split at h
      · cases h
      · rename_i r1 q1 h2
        have h3 := hA h2
        have h4 := hG h2
        have := le_skipB s q1
        split at h
        · cases h; exact ⟨by omega, h4.2⟩
        · cases h
  split at h
  · rename_i h0
    have h2 := lowB_ltr h0
    split at h
    · rename_i hn
      have := nmI_lt hn
      cases h
      rw [Cf.sz_mk, Cf.szs_nil, Cf.may_mk]
      refine ⟨by omega, ?_⟩
      rw [Cf.mays_all]
      unfold nodeOk
      simp [hn, this]
    · split at h
      · rename_i hn
        have := nmI_lt hn
        cases h
        rw [Cf.sz_mk, Cf.szs_nil, Cf.may_mk]
        refine ⟨by omega, ?_⟩
        rw [Cf.mays_all]
        unfold nodeOk
        simp [hn, this]
      · cases h
  · cases h
theorem atomP_good (hA : FwdC A s) (hG : GoodA ks.length ds.length A) {p : Nat} {r : Cf} {q : Nat} (h : atomP ks ds A s p = .ok r q) : r.sz + 1 ≤ 2 * (q - p) ∧ r.may ks.length ds.length = true := by
  have h1 := atomQ_good hA hG h
  have h2 := le_skipB s p
  exact ⟨by omega, h1.2⟩
theorem snoc_good {a b : Nat} {l : List Cf} {r : Cf} {p q : Nat} (h1 : Cf.szs l + l.length ≤ 2 * p) (h2 : ∀ x ∈ l, x.may a b = true) (h3 : r.sz + 1 ≤ 2 * (q - p)) (hpq : p ≤ q) (h4 : r.may a b = true) :
    Cf.szs (l ++ [r]) + (l ++ [r]).length ≤ 2 * q ∧ ∀ x ∈ l ++ [r], x.may a b = true := by
  rw [Cf.szs_append, Cf.szs_cons, Cf.szs_nil, List.length_append]
  refine ⟨by simp only [List.length_singleton]; omega, fun x hx => ?_⟩
  rcases List.mem_append.1 hx with hx | hx
  · exact h2 x hx
  · rw [List.mem_singleton.1 hx]; exact h4
theorem thenGo_good (hA : FwdC A s) (hG : GoodA ks.length ds.length A) (c : Nat) : ∀ (n : Nat) (l : List Cf) (p : Nat) {r : Cf} {q : Nat}, s.size - p ≤ n → c ≤ p → l ≠ [] → Cf.szs l + l.length ≤ 2 * (p - c) → (∀ x ∈ l, x.may ks.length ds.length = true) → thenGo ks ds A s l p = .ok r q → c ≤ q ∧ r.sz + 1 ≤ 2 * (q - c) ∧ r.may ks.length ds.length = true := by
  intro n
  induction n with
  | zero =>
    intro l p r q hn hc hl h1 h2 h
    rw [thenGo] at h
    split at h
    · split at h
      · cases h
      · split at h
        · omega
        · cases h
    · cases h
      have := Cf.fold_sz 4 l hl
      exact ⟨hc, by omega, Cf.fold_may 4 (.inl rfl) _ _ l hl h2⟩
  | succ n ih =>
    intro l p r q hn hc hl h1 h2 h
    rw [thenGo] at h
    split at h
    · split at h
      · cases h
      · rename_i r1 q1 ha
        split at h
        · rename_i hq
          have h3 := atomP_good hA hG ha
          have h4 := snoc_good (p := p - c) (q := q1 - c) h1 h2 (by omega) (by omega) h3.2
          exact ih _ _ (by omega) (by omega) (by simp) h4.1 h4.2 h
        · cases h
    · cases h
      have := Cf.fold_sz 4 l hl
      exact ⟨hc, by omega, Cf.fold_may 4 (.inl rfl) _ _ l hl h2⟩
theorem thenP_good (hA : FwdC A s) (hG : GoodA ks.length ds.length A) {p : Nat} {r : Cf} {q : Nat} (h : thenP ks ds A s p = .ok r q) : r.sz + 1 ≤ 2 * (q - p) ∧ r.may ks.length ds.length = true := by
  unfold thenP at h
  split at h
  · cases h
  · rename_i r1 q1 ha
    have h3 := atomP_good hA hG ha
    have h5 := atomP_lt hA ha
    have h6 := le_skipB s p
    have := thenGo_good hA hG p _ [r1] q1 (Nat.le_refl _) (by omega) (by simp) (by rw [Cf.szs_cons, Cf.szs_nil]; simp only [List.length_singleton]; omega) (by simpa using h3.2) h
    exact this.2
theorem orGo_good (hA : FwdC A s) (hG : GoodA ks.length ds.length A) (c : Nat) : ∀ (n : Nat) (l : List Cf) (p : Nat) {r : Cf} {q : Nat}, s.size - p ≤ n → c ≤ p → l ≠ [] → Cf.szs l + l.length ≤ 2 * (p - c) → (∀ x ∈ l, x.may ks.length ds.length = true) → orGo ks ds A s l p = .ok r q → c ≤ q ∧ r.sz + 1 ≤ 2 * (q - c) ∧ r.may ks.length ds.length = true := by
  intro n
  induction n with
  | zero =>
    intro l p r q hn hc hl h1 h2 h
    have := le_skipB s p
    rw [orGo] at h
    split at h
    · split at h
      · cases h
      · split at h
        · omega
        · cases h
    · cases h
      have := Cf.fold_sz 5 l hl
      exact ⟨hc, by omega, Cf.fold_may 5 (.inr rfl) _ _ l hl h2⟩
  | succ n ih =>
    intro l p r q hn hc hl h1 h2 h
    have hsk := le_skipB s p
    rw [orGo] at h
    split at h
    · split at h
      · cases h
      · rename_i r1 q1 ha
        split at h
        · rename_i hq
          have h3 := thenP_good hA hG ha
          have h4 := snoc_good (p := p - c) (q := q1 - c) h1 h2 (by omega) (by omega) h3.2
          exact ih _ _ (by omega) (by omega) (by simp) h4.1 h4.2 h
        · cases h
    · cases h
      have := Cf.fold_sz 5 l hl
      exact ⟨hc, by omega, Cf.fold_may 5 (.inr rfl) _ _ l hl h2⟩
theorem orP_good (hA : FwdC A s) (hG : GoodA ks.length ds.length A) {p : Nat} {r : Cf} {q : Nat} (h : orP ks ds A s p = .ok r q) : r.sz + 1 ≤ 2 * (q - p) ∧ r.may ks.length ds.length = true := by
  unfold orP at h
  split at h
  · cases h
  · rename_i r1 q1 ha
    have h3 := thenP_good hA hG ha
    have h5 := thenP_lt hA ha
    have h6 := le_skipB s p
    have := orGo_good hA hG p _ [r1] q1 (Nat.le_refl _) (by omega) (by simp) (by rw [Cf.szs_cons, Cf.szs_nil]; simp only [List.length_singleton]; omega) (by simpa using h3.2) h
    exact this.2
end
theorem orF_good {ks ds : List ByteArray} {s : ByteArray} : ∀ (n p : Nat) {r : Cf} {q : Nat}, s.size - p ≤ n → orF ks ds s p = .ok r q → r.sz + 1 ≤ 2 * (q - p) ∧ r.may ks.length ds.length = true := by
  intro n
  induction n with
  | zero =>
    intro p r q hn h
    rw [orF_eq] at h
    refine orP_good (orA_fwd ks ds s p) ?_ h
    intro p' r' q' h'
    change (if skipB s p < p' ∧ p' ≤ s.size then orF ks ds s p' else .bad 0 2) = CR.ok r' q' at h'
    split at h'
    · have := le_skipB s p; omega
    · cases h'
  | succ n ih =>
    intro p r q hn h
    rw [orF_eq] at h
    refine orP_good (orA_fwd ks ds s p) ?_ h
    intro p' r' q' h'
    change (if skipB s p < p' ∧ p' ≤ s.size then orF ks ds s p' else .bad 0 2) = CR.ok r' q' at h'
    split at h'
    · have := le_skipB s p; exact ih _ (by omega) h'
    · cases h'
theorem wholeP_good (ks ds : List ByteArray) (s : ByteArray) : (wholeP ks ds s).2.2 = 0 → (wholeP ks ds s).1.sz ≤ 2 * s.size ∧ (wholeP ks ds s).1.may ks.length ds.length = true := by
  unfold wholeP
  split
  · rename_i q e h
    intro h0
    have := (orF_bad _ _ (Nat.le_refl _) h).1
    have h0 : e = 0 := h0
    omega
  · rename_i r q h
    split
    · intro h0; cases h0
    · intro _
      have h1 := orF_good _ _ (Nat.le_refl _) h
      have h2 := orF_lt _ _ (Nat.le_refl _) h
      exact ⟨show r.sz ≤ _ by omega, h1.2⟩
end Go.Proofs.Ytdliolbjngcgcaa.AWP
/- The text of an expression of a grammar. -/
namespace Go.Proofs.Ytdliolbjngcgcaa.AWP
open Go
def isIn (ks : List Int) (k : Int) : Bool := ks.contains k
/-- A node's text, by its kids' kinds and texts. -/
def cfTx (K N : List ByteArray) (k n : Int) (l : List (Int × List UInt8)) : List UInt8 :=
  if k = 1 then [91, 93]
  else if k = 2 then [40, 41]
  else if k = 3 then (K.getD n.toNat ⟨#[]⟩).data.toList
  else if k = 6 then (N.getD n.toNat ⟨#[]⟩).data.toList
  else match l with
    | [a, b] => if k = 4 then brk (isIn [4, 5] a.1) a.2 ++ 32 :: brk (isIn [5] b.1) b.2 else brk (isIn [5] a.1) a.2 ++ 32 :: 124 :: 32 :: b.2
    | _ => []
mutual
def Cf.tx (K N : List ByteArray) : Cf → List UInt8
  | .mk k n ks => cfTx K N k n (Cf.txs K N ks)
def Cf.txs (K N : List ByteArray) : List Cf → List (Int × List UInt8)
  | [] => []
  | r :: l => (r.kind, Cf.tx K N r) :: Cf.txs K N l
end
theorem Cf.tx_mk (K N : List ByteArray) (k n : Int) (ks : List Cf) : (Cf.mk k n ks).tx K N = cfTx K N k n (Cf.txs K N ks) := by rw [Cf.tx]
theorem Cf.txs_two (K N : List ByteArray) (x y : Cf) : Cf.txs K N [x, y] = [(x.kind, x.tx K N), (y.kind, y.tx K N)] := by rw [Cf.txs, Cf.txs, Cf.txs]
theorem Cf.tx_1 (K N : List ByteArray) (n : Int) (ks : List Cf) : (Cf.mk 1 n ks).tx K N = [91, 93] := by rw [Cf.tx_mk]; rfl
theorem Cf.tx_2 (K N : List ByteArray) (n : Int) (ks : List Cf) : (Cf.mk 2 n ks).tx K N = [40, 41] := by rw [Cf.tx_mk]; rfl
theorem Cf.tx_3 (K N : List ByteArray) (n : Int) (ks : List Cf) : (Cf.mk 3 n ks).tx K N = (K.getD n.toNat ⟨#[]⟩).data.toList := by rw [Cf.tx_mk]; rfl
theorem Cf.tx_6 (K N : List ByteArray) (n : Int) (ks : List Cf) : (Cf.mk 6 n ks).tx K N = (N.getD n.toNat ⟨#[]⟩).data.toList := by rw [Cf.tx_mk]; rfl
theorem Cf.tx_4 (K N : List ByteArray) (n : Int) (x y : Cf) : (Cf.mk 4 n [x, y]).tx K N = brk (isIn [4, 5] x.kind) (x.tx K N) ++ 32 :: brk (isIn [5] y.kind) (y.tx K N) := by rw [Cf.tx_mk, Cf.txs_two]; rfl
theorem Cf.tx_5 (K N : List ByteArray) (n : Int) (x y : Cf) : (Cf.mk 5 n [x, y]).tx K N = brk (isIn [5] x.kind) (x.tx K N) ++ 32 :: 124 :: 32 :: y.tx K N := by rw [Cf.tx_mk, Cf.txs_two]; rfl
theorem brk_lenC (b : Bool) (l : List UInt8) : (brk b l).length ≤ l.length + 2 := by
  unfold brk
  split
  · simp
  · omega
/-- How an expression that may be is made. -/
theorem may_cases {a b : Nat} {p : Cf → Prop} (h1 : p (.mk 1 0 [])) (h2 : p (.mk 2 0 [])) (h3 : ∀ n : Nat, n < a → p (.mk 3 n [])) (h6 : ∀ n : Nat, n < b → p (.mk 6 n []))
    (h4 : ∀ x y : Cf, x.may a b = true → y.may a b = true → p x → p y → p (.mk 4 0 [x, y])) (h5 : ∀ x y : Cf, x.may a b = true → y.may a b = true → p x → p y → p (.mk 5 0 [x, y])) :
    ∀ r : Cf, r.may a b = true → p r := by
  refine Cf.ind (p := fun r => r.may a b = true → p r) fun k n ks ih hm => ?_
  rw [Cf.may_mk, Bool.and_eq_true, nodeOk_mk] at hm
  obtain ⟨hn, hk⟩ := hm
  rw [Cf.mays_all] at hk
  have hk' := List.all_eq_true.1 hk
  have nil : ∀ {l : List Cf}, l.length = 0 → l = [] := fun h => List.eq_nil_of_length_eq_zero h
  split at hn
  · simp only [Bool.and_eq_true, decide_eq_true_eq] at hn
    obtain ⟨rfl, hl⟩ := hn
    have := nil hl; subst this
    rename_i hk12
    rcases hk12 with rfl | rfl
    · exact h1
    · exact h2
  split at hn
  · simp only [Bool.and_eq_true, decide_eq_true_eq] at hn
    obtain ⟨⟨hn0, hna⟩, hl⟩ := hn
    have := nil hl; subst this
    rename_i hk3
    subst hk3
    have := h3 n.toNat (by omega)
    rwa [Int.toNat_of_nonneg hn0] at this
  split at hn
  · simp only [Bool.and_eq_true, decide_eq_true_eq] at hn
    obtain ⟨⟨hn0, hna⟩, hl⟩ := hn
    have := nil hl; subst this
    rename_i hk6
    subst hk6
    have := h6 n.toNat (by omega)
    rwa [Int.toNat_of_nonneg hn0] at this
  split at hn
  · simp only [Bool.and_eq_true, decide_eq_true_eq] at hn
    obtain ⟨rfl, hl⟩ := hn
    obtain ⟨x, y, rfl⟩ : ∃ x y, ks = [x, y] := by
      match ks, hl with
      | [x, y], _ => exact ⟨x, y, rfl⟩
    have mx := hk' x (by simp)
    have my := hk' y (by simp)
    rename_i hk45
    rcases hk45 with rfl | rfl
    · exact h4 x y mx my (ih x (by simp) mx) (ih y (by simp) my)
    · exact h5 x y mx my (ih x (by simp) mx) (ih y (by simp) my)
  · cases hn
/-- A text is not long, where names aren't. -/
theorem tx_len {K N : List ByteArray} (hK : ∀ x ∈ K, x.size ≤ 100) (hN : ∀ x ∈ N, x.size ≤ 100) : ∀ r : Cf, r.may K.length N.length = true → (r.tx K N).length + 4 ≤ 110 * r.sz := by
  have hnm : ∀ (L : List ByteArray), (∀ x ∈ L, x.size ≤ 100) → ∀ n : Nat, n < L.length → (L.getD n ⟨#[]⟩).data.toList.length ≤ 100 := by
    intro L hL n hn
    rw [List.getD_eq_getElem?_getD, List.getElem?_eq_getElem hn, Option.getD_some, Array.length_toList]
    exact hL _ (List.getElem_mem hn)
  have two : ∀ (k : Int) (x y : Cf), (Cf.mk k 0 [x, y]).sz = 1 + (x.sz + y.sz) := fun k x y => by rw [Cf.sz_mk, Cf.szs_cons, Cf.szs_cons, Cf.szs_nil]; omega
  have one : ∀ (k n : Int), (Cf.mk k n []).sz = 1 := fun k n => by rw [Cf.sz_mk, Cf.szs_nil]
  refine may_cases ?_ ?_ ?_ ?_ ?_ ?_
  · rw [Cf.tx_1, one]; decide
  · rw [Cf.tx_2, one]; decide
  · intro n hn
    have := hnm K hK n hn
    rw [Cf.tx_3, one, Int.toNat_natCast]; omega
  · intro n hn
    have := hnm N hN n hn
    rw [Cf.tx_6, one, Int.toNat_natCast]; omega
  · intro x y _ _ hx hy
    have h1 := brk_lenC (isIn [4, 5] x.kind) (x.tx K N)
    have h2 := brk_lenC (isIn [5] y.kind) (y.tx K N)
    rw [Cf.tx_4, two, List.length_append, List.length_cons]; omega
  · intro x y _ _ hx hy
    have h1 := brk_lenC (isIn [5] x.kind) (x.tx K N)
    rw [Cf.tx_5, two, List.length_append, List.length_cons, List.length_cons, List.length_cons]; omega
end Go.Proofs.Ytdliolbjngcgcaa.AWP
/- Names that are there once: in order, and each one that stands beside an equal one left out, they are as many. -/
namespace Go.Proofs.Ytdliolbjngcgcaa.AWP
open Go
def lsts (l : List ByteArray) : List (List UInt8) := l.map fun s => s.data.toList
def bas (l : List (List UInt8)) : List ByteArray := l.map fun x => ⟨x.toArray⟩
theorem ba_of (s : ByteArray) : (⟨s.data.toList.toArray⟩ : ByteArray) = s := by cases s; simp
theorem bas_lsts (l : List ByteArray) : bas (lsts l) = l := by
  unfold bas lsts
  rw [List.map_map]
  have : ((fun x : List UInt8 => (⟨x.toArray⟩ : ByteArray)) ∘ fun s : ByteArray => s.data.toList) = id := by funext s; exact ba_of s
  rw [this, List.map_id]
/-- In order. -/
def srt (l : List ByteArray) : List ByteArray := ((l.map fun s => s.data.toList).mergeSort fun x y => decide (x ≤ y)).map fun x => ⟨x.toArray⟩
theorem srt_len (l : List ByteArray) : (srt l).length = l.length := by simp [srt]
theorem srt_perm (l : List ByteArray) : (srt l).Perm l := by
  have h : ((lsts l).mergeSort fun x y => decide (x ≤ y)).Perm (lsts l) := List.mergeSort_perm _ _
  have := h.map fun x : List UInt8 => (⟨x.toArray⟩ : ByteArray)
  have e : (lsts l).map (fun x : List UInt8 => (⟨x.toArray⟩ : ByteArray)) = l := bas_lsts l
  rw [e] at this
  exact this
theorem srt_all (p : ByteArray → Bool) (l : List ByteArray) : (srt l).all p = l.all p := by
  rw [Bool.eq_iff_iff, List.all_eq_true, List.all_eq_true]
  have h := srt_perm l
  exact ⟨fun H x hx => H x (h.mem_iff.2 hx), fun H x hx => H x (h.mem_iff.1 hx)⟩
/-- Each of those that stand side by side once. -/
def cpt (l : List ByteArray) : List ByteArray := bas (Go.Lib.compact (lsts l))
theorem cpt_all (zs : List (List UInt8)) : (Go.Lib.compact zs).length = zs.length ↔ ∀ j, j < zs.length → Go.Lib.keeps zs.toArray j = true := by
  unfold Go.Lib.compact Go.Lib.compactUpTo
  rw [List.length_map]
  have := List.length_filter_eq_length_iff (p := Go.Lib.keeps zs.toArray) (l := List.range zs.length)
  rw [List.length_range] at this
  rw [this]
  exact ⟨fun h j hj => h j (List.mem_range.2 hj), fun h j hj => h j (List.mem_range.1 hj)⟩
theorem le_total8 (a b : List UInt8) : (decide (a ≤ b) || decide (b ≤ a)) = true := by
  rcases List.le_total a b with h | h
  · simp [h]
  · simp [h]
theorem le_trans8 (a b c : List UInt8) (h : decide (a ≤ b) = true) (h' : decide (b ≤ c) = true) : decide (a ≤ c) = true := by
  simp only [decide_eq_true_eq] at *
  exact List.le_trans h h'
theorem le_anti8 {a b : List UInt8} (h : a ≤ b) (h' : b ≤ a) : a = b := List.le_antisymm h h'
theorem srt_sorted (l : List ByteArray) : ((lsts l).mergeSort fun x y => decide (x ≤ y)).Pairwise fun x y => decide (x ≤ y) = true := List.pairwise_mergeSort le_trans8 le_total8 _
theorem keeps_nodup {zs : List (List UInt8)} (hs : zs.Pairwise fun x y => decide (x ≤ y) = true) : (∀ j, j < zs.length → Go.Lib.keeps zs.toArray j = true) ↔ zs.Nodup := by
  have hget : ∀ i (hi : i < zs.length), zs.toArray[i]! = zs[i] := fun i hi => by rw [getElem!_pos _ i (by simpa using hi)]; simp
  rw [List.pairwise_iff_getElem] at hs
  constructor
  · intro hk
    rw [List.Nodup, List.pairwise_iff_getElem]
    intro i j hi hj hij e
    have h1 : zs[i] ≤ zs[i + 1] := by simpa using hs i (i + 1) hi (by omega) (by omega)
    have h2 : zs[i + 1] ≤ zs[j] := by
      by_cases e2 : i + 1 = j
      · subst e2; exact List.le_refl _
      · simpa using hs (i + 1) j (by omega) hj (by omega)
    have h3 : zs[i] = zs[i + 1] := le_anti8 h1 (e ▸ h2)
    have := hk (i + 1) (by omega)
    unfold Go.Lib.keeps at this
    rw [decide_eq_true_eq] at this
    rcases this with h | h
    · omega
    · apply h
      rw [hget (i + 1) (by omega), show i + 1 - 1 = i by omega, hget i hi, h3]
  · intro hn j hj
    unfold Go.Lib.keeps
    rw [decide_eq_true_eq]
    rcases Nat.eq_zero_or_pos j with h | h
    · exact .inl h
    · right
      rw [hget j hj, hget (j - 1) (by omega)]
      rw [List.Nodup, List.pairwise_iff_getElem] at hn
      exact fun e => hn (j - 1) j (by omega) hj (by omega) e.symm
theorem map_nodup {l : List ByteArray} : (lsts l).Nodup ↔ l.Nodup := by
  constructor
  · intro h
    unfold lsts at h
    rw [List.Nodup, List.pairwise_map] at h
    exact h.imp fun hne e => hne (congrArg (fun s : ByteArray => s.data.toList) e)
  · intro h
    unfold lsts
    rw [List.Nodup, List.pairwise_map]
    exact h.imp fun hne e => hne (ByteArray.ext (Array.toList_inj.1 e))
theorem lsts_srt (l : List ByteArray) : lsts (srt l) = (lsts l).mergeSort fun x y => decide (x ≤ y) := by
  unfold srt
  show (List.map _ (List.map _ _)) = _
  rw [List.map_map]
  have : ((fun s : ByteArray => s.data.toList) ∘ fun x : List UInt8 => (⟨x.toArray⟩ : ByteArray)) = id := by funext x; simp
  rw [this, List.map_id]; rfl
/-- As many are left just if none is there twice. -/
theorem cpt_srt (l : List ByteArray) : decide ((cpt (srt l)).length = (srt l).length) = decide l.Nodup := by
  rw [Bool.eq_iff_iff, decide_eq_true_eq, decide_eq_true_eq]
  have h1 : (cpt (srt l)).length = (Go.Lib.compact (lsts (srt l))).length := by simp [cpt, bas]
  have h2 : (srt l).length = (lsts (srt l)).length := by simp [lsts]
  rw [h1, h2, cpt_all, lsts_srt, keeps_nodup (srt_sorted l), ← map_nodup]
  exact (List.mergeSort_perm _ _).nodup_iff
def onceB (l : List ByteArray) : Bool := l.all nameB && decide l.Nodup
end Go.Proofs.Ytdliolbjngcgcaa.AWP
/- There and back: an expression's text is read as it was. -/
namespace Go.Proofs.Ytdliolbjngcgcaa.AWP
open Go
theorem lt_of_get {s : ByteArray} {p : Nat} {b : UInt8} (h : s.data[p]? = some b) : p < s.size := (Array.getElem?_eq_some_iff.1 h).1
theorem byB_of {s : ByteArray} {p c : Nat} {b : UInt8} (h : s.data[p]? = some b) {v : Bool} (hv : decide (b.toNat = c) = v) : byB s p c = v := by rw [byB_at (lt_of_get h) h, hv]
theorem lowB_of {s : ByteArray} {p : Nat} {b : UInt8} (h : s.data[p]? = some b) : lowB s p = (decide (97 ≤ b.toNat) && decide (b.toNat ≤ 122)) := lowB_at (lt_of_get h) h
theorem skipB_no {s : ByteArray} {p : Nat} {b : UInt8} (h : s.data[p]? = some b) (hb : b.toNat ≠ 32) : skipB s p = p := by
  rw [skipB_eq, if_neg]
  rintro ⟨_, h2⟩
  rw [at_of h] at h2
  exact hb h2
theorem skipB_one {s : ByteArray} {p : Nat} (h : s.data[p]? = some 32) : skipB s p = skipB s (p + 1) := by
  rw [skipB_eq, if_pos ⟨lt_of_get h, by rw [at_of h]; rfl⟩]
theorem skipB_fin {s : ByteArray} {p : Nat} (h : ¬ p < s.size) : skipB s p = p := by
  rw [skipB_eq, if_neg (fun hh => h hh.1)]
/-- How an atom begins. -/
def begN (c : UInt8) : Bool := decide (c.toNat = 91) || (decide (c.toNat = 40) || (decide (97 ≤ c.toNat) && decide (c.toNat ≤ 122)))
theorem begN_ne (c : UInt8) (h : begN c = true) : c.toNat ≠ 32 ∧ c.toNat ≠ 41 ∧ c.toNat ≠ 124 := by
  unfold begN at h
  simp only [Bool.or_eq_true, Bool.and_eq_true, decide_eq_true_eq] at h
  omega
theorem more_no {s : ByteArray} {p : Nat} {b : UInt8} (h : s.data[p]? = some b) (hb : begN b = false) : moreB s p = false := by
  unfold moreB
  rw [byB_of h rfl, byB_of h rfl, lowB_of h]
  exact hb
theorem more_end {s : ByteArray} {p : Nat} (h : ¬ p < s.size) : moreB s p = false := by
  unfold moreB
  rw [byB_end h, byB_end h, lowB_end h]; rfl
/-! ### Names -/
def StopN (s : ByteArray) (q : Nat) : Prop := ¬ (q < s.size ∧ ltrB (s.data.getD q 0).toNat = true)
/-! ### Where it stops -/
structure StopT (s : ByteArray) (q : Nat) : Prop where
  nm : StopN s q
  more : moreB s (skipB s q) = false
structure StopO (s : ByteArray) (q : Nat) : Prop extends StopT s q where
  bar : byB s (skipB s q) 124 = false
theorem stopN_of {s : ByteArray} {q : Nat} {b : UInt8} (h : s.data[q]? = some b) (hb : ltrB b.toNat = false) : StopN s q := by
  rintro ⟨_, h2⟩
  rw [at_of h, hb] at h2
  cases h2
theorem stopO_rp {s : ByteArray} {q : Nat} (h : s.data[q]? = some 41) : StopO s q :=
  ⟨⟨stopN_of h (by decide), by rw [skipB_no h (by decide)]; exact more_no h (by decide)⟩, by rw [skipB_no h (by decide)]; exact byB_of h (by decide)⟩
/-! ### A row, an expression: from behind some -/
def cfR (kind : Int) (l : List Cf) (x : Cf) : Cf := l.foldr (fun y acc => .mk kind 0 [y, acc]) x
section
variable (K N : List ByteArray)
def rowSC (A : Nat → CR) (s : ByteArray) (l : List Cf) (p : Nat) : CR :=
  match atomP K N A s p with
  | .bad q e => .bad q e
  | .ok x q => thenGo K N A s (l ++ [x]) q
def altSC (A : Nat → CR) (s : ByteArray) (l : List Cf) (p : Nat) : CR :=
  match thenP K N A s p with
  | .bad q e => .bad q e
  | .ok x q => orGo K N A s (l ++ [x]) q
end
section
variable {K N : List ByteArray}
theorem orP_sc (A : Nat → CR) (s : ByteArray) (p : Nat) : orP K N A s p = altSC K N A s [] p := rfl
theorem thenGo_stop {A : Nat → CR} {s : ByteArray} {l : List Cf} {x : Cf} {q : Nat} (h : moreB s (skipB s q) = false) : thenGo K N A s (l ++ [x]) q = .ok (cfR 4 l x) q := by
  rw [thenGo, if_neg (by rw [h]; simp), Cf.fold_foldr]; rfl
end
/-- What is asked of names. -/
structure NmOk (K N : List ByteArray) : Prop where
  nms : ∀ w ∈ K ++ N, nameB w = true
  nod : (K ++ N).Nodup
structure CRdb (K N : List ByteArray) (r : Cf) : Prop where
  beg : ∃ c m, r.tx K N = c :: m ∧ begN c = true
  atom : r.kind ≠ 4 → r.kind ≠ 5 → ∀ s p0 p, skipB s p0 ≤ p → At s p (r.tx K N) → StopN s (p + (r.tx K N).length) → atomQ K N (orA K N s p0) s p = .ok r (p + (r.tx K N).length)
  row : r.kind ≠ 5 → ∀ s p0 p l, skipB s p0 ≤ p → At s p (r.tx K N) → StopT s (p + (r.tx K N).length) → rowSC K N (orA K N s p0) s l p = .ok (cfR 4 l r) (p + (r.tx K N).length)
  alt : ∀ s p0 p l, skipB s p0 ≤ p → At s p (r.tx K N) → StopO s (p + (r.tx K N).length) → altSC K N (orA K N s p0) s l p = .ok (cfR 5 l r) (p + (r.tx K N).length)
section
variable {K N : List ByteArray}
theorem CRdb.begB {r : Cf} (h : CRdb K N r) (b : Bool) : ∃ c m, brk b (r.tx K N) = c :: m ∧ begN c = true := by
  unfold brk
  split
  · exact ⟨40, _, rfl, by decide⟩
  · exact h.beg
theorem at_begN {s : ByteArray} {p : Nat} {l : List UInt8} (hl : ∃ c m, l = c :: m ∧ begN c = true) (h : At s p l) : ∃ c, s.data[p]? = some c ∧ begN c = true := by
  obtain ⟨c, n, rfl, hc⟩ := hl
  exact ⟨c, h.1, hc⟩
theorem CRdb.whole {r : Cf} (h : CRdb K N r) {s : ByteArray} {p : Nat} (ha : At s p (r.tx K N)) (hs : StopO s (p + (r.tx K N).length)) : orF K N s p = .ok r (p + (r.tx K N).length) := by
  obtain ⟨c, hc, hb⟩ := at_begN h.beg ha
  rw [orF_eq, orP_sc]
  exact h.alt s p p [] (by rw [skipB_no hc (begN_ne c hb).1]; exact Nat.le_refl _) ha hs
/-- In brackets where it must. -/
theorem CRdb.pt {r : Cf} (h : CRdb K N r) {b : Bool} (hb : b = true ∨ (r.kind ≠ 4 ∧ r.kind ≠ 5)) {s : ByteArray} {p0 p : Nat} (hp : skipB s p0 ≤ p) (ha : At s p (brk b (r.tx K N))) (hs : StopN s (p + (brk b (r.tx K N)).length)) :
    atomQ K N (orA K N s p0) s p = .ok r (p + (brk b (r.tx K N)).length) := by
  unfold brk at ha hs ⊢
  split at ha
  case isFalse hf =>
    rw [if_neg hf] at hs ⊢
    have := hb.resolve_left hf
    exact h.atom this.1 this.2 s p0 p hp ha hs
  rename_i ht
  rw [if_pos ht]
  have hle := At_le _ _ ha (by simp)
  obtain ⟨h1, h2⟩ := ha
  have h3 := (At_app _ _ _).1 h2
  obtain ⟨c, hc, hcb⟩ := at_begN h.beg h3.1
  have h4 := h3.2.1
  simp only [List.length_cons, List.length_append, List.length_nil] at hle
  have hne := begN_ne c hcb
  unfold atomQ
  rw [byB_of h1 (v := false) (by decide), byB_of h1 (v := true) (by decide), if_neg (by simp), if_pos rfl, skipB_no hc hne.1, byB_of hc (v := false) (by simpa using hne.2.1), if_neg (by simp)]
  have e : orA K N s p0 (p + 1) = .ok r (p + 1 + (r.tx K N).length) := by
    unfold orA
    rw [if_pos (by omega)]
    exact h.whole h3.1 (stopO_rp h4)
  rw [e]
  dsimp only
  rw [skipB_no h4 (by decide), byB_of h4 (v := true) (by decide), if_pos rfl]
  congr 1
  simp; omega
theorem atomP_at {A : Nat → CR} {s : ByteArray} {p : Nat} {c : UInt8} (hc : s.data[p]? = some c) (hb : begN c = true) : atomP K N A s p = atomQ K N A s p := by
  unfold atomP; rw [skipB_no hc (begN_ne c hb).1]
theorem row_of_atom {r : Cf} {A : Nat → CR} {s : ByteArray} {p : Nat} {l : List Cf} {q : Nat} (h : atomP K N A s p = .ok r q) (hs : StopT s q) : rowSC K N A s l p = .ok (cfR 4 l r) q := by
  unfold rowSC
  rw [h]
  exact thenGo_stop hs.more
/-- A row's rest, from behind its first part. -/
theorem CRdb.rest {y : Cf} (h : CRdb K N y) {s : ByteArray} {p0 p : Nat} {l : List Cf} (hp : skipB s p0 ≤ p) (ha : At s p (brk (isIn [5] y.kind) (y.tx K N))) (hs : StopT s (p + (brk (isIn [5] y.kind) (y.tx K N)).length)) :
    rowSC K N (orA K N s p0) s l p = .ok (cfR 4 l y) (p + (brk (isIn [5] y.kind) (y.tx K N)).length) := by
  by_cases h5 : y.kind = 5
  · obtain ⟨c, hc, hcb⟩ := at_begN (h.begB _) ha
    have hb : isIn [5] y.kind = true := by rw [h5]; decide
    exact row_of_atom (by rw [atomP_at hc hcb]; exact h.pt (.inl hb) hp ha hs.nm) hs
  · have hb : isIn [5] y.kind = false := by unfold isIn; simp [h5]
    rw [hb] at ha hs ⊢
    exact h.row h5 s p0 p l hp ha hs
end
end Go.Proofs.Ytdliolbjngcgcaa.AWP
/- A text in round brackets, blanks around, is read as it is alone. -/
namespace Go.Proofs.Ytdliolbjngcgcaa.AWP
open Go
/-- A text stands in another one, from k on, a blank and a closing bracket behind it. -/
structure ShC (s s' : ByteArray) (k : Nat) : Prop where
  get : ∀ i, i < s.size → s'.data[k + i]? = s.data[i]?
  sp : s'.data[k + s.size]? = some 32
  rp : s'.data[k + s.size + 1]? = some 41
section
variable {s s' : ByteArray} {k : Nat}
theorem ShC.lt (h : ShC s s' k) : k + s.size + 1 < s'.size := lt_of_get h.rp
theorem ShC.getD (h : ShC s s' k) {p : Nat} (hp : p < s.size) : s'.data.getD (k + p) 0 = s.data.getD p 0 := by
  rw [Array.getD_eq_getD_getElem?, Array.getD_eq_getD_getElem?, h.get p hp]
theorem ShC.skip (h : ShC s s' k) : ∀ (n p : Nat), s.size - p ≤ n → p ≤ s.size → (skipB s p < s.size ∧ skipB s' (k + p) = k + skipB s p) ∨ (skipB s p = s.size ∧ skipB s' (k + p) = k + s.size + 1) := by
  have hend : skipB s s.size = s.size ∧ skipB s' (k + s.size) = k + s.size + 1 :=
    ⟨skipB_fin (by omega), by rw [skipB_one h.sp, skipB_no h.rp (by decide)]⟩
  intro n
  induction n with
  | zero =>
    intro p hn hp
    have : p = s.size := by omega
    subst this
    exact .inr hend
  | succ n ih =>
    intro p hn hp
    by_cases hps : p = s.size
    · subst hps; exact .inr hend
    have hlt : p < s.size := by omega
    have hz := h.lt
    by_cases hb : (s.data.getD p 0).toNat = 32
    · have e1 : skipB s p = skipB s (p + 1) := by rw [skipB_eq, if_pos ⟨hlt, hb⟩]
      have e2 : skipB s' (k + p) = skipB s' (k + (p + 1)) := by rw [skipB_eq, if_pos ⟨by omega, by rw [h.getD hlt]; exact hb⟩, Nat.add_assoc]
      rw [e1, e2]
      exact ih (p + 1) (by omega) (by omega)
    · have e1 : skipB s p = p := by rw [skipB_eq, if_neg fun hh => hb hh.2]
      have e2 : skipB s' (k + p) = k + p := by rw [skipB_eq, if_neg fun hh => hb (by rw [← h.getD hlt]; exact hh.2)]
      rw [e1, e2]
      exact .inl ⟨hlt, rfl⟩
theorem ShC.sk (h : ShC s s' k) {p : Nat} (hp : p ≤ s.size) : (skipB s p < s.size ∧ skipB s' (k + p) = k + skipB s p) ∨ (skipB s p = s.size ∧ skipB s' (k + p) = k + s.size + 1) := h.skip _ p (Nat.le_refl _) hp
theorem ShC.sk_lt (h : ShC s s' k) {p : Nat} (hp : p ≤ s.size) (hl : skipB s p < s.size) : skipB s' (k + p) = k + skipB s p := by
  rcases h.sk hp with ⟨_, e⟩ | ⟨e, _⟩
  · exact e
  · omega
theorem ShC.byI (h : ShC s s' k) {p : Nat} (hp : p < s.size) (c : Nat) : byB s' (k + p) c = byB s p c := by
  unfold byB
  rw [h.getD hp, decide_eq_true hp, decide_eq_true (show k + p < s'.size by have := h.lt; omega)]
theorem ShC.lowI (h : ShC s s' k) {p : Nat} (hp : p < s.size) : lowB s' (k + p) = lowB s p := by
  unfold lowB
  rw [h.getD hp, decide_eq_true hp, decide_eq_true (show k + p < s'.size by have := h.lt; omega)]
theorem ShC.moreI (h : ShC s s' k) {p : Nat} (hp : p < s.size) : moreB s' (k + p) = moreB s p := by
  unfold moreB
  rw [h.byI hp, h.byI hp, h.lowI hp]
theorem ShC.by_ (h : ShC s s' k) {p : Nat} (hp : p ≤ s.size) {c : Nat} (hc : c ≠ 41) : byB s' (skipB s' (k + p)) c = byB s (skipB s p) c := by
  rcases h.sk hp with ⟨h1, e⟩ | ⟨h1, e⟩
  · rw [e, h.byI h1]
  · rw [e, h1, byB_end (s := s) (p := s.size) (by omega)]
    exact byB_of h.rp (by rw [decide_eq_false_iff_not]; exact fun hh => hc hh.symm)
theorem ShC.more (h : ShC s s' k) {p : Nat} (hp : p ≤ s.size) : moreB s' (skipB s' (k + p)) = moreB s (skipB s p) := by
  rcases h.sk hp with ⟨h1, e⟩ | ⟨h1, e⟩
  · rw [e, h.moreI h1]
  · rw [e, h1, more_end (s := s) (p := s.size) (by omega)]
    exact more_no h.rp (by decide)
theorem ShC.name (h : ShC s s' k) : ∀ (n p : Nat), s.size - p ≤ n → p ≤ s.size → nameTo s' (k + p) = k + nameTo s p := by
  have hend : nameTo s s.size = s.size ∧ nameTo s' (k + s.size) = k + s.size :=
    ⟨by rw [nameTo_eq, if_neg fun hh => by omega], by rw [nameTo_eq, if_neg (stopN_of h.sp (by decide))]⟩
  intro n
  induction n with
  | zero =>
    intro p hn hp
    have : p = s.size := by omega
    subst this
    rw [hend.1, hend.2]
  | succ n ih =>
    intro p hn hp
    by_cases hps : p = s.size
    · subst hps; rw [hend.1, hend.2]
    have hlt : p < s.size := by omega
    have hz := h.lt
    by_cases hb : ltrB (s.data.getD p 0).toNat = true
    · rw [nameTo_eq s p, if_pos ⟨hlt, hb⟩, nameTo_eq s', if_pos ⟨by omega, by rw [h.getD hlt]; exact hb⟩, Nat.add_assoc]
      exact ih (p + 1) (by omega) (by omega)
    · rw [nameTo_eq s p, if_neg fun hh => hb hh.2, nameTo_eq s', if_neg fun hh => hb (by rw [← h.getD hlt]; exact hh.2)]
theorem ShC.ext (h : ShC s s' k) {p q : Nat} (hq : q ≤ s.size) : s'.extract (k + p) (k + q) = s.extract p q := by
  have hz := h.lt
  have hz1 : s'.data.size = s'.size := rfl
  have hz2 : s.data.size = s.size := rfl
  apply ByteArray.ext
  rw [ByteArray.data_extract, ByteArray.data_extract]
  apply Array.ext_getElem?
  intro i
  rw [Array.getElem?_extract, Array.getElem?_extract]
  by_cases hi : i < q - p
  · rw [if_pos (by omega), if_pos (by omega), Nat.add_assoc, h.get _ (by omega)]
  · rw [if_neg (by omega), if_neg (by omega)]
variable {K N : List ByteArray} {A A' : Nat → CR}
/-- What is read is longer than nothing. -/
def FwdS (A : Nat → CR) (s : ByteArray) : Prop := ∀ {p r q}, A p = .ok r q → p < q ∧ q ≤ s.size
theorem FwdS.fwd (h : FwdS A s) : FwdC A s := fun e => ⟨Nat.le_of_lt (h e).1, (h e).2⟩
/-- It is read likewise there. -/
def SimA (k : Nat) (A A' : Nat → CR) : Prop := ∀ {p r q}, A p = .ok r q → A' (k + p) = .ok r (k + q)
theorem atomQ_more {p : Nat} {r : Cf} {q : Nat} (h' : atomQ K N A s p = .ok r q) : moreB s p = true := by
  unfold atomQ at h'
  unfold moreB
  split at h'
  · rename_i h0; rw [h0]; rfl
  split at h'
  · rename_i h0; rw [h0]; simp
  split at h'
  · rename_i h0; rw [h0]; simp
  · cases h'
theorem more_lt {p : Nat} (h : moreB s p = true) : p < s.size := by
  by_cases hp : p < s.size
  · exact hp
  · rw [more_end hp] at h; cases h
theorem ShC.atomQ (h : ShC s s' k) (hA : FwdS A s) (hh : SimA k A A') {p : Nat} {r : Cf} {q : Nat} (h' : atomQ K N A s p = .ok r q) : atomQ K N A' s' (k + p) = .ok r (k + q) := by
  have hp := more_lt (atomQ_more h')
  have hz := h.lt
  unfold AWP.atomQ at h' ⊢
  rw [h.byI hp, h.byI hp, h.lowI hp]
  split at h'
  · rename_i h0
    rw [if_pos h0]
    split at h'
    · rename_i h1
      have hl := byB_lt h1
      rw [Nat.add_assoc, h.sk_lt (by omega) hl, h.byI hl, if_pos h1]
      cases h'; rfl
    · cases h'
  rename_i h0
  rw [if_neg h0]
  split at h'
  · rename_i h1
    rw [if_pos h1]
    split at h'
    · rename_i h2
      have hl := byB_lt h2
      rw [Nat.add_assoc, h.sk_lt (by omega) hl, h.byI hl, if_pos h2]
      cases h'; rfl
    · rename_i h2
      split at h'
      · cases h'
      · rename_i r1 q1 h3
        have hl := hA h3
        have hl2 : skipB s (p + 1) < s.size := by omega
        rw [Nat.add_assoc, h.sk_lt (by omega) hl2, h.byI hl2, if_neg h2, hh h3]
        dsimp only
        split at h'
        · rename_i h4
          have hl4 := byB_lt h4
          rw [h.sk_lt hl.2 hl4, h.byI hl4, if_pos h4]
          cases h'; rfl
        · cases h'
  rename_i h1
  rw [if_neg h1]
  split at h'
  · rename_i h2
    have hn := nameTo_le (s := s) (Nat.le_of_lt hp)
    rw [if_pos h2, h.name _ p (Nat.le_refl _) (by omega), h.ext hn]
    split at h'
    · rename_i h3
      rw [if_pos h3]; cases h'; rfl
    · rename_i h3
      rw [if_neg h3]
      split at h'
      · rename_i h4
        rw [if_pos h4]; cases h'; rfl
      · cases h'
  · cases h'
theorem ShC.atomP (h : ShC s s' k) (hA : FwdS A s) (hh : SimA k A A') {p : Nat} (hp : p ≤ s.size) {r : Cf} {q : Nat} (h' : atomP K N A s p = .ok r q) : atomP K N A' s' (k + p) = .ok r (k + q) := by
  unfold AWP.atomP at h' ⊢
  rw [h.sk_lt hp (more_lt (atomQ_more h'))]
  exact h.atomQ hA hh h'
theorem ShC.thenGo (h : ShC s s' k) (hA : FwdS A s) (hh : SimA k A A') : ∀ (n : Nat) (l : List Cf) (p : Nat) {r : Cf} {q : Nat}, s.size - p ≤ n → p ≤ s.size → thenGo K N A s l p = .ok r q → thenGo K N A' s' l (k + p) = .ok r (k + q) := by
  intro n
  induction n with
  | zero =>
    intro l p r q hn hp h'
    rw [AWP.thenGo] at h' ⊢
    rw [h.more hp]
    have hm : ¬ moreB s (skipB s p) = true := fun hm => by have := more_lt hm; have := le_skipB s p; omega
    rw [if_neg hm] at h' ⊢
    cases h'; rfl
  | succ n ih =>
    intro l p r q hn hp h'
    have hz := h.lt
    rw [AWP.thenGo] at h' ⊢
    rw [h.more hp]
    split at h'
    · rename_i h0
      rw [if_pos h0]
      split at h'
      · cases h'
      · rename_i r1 q1 h1
        rw [h.atomP hA hh hp h1]
        dsimp only
        split at h'
        case isFalse => cases h'
        rename_i hq
        rw [dif_pos ⟨by omega, by omega⟩]
        exact ih _ _ (by omega) hq.2 h'
    · rename_i h0
      rw [if_neg h0]
      cases h'; rfl
theorem ShC.thenP (h : ShC s s' k) (hA : FwdS A s) (hh : SimA k A A') {p : Nat} (hp : p ≤ s.size) {r : Cf} {q : Nat} (h' : thenP K N A s p = .ok r q) : thenP K N A' s' (k + p) = .ok r (k + q) := by
  unfold AWP.thenP at h' ⊢
  split at h'
  · cases h'
  · rename_i r1 q1 h1
    have := atomP_lt hA.fwd h1
    rw [h.atomP hA hh hp h1]
    exact h.thenGo hA hh _ _ _ (Nat.le_refl _) this.2 h'
theorem ShC.orGo (h : ShC s s' k) (hA : FwdS A s) (hh : SimA k A A') : ∀ (n : Nat) (l : List Cf) (p : Nat) {r : Cf} {q : Nat}, s.size - p ≤ n → p ≤ s.size → orGo K N A s l p = .ok r q → orGo K N A' s' l (k + p) = .ok r (k + q) := by
  intro n
  induction n with
  | zero =>
    intro l p r q hn hp h'
    rw [AWP.orGo] at h' ⊢
    rw [h.by_ hp (by decide)]
    have hm : ¬ byB s (skipB s p) 124 = true := fun hm => by have := byB_lt hm; have := le_skipB s p; omega
    rw [if_neg hm] at h' ⊢
    cases h'; rfl
  | succ n ih =>
    intro l p r q hn hp h'
    have hz := h.lt
    have hsk := le_skipB s p
    rw [AWP.orGo] at h' ⊢
    rw [h.by_ hp (by decide)]
    split at h'
    · rename_i h0
      have hl := byB_lt h0
      rw [if_pos h0, h.sk_lt hp hl]
      split at h'
      · cases h'
      · rename_i r1 q1 h1
        rw [Nat.add_assoc, h.thenP hA hh (by omega) h1]
        dsimp only
        split at h'
        case isFalse => cases h'
        rename_i hq
        rw [dif_pos ⟨by omega, by omega⟩]
        exact ih _ _ (by omega) hq.2 h'
    · rename_i h0
      rw [if_neg h0]
      cases h'; rfl
theorem ShC.orP (h : ShC s s' k) (hA : FwdS A s) (hh : SimA k A A') {p : Nat} (hp : p ≤ s.size) {r : Cf} {q : Nat} (h' : orP K N A s p = .ok r q) : orP K N A' s' (k + p) = .ok r (k + q) := by
  unfold AWP.orP at h' ⊢
  split at h'
  · cases h'
  · rename_i r1 q1 h1
    have := thenP_lt hA.fwd h1
    rw [h.thenP hA hh hp h1]
    exact h.orGo hA hh _ _ _ (Nat.le_refl _) this.2 h'
theorem orA_fwdS (K N : List ByteArray) (s : ByteArray) (p : Nat) : FwdS (orA K N s p) s := by
  intro p' r q h
  unfold orA at h
  split at h
  · have := orF_lt _ _ (Nat.le_refl _) h; have := le_skipB s p'; exact ⟨by omega, by omega⟩
  · cases h
theorem ShC.orF (h : ShC s s' k) : ∀ (n p : Nat) {r : Cf} {q : Nat}, s.size - p ≤ n → p ≤ s.size → orF K N s p = .ok r q → orF K N s' (k + p) = .ok r (k + q) := by
  intro n
  induction n with
  | zero =>
    intro p r q hn hp h'
    have := orF_lt _ _ (Nat.le_refl _) h'
    have := le_skipB s p
    omega
  | succ n ih =>
    intro p r q hn hp h'
    have hz := h.lt
    have hsk := le_skipB s p
    rw [orF_eq] at h' ⊢
    refine h.orP (orA_fwdS K N s p) ?_ hp h'
    intro x r1 q1 hx
    change (if skipB s p < x ∧ x ≤ s.size then AWP.orF K N s x else .bad 0 2) = CR.ok r1 q1 at hx
    unfold orA
    split at hx
    · rename_i hc
      rw [if_pos ⟨by rw [h.sk_lt hp (by omega)]; omega, by omega⟩]
      exact ih x (by omega) hc.2 hx
    · cases hx
end
theorem orF_more {K N : List ByteArray} {s : ByteArray} {p : Nat} {r : Cf} {q : Nat} (h : orF K N s p = .ok r q) : moreB s (skipB s p) = true := by
  rw [orF_eq] at h
  unfold orP at h
  split at h
  · cases h
  rename_i h1
  unfold thenP at h1
  split at h1
  · cases h1
  rename_i h2
  exact atomQ_more h2
theorem more_41 {s : ByteArray} {p : Nat} (h : moreB s p = true) : byB s p 41 = false := by
  have hp := more_lt h
  have hb : s.data[p]? = some (s.data.getD p 0) := by
    have hz : s.data.size = s.size := rfl
    rw [Array.getD_eq_getD_getElem?, Array.getElem?_eq_getElem (by omega)]; rfl
  cases hc : begN (s.data.getD p 0) with
  | false => rw [more_no hb hc] at h; cases h
  | true => exact byB_of hb (by rw [decide_eq_false_iff_not]; exact (begN_ne _ hc).2.1)
abbrev brkS (s : ByteArray) : ByteArray := ⟨([32, 40, 32] ++ (s.data.toList ++ [32, 41, 32])).toArray⟩
theorem brkS_size (s : ByteArray) : (brkS s).size = s.size + 6 := by
  have : s.data.toList.length = s.size := Array.length_toList
  rw [ba_size]; simp [this]
/-- A text in round brackets is read as it is alone. -/
theorem whole_brk {K N : List ByteArray} {s : ByteArray} {r : Cf} (h : wholeP K N s = (r, 0, 0)) : wholeP K N (brkS s) = (r, 0, 0) := by
  have hl : s.data.toList.length = s.size := Array.length_toList
  have hz := brkS_size s
  have hat := At_all ([32, 40, 32] ++ (s.data.toList ++ [32, 41, 32]))
  obtain ⟨⟨b0, b1, b2, _⟩, hat2⟩ := (At_app _ _ _).1 hat
  obtain ⟨hat3, hat4⟩ := (At_app _ _ _).1 hat2
  obtain ⟨e0, e1, e2, _⟩ := hat4
  simp only [List.length_cons, List.length_nil, hl] at e0 e1 e2 b0 b1 b2
  have hget : ∀ (l : List UInt8) (p : Nat), At (brkS s) p l → ∀ i, i < l.length → (brkS s).data[p + i]? = l[i]? := by
    intro l
    induction l with
    | nil => intro p _ i hi; simp at hi
    | cons c l ih =>
      intro p ha i hi
      cases i with
      | zero => exact ha.1
      | succ i =>
        rw [List.getElem?_cons_succ, ← ih (p + 1) ha.2 i (by simpa using hi), show p + 1 + i = p + (i + 1) by omega]
  have hS : ShC s (brkS s) 3 := by
    refine ⟨fun i hi => ?_, by rw [show 3 + s.size = 0 + (0 + 1 + 1 + 1) + s.size by omega]; exact e0, by rw [show 3 + s.size + 1 = 0 + (0 + 1 + 1 + 1) + s.size + 1 by omega]; exact e1⟩
    have := hget _ _ hat3 i (by omega)
    rw [Array.getElem?_toList] at this
    exact this
  have hend : (brkS s).data[s.size + 5]? = some 32 := by rw [show s.size + 5 = 0 + (0 + 1 + 1 + 1) + s.size + 1 + 1 by omega]; exact e2
  unfold wholeP at h
  cases ho : orF K N s 0 with
  | bad q e =>
    rw [ho] at h
    have := (orF_bad _ _ (Nat.le_refl _) ho).1
    cases h
    omega
  | ok r1 q =>
  rw [ho] at h
  dsimp only at h
  split at h
  · exact absurd (congrArg (fun x => x.2.2) h) (by simp)
  rename_i hq
  have h1 : r1 = r := congrArg (fun x => x.1) h
  subst h1
  have hlt := orF_lt _ _ (Nat.le_refl _) ho
  have hsq : skipB s q = s.size := by have := skipB_le (s := s) hlt.2; omega
  have hm := orF_more ho
  have hml := more_lt hm
  have hsk0 : skipB (brkS s) 0 = 1 := by rw [skipB_one b0, skipB_no b1 (by decide)]
  have hsk2 : skipB (brkS s) 2 = 3 + skipB s 0 := by rw [skipB_one b2]; exact hS.sk_lt (Nat.zero_le _) hml
  have h41 : byB (brkS s) (3 + skipB s 0) 41 = false := by rw [hS.byI hml]; exact more_41 hm
  have hF : orF K N (brkS s) (3 + skipB s 0) = .ok r1 (3 + q) := by
    have := hS.orF _ 0 (Nat.le_refl _) (Nat.zero_le _) ho
    rw [← this]
    refine orF_skip ?_
    rw [Nat.add_zero, ← hS.sk_lt (Nat.zero_le _) hml, skipB_idem]
  have hsk3 : skipB (brkS s) (3 + q) = 3 + s.size + 1 := by
    rcases hS.sk hlt.2 with ⟨h1, _⟩ | ⟨_, h2⟩
    · omega
    · exact h2
  have hfin : skipB (brkS s) (3 + s.size + 1 + 1) = s.size + 6 := by
    rw [show 3 + s.size + 1 + 1 = s.size + 5 by omega, skipB_one hend, skipB_fin (by omega)]
  have hat0 : atomP K N (orA K N (brkS s) 0) (brkS s) 0 = .ok r1 (3 + s.size + 1 + 1) := by
    unfold atomP atomQ
    rw [hsk0, byB_of b1 (v := false) (by decide), byB_of b1 (v := true) (by decide), if_neg (by simp), if_pos rfl, show (1 + 1 : Nat) = 2 from rfl, hsk2, h41, if_neg (by simp)]
    unfold orA
    rw [hsk0, if_pos ⟨by omega, by omega⟩, hF]
    dsimp only
    rw [hsk3, byB_of hS.rp (v := true) (by decide), if_pos rfl]
  have hth : thenP K N (orA K N (brkS s) 0) (brkS s) 0 = .ok r1 (3 + s.size + 1 + 1) := by
    unfold thenP
    rw [hat0]
    dsimp only
    rw [thenGo, hfin, more_end (by omega), if_neg (by simp), Cf.fold_one]
  have hor : orF K N (brkS s) 0 = .ok r1 (3 + s.size + 1 + 1) := by
    rw [orF_eq]
    unfold orP
    rw [hth]
    dsimp only
    rw [orGo, hfin, byB_end (by omega), if_neg (by simp), Cf.fold_one]
  unfold wholeP
  rw [hor]
  dsimp only
  rw [hfin, if_neg (by omega)]
end Go.Proofs.Ytdliolbjngcgcaa.AWP
