/- Where an error stands: not behind the text's end. -/
import Derived.Test.YtdliolbjngcgcaaDoorMathA
import Derived.Lib.Bytealg
set_option linter.unusedVariables false
set_option linter.unusedSimpArgs false
set_option linter.unusedSectionVars false
set_option maxRecDepth 100000
/- What is read has a text that isn't much longer. -/
namespace Go.Proofs.YtdliolbjngcgcaaDoor.AWP
open Go
/-! ### Ends of runs -/
/-- What is asked of what is read of n bytes. -/
def Short (r : Re) (n : Nat) : Prop := r.txt.length + 4 ≤ 20 * n ∧ r.wd
def tls : List Re → Nat
  | [] => 0
  | r :: l => r.txt.length + 4 + tls l
theorem tls_app : ∀ (l m : List Re), tls (l ++ m) = tls l + tls m
  | [], m => by simp [tls]
  | r :: l, m => by rw [List.cons_append, tls, tls, tls_app l m]; omega
def ShortL (l : List Re) (n : Nat) : Prop := tls l ≤ 20 * n ∧ ∀ x ∈ l, x.wd
theorem Short.mono {r : Re} {n m : Nat} (h : Short r n) (hnm : n ≤ m) : Short r m := ⟨by have := h.1; omega, h.2⟩
theorem ShortL.add {l : List Re} {x : Re} {n m k : Nat} (h : ShortL l n) (hx : Short x m) (hk : n + m ≤ k) : ShortL (l ++ [x]) k := by
  have h1 := h.1
  have h2 := hx.1
  refine ⟨by rw [tls_app, tls, tls]; omega, fun y hy => ?_⟩
  rcases List.mem_append.1 hy with hy | hy
  · exact h.2 y hy
  · rw [List.mem_singleton.1 hy]; exact hx.2
theorem ShortL.one {x : Re} {n : Nat} (hx : Short x n) : ShortL [x] n := by
  have h2 := hx.1
  exact ⟨by rw [tls, tls]; omega, fun y hy => by rw [List.mem_singleton.1 hy]; exact hx.2⟩
def Tld (A : Nat → PR) (s : ByteArray) : Prop := ∀ {p r q}, A p = .ok r q → Short r (q - p) ∧ p < q ∧ q ≤ s.size
section
variable {A : Nat → PR} {s : ByteArray}
theorem Tld.fwd (h : Tld A s) : Fwd A s := fun h' => by have := (h h').2; omega
end
end Go.Proofs.YtdliolbjngcgcaaDoor.AWP
set_option maxRecDepth 100000
/- The normal form fits what the expression fits. -/
namespace Go.Proofs.YtdliolbjngcgcaaDoor.AWP
open Go
section
variable {s : ByteArray}
/-! ### Alts -/
def AnyMt (s : ByteArray) (l : List Re) (i j : Nat) : Prop := ∃ x ∈ l, x.mt s i j
theorem AnyMt.congr {l m : List Re} (h : ∀ x, x ∈ l ↔ x ∈ m) {i j : Nat} : AnyMt s l i j ↔ AnyMt s m i j := ⟨fun ⟨x, hx, hp⟩ => ⟨x, (h x).1 hx, hp⟩, fun ⟨x, hx, hp⟩ => ⟨x, (h x).2 hx, hp⟩⟩
theorem AnyMt.one {x : Re} {i j : Nat} : AnyMt s [x] i j ↔ x.mt s i j := ⟨fun ⟨y, hy, h⟩ => by rw [List.mem_singleton.1 hy] at h; exact h, fun h => ⟨x, by simp, h⟩⟩
theorem AnyMt.nil {i j : Nat} : AnyMt s [] i j ↔ False := ⟨fun ⟨y, hy, h⟩ => absurd hy List.not_mem_nil, False.elim⟩
/-! ### The derivative -/
end
end Go.Proofs.YtdliolbjngcgcaaDoor.AWP
set_option maxRecDepth 100000
/- Steps: what is left behind a text. -/
namespace Go.Proofs.YtdliolbjngcgcaaDoor.AWP
open Go
/-! ### Two texts -/
/-! ### What it fits -/
end Go.Proofs.YtdliolbjngcgcaaDoor.AWP
namespace Go.Proofs.YtdliolbjngcgcaaDoor.AWP
open Go
def wdN (a : Int) : Bool := decide (0 ≤ a) && decide (a < 18446744073709551616)
mutual
/-- Words in range, as a test. -/
def wdQ : Re → Bool
  | .mk _ a b c d ks => wdN a && wdN b && wdN c && wdN d && wdQs ks
def wdQs : List Re → Bool
  | [] => true
  | r :: l => wdQ r && wdQs l
end
theorem wdQs_ok : ∀ {l : List Re}, wdQs l = true → ∀ x ∈ l, wdQ x = true
  | [], _, _, h => by cases h
  | r :: l, h, x, hx => by
    rw [wdQs, Bool.and_eq_true] at h
    rcases List.mem_cons.1 hx with rfl | hx
    · exact h.1
    · exact wdQs_ok h.2 x hx
theorem wdQ_ok (r : Re) (h : wdQ r = true) : r.wd := by
  revert h
  refine Re.ind (p := fun r => wdQ r = true → r.wd) ?_ r
  intro k a b c d ks ih h
  rw [wdQ] at h
  simp only [wdN, Bool.and_eq_true, decide_eq_true_eq] at h
  rw [Re.wd]
  refine ⟨⟨[a.toNat, b.toNat, c.toNat, d.toNat], ?_, rfl, ?_⟩, Re.wds_of fun x hx => ih x hx (wdQs_ok h.2 x hx)⟩
  · simp only [List.map_cons, List.map_nil, List.cons.injEq, and_true]
    omega
  · intro m hm
    simp only [List.mem_cons, List.not_mem_nil, or_false] at hm
    omega
end Go.Proofs.YtdliolbjngcgcaaDoor.AWP
set_option maxRecDepth 100000
/- Names; places of bytes; letters of a text. -/
namespace Go.Proofs.YtdliolbjngcgcaaDoor.AWP
open Go
/-- The first place of a byte, or how many there are. -/
def ixN (c : UInt8) : List UInt8 → Nat
  | [] => 0
  | b :: l => if b = c then 0 else ixN c l + 1
theorem ixN_le (c : UInt8) : ∀ l : List UInt8, ixN c l ≤ l.length
  | [] => Nat.le_refl _
  | b :: l => by
    rw [ixN]; split
    · exact Nat.zero_le _
    · have := ixN_le c l; simp only [List.length_cons]; omega
/-! ### Letters -/
theorem get!_of {s : ByteArray} {i : Nat} (h : i < s.size) {b : UInt8} (hb : s.data.toList[i]? = some b) : s.get! i = b := by
  cases s with | mk d =>
  show d[i]! = b
  have hi : i < d.size := h
  rw [getElem!_pos d i hi]
  have : d.toList[i]? = some d[i] := by simp [hi]
  simp only at hb
  rw [this] at hb
  exact Option.some.inj hb
theorem dec_lt {s : ByteArray} {i : Nat} (h : i < s.size) {b : UInt8} (hb : s.data.toList[i]? = some b) (hl : b.toNat < 128) : Utf8.decode s i = (b.toNat, 1) := by
  have := get!_of h hb
  unfold Utf8.decode
  simp only [Nat.add_zero, this]
  rw [if_pos hl]
theorem dec_ge {s : ByteArray} {i : Nat} (h : i < s.size) {b : UInt8} (hb : s.data.toList[i]? = some b) (hl : ¬ b.toNat < 128) : 128 ≤ (Utf8.decode s i).1 := by
  have := get!_of h hb
  unfold Utf8.decode
  simp only [Nat.add_zero, this]
  rw [if_neg hl]
  split
  · split
    · assumption
    · simp [Utf8.runeError]
  · split
    · split
      · rename_i h2
        simp only [Bool.and_eq_true, decide_eq_true_eq] at h2
        have := h2.1
        simp only
        omega
      · simp [Utf8.runeError]
    · split
      · split
        · rename_i h2
          simp only [Bool.and_eq_true, decide_eq_true_eq] at h2
          have := h2.1
          simp only
          omega
        · simp [Utf8.runeError]
      · simp [Utf8.runeError]
/-! ### Names -/
def okB (i : Nat) (n : Nat) : Bool := (decide (97 ≤ n) && decide (n ≤ 122)) || (decide (i ≠ 0) && (decide (n = 95) || (decide (48 ≤ n) && decide (n ≤ 57))))
def nameL : Nat → List UInt8 → Bool
  | _, [] => true
  | i, b :: l => okB i b.toNat && nameL (i + 1) l
def nameB (s : ByteArray) : Bool := nameL 0 s.data.toList && (decide (1 ≤ s.size) && decide (s.size ≤ 30))
end Go.Proofs.YtdliolbjngcgcaaDoor.AWP
namespace Go.Proofs.YtdliolbjngcgcaaDoor.AWP
open Go
theorem indexByte_ixN (c : UInt8) : ∀ l : List UInt8, Lib.indexByte l c = if ixN c l < l.length then (ixN c l : Int) else -1
  | [] => by simp [Lib.indexByte, ixN]
  | b :: l => by
    have hle := ixN_le c l
    have ih := indexByte_ixN c l
    rw [Lib.indexByte, ixN]
    by_cases hb : b = c
    · rw [if_pos hb]; simp [hb]
    · have hb' : (b == c) = false := by simpa using hb
      rw [if_neg hb, hb']
      simp only [Bool.false_eq_true, if_false, List.length_cons]
      by_cases h : ixN c l < l.length
      · rw [if_pos h] at ih
        rw [ih, if_pos (show ixN c l + 1 < l.length + 1 by omega)]
        have : (((ixN c l : Nat) : Int) == -1) = false := by rw [beq_eq_false_iff_ne]; omega
        rw [this]
        simp
      · rw [if_neg h] at ih
        rw [ih, if_neg (show ¬ ixN c l + 1 < l.length + 1 by omega)]
        simp
/-- The first place of a byte in a text, or -1. -/
def ixS (c : UInt8) (s : ByteArray) : Int := if ixN c s.data.toList < s.size then (ixN c s.data.toList : Int) else -1
theorem ixS_lib (c : UInt8) (s : ByteArray) : Lib.indexByte s.data.toList c = ixS c s := by
  rw [indexByte_ixN]
  unfold ixS
  rw [show s.data.toList.length = s.size from Array.length_toList]
theorem nameL_drop : ∀ (l : List UInt8) (i : Nat) (b : UInt8), l[i]? = some b → nameL i (l.drop i) = (okB i b.toNat && nameL (i + 1) (l.drop (i + 1)))
  | l, i, b, h => by
    have : l.drop i = b :: l.drop (i + 1) := by
      obtain ⟨h1, h2⟩ := List.getElem?_eq_some_iff.1 h
      rw [← h2]
      exact List.drop_eq_getElem_cons h1
    rw [this, nameL]
end Go.Proofs.YtdliolbjngcgcaaDoor.AWP
/- Where an error stands: not behind the text's end. -/
namespace Go.Proofs.YtdliolbjngcgcaaDoor.AWP
open Go
theorem sgn_bad {s : ByteArray} {p e : Nat} (hp : p ≤ s.size) (h : pSign s p = .bad e) : e ≤ s.size := by
  unfold pSign at h
  split at h
  case isFalse => cases h; exact hp
  rename_i h0
  have := begB_lt h0
  split at h
  · split at h
    · split at h
      · cases h
      · rename_i h1 _; have := isB_lt h1; cases h; omega
    · cases h; omega
  · cases h
theorem clsGo_bad {s : ByteArray} : ∀ (n : Nat) (ws : List Int) (p : Nat) {e : Nat}, s.size - p ≤ n → p ≤ s.size → clsGo s ws p = .bad e → e ≤ s.size := by
  intro n
  induction n with
  | zero =>
    intro ws p e hn hp h
    rw [clsGo] at h
    split at h
    · cases h
    · split at h
      · rename_i hs; cases h; exact sgn_bad hp hs
      · rename_i lo q1 hs
        have := pSign_lt hs
        omega
  | succ n ih =>
    intro ws p e hn hp h
    rw [clsGo] at h
    split at h
    · cases h
    · split at h
      · rename_i hs; cases h; exact sgn_bad hp hs
      · rename_i lo q1 hs
        split at h
        case isFalse => cases h; exact Nat.zero_le _
        rename_i hq
        split at h
        · rename_i hd
          have hd := isB_lt hd
          split at h
          · rename_i hs2; cases h; exact sgn_bad (by omega) hs2
          · split at h
            · cases h; omega
            · split at h
              case isFalse => cases h; exact Nat.zero_le _
              exact ih _ _ (by omega) (by omega) h
        · exact ih _ _ (by omega) (by omega) h
def Bdd (A : Nat → PR) (s : ByteArray) : Prop := ∀ {p e}, p ≤ s.size → A p = .bad e → e ≤ s.size
section
variable {A : Nat → PR} {s : ByteArray}
theorem pAtom_bad (hA : Fwd A s) (hB : Bdd A s) {p e : Nat} (hp : p ≤ s.size) (h : pAtom A s p = .bad e) : e ≤ s.size := by
  unfold pAtom at h
  split at h
  · cases h
  split at h
  · rename_i h0; have := isB_lt h0; exact clsGo_bad _ _ _ (Nat.le_refl _) (by omega) h
  split at h
  · rename_i h0
    have := isB_lt h0
    split at h
    · cases h
    · split at h
      · rename_i h1; cases h; exact hB (by omega) h1
      · rename_i h1
        have := hA h1
        split at h
        · cases h
        · cases h; omega
  · split at h
    · rename_i h1; cases h; exact sgn_bad hp h1
    · cases h
theorem pPart_bad (hA : Fwd A s) (hB : Bdd A s) {p e : Nat} (hp : p ≤ s.size) (h : pPart A s p = .bad e) : e ≤ s.size := by
  unfold pPart at h
  split at h
  · rename_i h1; cases h; exact pAtom_bad hA hB hp h1
  · cases h
theorem rowGo_bad (hA : Fwd A s) (hB : Bdd A s) : ∀ (n : Nat) (l : List Re) (p : Nat) {e : Nat}, s.size - p ≤ n → p ≤ s.size → rowGo A s l p = .bad e → e ≤ s.size := by
  intro n
  induction n with
  | zero =>
    intro l p e hn hp h
    rw [rowGo] at h
    split at h
    · split at h
      · rename_i h1; cases h; exact pPart_bad hA hB hp h1
      · rename_i h1
        have := pPart_lt hA h1
        omega
    · cases h
  | succ n ih =>
    intro l p e hn hp h
    rw [rowGo] at h
    split at h
    · split at h
      · rename_i h1; cases h; exact pPart_bad hA hB hp h1
      · split at h
        case isFalse => cases h; exact Nat.zero_le _
        exact ih _ _ (by omega) (by omega) h
    · cases h
theorem pRow_bad (hA : Fwd A s) (hB : Bdd A s) {p e : Nat} (hp : p ≤ s.size) (h : pRow A s p = .bad e) : e ≤ s.size := by
  unfold pRow at h
  split at h
  · rename_i h1; cases h; exact pPart_bad hA hB hp h1
  · rename_i h1
    have h2 := pPart_lt hA h1
    exact rowGo_bad hA hB _ _ _ (Nat.le_refl _) h2.2 h
theorem altGo_bad (hA : Fwd A s) (hB : Bdd A s) : ∀ (n : Nat) (l : List Re) (p : Nat) {e : Nat}, s.size - p ≤ n → p ≤ s.size → altGo A s l p = .bad e → e ≤ s.size := by
  intro n
  induction n with
  | zero =>
    intro l p e hn hp h
    rw [altGo] at h
    split at h
    · rename_i h0
      have := isB_lt h0
      omega
    · cases h
  | succ n ih =>
    intro l p e hn hp h
    rw [altGo] at h
    split at h
    · rename_i h0
      have := isB_lt h0
      split at h
      · rename_i h1; cases h; exact pRow_bad hA hB (by omega) h1
      · split at h
        case isFalse => cases h; exact Nat.zero_le _
        exact ih _ _ (by omega) (by omega) h
    · cases h
theorem pAlt_bad (hA : Fwd A s) (hB : Bdd A s) {p e : Nat} (hp : p ≤ s.size) (h : pAlt A s p = .bad e) : e ≤ s.size := by
  unfold pAlt at h
  split at h
  · rename_i h1; cases h; exact pRow_bad hA hB hp h1
  · rename_i h1
    have h2 := pRow_lt hA h1
    exact altGo_bad hA hB _ _ _ (Nat.le_refl _) h2.2 h
end
theorem altF_bad {s : ByteArray} : ∀ (n p : Nat) {e : Nat}, s.size - p ≤ n → p ≤ s.size → altF s p = .bad e → e ≤ s.size := by
  intro n
  induction n with
  | zero =>
    intro p e hn hp h
    rw [altF] at h
    refine pAlt_bad ?_ ?_ hp h
    · intro q r q' hq
      dsimp only at hq
      split at hq
      · omega
      · cases hq
    · intro q e' hq he
      dsimp only at he
      split at he
      · omega
      · cases he; exact Nat.zero_le _
  | succ n ih =>
    intro p e hn hp h
    rw [altF] at h
    refine pAlt_bad ?_ ?_ hp h
    · intro q r q' hq
      dsimp only at hq
      split at hq
      · have := altF_lt _ _ (Nat.le_refl _) hq; omega
      · cases hq
    · intro q e' hq he
      dsimp only at he
      split at he
      · exact ih _ (by omega) hq he
      · cases he; exact Nat.zero_le _
theorem pRead_at (s : ByteArray) : (pRead s).2.1 ≤ s.size := by
  unfold pRead
  split
  · exact Nat.zero_le _
  split
  · exact Nat.zero_le _
  unfold pWhole
  split
  · rename_i h; exact altF_bad _ _ (Nat.le_refl _) (Nat.zero_le _) h
  · rename_i h
    have := altF_lt _ _ (Nat.le_refl _) h
    split
    · exact this.2
    · exact Nat.zero_le _
end Go.Proofs.YtdliolbjngcgcaaDoor.AWP
