/- From which place to which a text fits an expression. -/
import Derived.Test.YteifkcgokjmcjaaNullMath
set_option linter.unusedVariables false
set_option linter.unusedSimpArgs false
set_option linter.unusedSectionVars false
set_option maxRecDepth 100000
/- From which place to which a text fits an expression. -/
namespace Go.Proofs.Yteifkcgokjmcjaa.AWP
open Go

theorem andOne (m : Nat) (hm : m < 2 ^ 64) : bits .and .u64 (m : Int) 1 = ((m % 2 : Nat) : Int) := by
  show IntKind.wrap .u64 ((BitVec.ofInt 64 (m : Int) &&& BitVec.ofInt 64 1).toNat : Int) = _
  have e1 : (BitVec.ofInt 64 (m : Int)).toNat = m := by simp [BitVec.toNat_ofInt]; omega
  have e2 : (BitVec.ofInt 64 1).toNat = 1 := by decide
  rw [BitVec.toNat_and, e1, e2, Nat.and_one_is_mod, u64_wrap _ (by omega)]
theorem shrN (m k : Nat) : ((m : Nat) : Int).fdiv (2 ^ k) = ((m / 2 ^ k : Nat) : Int) := by
  have e : (2 : Int) ^ k = ((2 ^ k : Nat) : Int) := by simp
  rw [e, Int.fdiv_eq_ediv_of_nonneg _ (Int.natCast_nonneg _)]
  rfl
theorem has_bit {ws : List Int} (hw : W64 ws) (b : UInt8) : (bits .and .u64 ((ws.getD (b.toNat / 64) 0).fdiv (2 ^ min (b.toNat % 64) 64)) 1 == 1) = hasB ws b.toNat := by
  obtain ⟨m, hm, hm2⟩ := hw.getD (j := b.toNat / 64) (lt4 b)
  have hmin : min (b.toNat % 64) 64 = b.toNat % 64 := by omega
  unfold hasB
  rw [hm, hmin, shrN, andOne _ (Nat.lt_of_le_of_lt (Nat.div_le_self _ _) hm2), Int.toNat_natCast, Nat.testBit_eq_decide_div_mod_eq]
  by_cases h : m / 2 ^ (b.toNat % 64) % 2 = 1
  · rw [h]; rfl
  · rw [beq_false (by omega), decide_eq_false h]

/-- As often as one likes. -/
inductive StarR (R : Nat → Nat → Prop) : Nat → Nat → Prop where
  | refl (i : Nat) : StarR R i i
  | step {i j k : Nat} (h : StarR R i j) (h' : R j k) : StarR R i k
theorem StarR.one {R : Nat → Nat → Prop} {i j : Nat} (h : R i j) : StarR R i j := .step (.refl i) h
theorem StarR.trans {R : Nat → Nat → Prop} {i j k : Nat} (h : StarR R i j) (h' : StarR R j k) : StarR R i k := by
  induction h' with
  | refl => exact h
  | step _ h2 ih => exact .step ih h2
theorem StarR.mono {R R' : Nat → Nat → Prop} (hr : ∀ i j, R i j → R' i j) {i j : Nat} (h : StarR R i j) : StarR R' i j := by
  induction h with
  | refl => exact .refl _
  | step _ h2 ih => exact .step ih (hr _ _ h2)
theorem StarR.idem {R : Nat → Nat → Prop} {i j : Nat} (h : StarR (StarR R) i j) : StarR R i j := by
  induction h with
  | refl => exact .refl _
  | step _ h2 ih => exact ih.trans h2

def byteAt (s : ByteArray) (i : Nat) : Nat := (s.data.getD i 0).toNat
/-- From i to j. -/
def Re.mt (s : ByteArray) : Re → Nat → Nat → Prop
  | .mk k _ _ _ _ [x, y] => fun i j => if k = 4 then ∃ m, x.mt s i m ∧ y.mt s m j else x.mt s i j ∨ y.mt s i j
  | .mk _ _ _ _ _ [x] => StarR (x.mt s)
  | .mk k a b c d _ => fun i j => (k = 2 ∧ i = j) ∨ (k = 3 ∧ i < s.size ∧ j = i + 1 ∧ hasB [a, b, c, d] (byteAt s i) = true)
theorem mt_2 {s : ByteArray} {i j : Nat} : (Re.mk 2 0 0 0 0 []).mt s i j ↔ i = j := by simp [Re.mt]
theorem mt_1 {s : ByteArray} {i j : Nat} : (Re.mk 1 0 0 0 0 []).mt s i j ↔ False := by simp [Re.mt]
theorem mt_3 {s : ByteArray} {a b c d : Int} {i j : Nat} : (Re.mk 3 a b c d []).mt s i j ↔ i < s.size ∧ j = i + 1 ∧ hasB [a, b, c, d] (byteAt s i) = true := by simp [Re.mt]
theorem mt_4 {s : ByteArray} {x y : Re} {i j : Nat} : (Re.mk 4 0 0 0 0 [x, y]).mt s i j ↔ ∃ m, x.mt s i m ∧ y.mt s m j := by simp [Re.mt]
theorem mt_5 {s : ByteArray} {x y : Re} {i j : Nat} : (Re.mk 5 0 0 0 0 [x, y]).mt s i j ↔ x.mt s i j ∨ y.mt s i j := by simp [Re.mt]
theorem mt_6 {s : ByteArray} {x : Re} {i j : Nat} : (Re.mk 6 0 0 0 0 [x]).mt s i j ↔ StarR (x.mt s) i j := by simp [Re.mt]
/-- It goes on, and not beyond the end. -/
theorem mt_le {s : ByteArray} (r : Re) : r.nodesOk = true → ∀ i j, r.mt s i j → i ≤ j ∧ (i ≤ s.size → j ≤ s.size) := by
  refine Re.indOk (p := fun r => ∀ i j, r.mt s i j → i ≤ j ∧ (i ≤ s.size → j ≤ s.size)) ?_ ?_ ?_ ?_ r
  · rintro k (rfl | rfl) i j h
    · exact (mt_1.1 h).elim
    · rw [mt_2.1 h]; exact ⟨Nat.le_refl _, id⟩
  · intro a b c d _ i j h
    have := mt_3.1 h
    omega
  · rintro k x y (rfl | rfl) _ _ hx hy i j h
    · obtain ⟨m, h1, h2⟩ := mt_4.1 h
      have := hx _ _ h1
      have := hy _ _ h2
      omega
    · rcases mt_5.1 h with h | h
      · exact hx _ _ h
      · exact hy _ _ h
  · intro x _ hx i j h
    have h := mt_6.1 h
    induction h with
    | refl => exact ⟨Nat.le_refl _, id⟩
    | step _ h2 ih =>
      have := ih (mt_6.2 (by assumption))
      have := hx _ _ h2
      omega

/-! ### Places -/
abbrev On (p : List Bool) (i : Nat) : Prop := p[i]? = some true
theorem On.lt {p : List Bool} {i : Nat} (h : On p i) : i < p.length := (List.getElem?_eq_some_iff.1 h).1
theorem on_ext {p q : List Bool} (hl : p.length = q.length) (h : ∀ i, i < p.length → (On p i ↔ On q i)) : p = q := by
  refine List.ext_getElem hl fun i h1 h2 => ?_
  have := h i h1
  unfold On at this
  rw [List.getElem?_eq_getElem h1, List.getElem?_eq_getElem h2] at this
  cases hp : p[i] <;> cases hq : q[i] <;> simp_all
open Classical in
noncomputable def img (R : Nat → Nat → Prop) (p : List Bool) : List Bool := (List.range p.length).map fun j => decide (∃ i, On p i ∧ R i j)
theorem img_len (R : Nat → Nat → Prop) (p : List Bool) : (img R p).length = p.length := by simp [img]
theorem on_img {R : Nat → Nat → Prop} {p : List Bool} {j : Nat} : On (img R p) j ↔ j < p.length ∧ ∃ i, On p i ∧ R i j := by
  unfold On img
  rw [List.getElem?_map]
  by_cases h : j < p.length
  · rw [List.getElem?_range h]
    simp [h]
  · rw [List.getElem?_eq_none (by simp; omega)]
    simp [h]
theorem img_congr {R R' : Nat → Nat → Prop} {p : List Bool} (h : ∀ i j, i < p.length → j < p.length → (R i j ↔ R' i j)) : img R p = img R' p := by
  refine on_ext (by rw [img_len, img_len]) fun j hj => ?_
  rw [img_len] at hj
  rw [on_img, on_img]
  constructor
  · rintro ⟨_, i, h1, h2⟩; exact ⟨hj, i, h1, (h i j h1.lt hj).1 h2⟩
  · rintro ⟨_, i, h1, h2⟩; exact ⟨hj, i, h1, (h i j h1.lt hj).2 h2⟩
def onlyL (n at' : Nat) : List Bool := (List.replicate n false).set at' true
theorem onlyL_len (n at' : Nat) : (onlyL n at').length = n := by simp [onlyL]
theorem on_only {n at' i : Nat} : On (onlyL n at') i ↔ i = at' ∧ i < n := by
  unfold On onlyL
  rw [List.getElem?_set]
  by_cases h : at' = i
  · subst h; simp
  · rw [if_neg h]
    by_cases h2 : i < n
    · rw [List.getElem?_replicate_of_lt h2]; simp; omega
    · rw [List.getElem?_eq_none (by simp; omega)]; simp; omega
def orL (p q : List Bool) : List Bool := List.zipWith (· || ·) p q
def newL (p q : List Bool) : Bool := (List.zipWith (fun x y => y && !x) p q).any id
theorem orL_len {p q : List Bool} (h : p.length = q.length) : (orL p q).length = p.length := by simp [orL, h]
theorem orL_get {p q : List Bool} {i : Nat} {x y : Bool} (h1 : p[i]? = some x) (h2 : q[i]? = some y) : (orL p q)[i]? = some (x || y) := by
  unfold orL
  rw [List.getElem?_zipWith, h1, h2]
theorem on_or {p q : List Bool} (h : p.length = q.length) {i : Nat} : On (orL p q) i ↔ On p i ∨ On q i := by
  by_cases hi : i < p.length
  · have h1 := List.getElem?_eq_getElem hi
    have h2 := List.getElem?_eq_getElem (l := q) (i := i) (by omega)
    unfold On
    rw [orL_get h1 h2, h1, h2]
    simp
  · have h1 : p[i]? = none := List.getElem?_eq_none (by omega)
    have h2 : q[i]? = none := List.getElem?_eq_none (by omega)
    have h3 : (orL p q)[i]? = none := List.getElem?_eq_none (by rw [orL_len h]; omega)
    unfold On
    rw [h1, h2, h3]
    simp
theorem newL_iff {p q : List Bool} (h : p.length = q.length) : newL p q = true ↔ ∃ i, On q i ∧ ¬ On p i := by
  unfold newL
  rw [List.any_eq_true]
  constructor
  · rintro ⟨b, hb, hbt⟩
    obtain ⟨i, hi⟩ := List.getElem?_of_mem hb
    have hi' := (List.getElem?_eq_some_iff.1 hi).1
    simp at hi'
    have h1 := List.getElem?_eq_getElem (l := p) (i := i) (by omega)
    have h2 := List.getElem?_eq_getElem (l := q) (i := i) (by omega)
    rw [List.getElem?_zipWith, h1, h2] at hi
    simp at hi
    simp at hbt
    rw [hbt] at hi
    refine ⟨i, ?_, ?_⟩
    · unfold On; rw [h2]; simp at hi; rw [hi.1]
    · unfold On; rw [h1]; simp at hi; rw [hi.2]; simp
  · rintro ⟨i, h1, h2⟩
    have hi := On.lt h1
    have hp := List.getElem?_eq_getElem (l := p) (i := i) (by omega)
    have hpf : p[i]'(by omega) = false := by
      cases hb : p[i]'(by omega)
      · rfl
      · exact absurd (by unfold On; rw [hp, hb]) h2
    rw [hpf] at hp
    refine ⟨true, ?_, rfl⟩
    refine List.mem_of_getElem? (i := i) ?_
    unfold On at h1
    rw [List.getElem?_zipWith, hp, h1]
    rfl
/-- How many places are left. -/
def offs (p : List Bool) : Nat := p.countP (!·)
theorem offs_le {p q : List Bool} : ∀ (h : p.length = q.length), offs (orL p q) ≤ offs p := by
  induction p generalizing q with
  | nil => intro h; simp [orL, offs]
  | cons x p ih =>
    intro h
    cases q with
    | nil => cases h
    | cons y q =>
      have := ih (q := q) (by simpa using h)
      unfold orL offs at *
      rw [List.zipWith_cons_cons, List.countP_cons, List.countP_cons]
      cases x <;> cases y <;> simp <;> omega
theorem offs_lt {p q : List Bool} : ∀ (h : p.length = q.length), newL p q = true → offs (orL p q) < offs p := by
  induction p generalizing q with
  | nil => intro h hn; simp [newL] at hn
  | cons x p ih =>
    intro h hn
    cases q with
    | nil => cases h
    | cons y q =>
      have hl : p.length = q.length := by simpa using h
      have h1 := offs_le hl
      unfold newL at hn
      rw [List.zipWith_cons_cons, List.any_cons, Bool.or_eq_true] at hn
      unfold orL offs at *
      rw [List.zipWith_cons_cons, List.countP_cons, List.countP_cons]
      rcases hn with hn | hn
      · simp at hn
        rw [hn.1, hn.2]
        simp; omega
      · have := ih hl (by unfold newL; exact hn)
        cases x <;> cases y <;> simp <;> omega
/-- The closure is reached. -/
theorem star_done {R : Nat → Nat → Prop} {from_ o q : List Bool} (hq : q.length = from_.length) (ho : o.length = from_.length) (hn : newL o q = false) (h1 : ∀ j, On o j ∨ On q j → On (img (StarR R) from_) j) (h2 : ∀ j, On from_ j → On o j ∨ On q j)
    (h3 : ∀ i j, On o i → R i j → j < from_.length → On o j ∨ On q j) (hR : ∀ i j, i < from_.length → R i j → j < from_.length) : orL o q = img (StarR R) from_ := by
  have sub : ∀ j, On q j → On o j := by
    intro j hj
    by_cases h : On o j
    · exact h
    · have := (newL_iff (p := o) (q := q) (by omega)).2 ⟨j, hj, h⟩
      rw [hn] at this; cases this
  refine on_ext (by rw [orL_len (by omega), img_len]; omega) fun j hj => ?_
  rw [on_or (by omega)]
  constructor
  · exact h1 j
  · intro h
    obtain ⟨hjl, i, hi, hs⟩ := on_img.1 h
    refine .inl ?_
    clear h hj hjl
    induction hs with
    | refl => exact (h2 _ hi).elim id (sub _)
    | step _ h' ih =>
      have hk := (ih).lt
      exact (h3 _ _ ih h' (hR _ _ (by omega) h')).elim id (sub _)
theorem star_step {R : Nat → Nat → Prop} {from_ o q : List Bool} (hq : q.length = from_.length) (ho : o.length = from_.length) (h1 : ∀ j, On o j ∨ On q j → On (img (StarR R) from_) j) (h2 : ∀ j, On from_ j → On o j ∨ On q j)
    (h3 : ∀ i j, On o i → R i j → j < from_.length → On o j ∨ On q j) :
    (∀ j, On (orL o q) j ∨ On (img R q) j → On (img (StarR R) from_) j) ∧ (∀ j, On from_ j → On (orL o q) j ∨ On (img R q) j) ∧ (∀ i j, On (orL o q) i → R i j → j < from_.length → On (orL o q) j ∨ On (img R q) j) := by
  have hl : o.length = q.length := by omega
  refine ⟨fun j h => ?_, fun j h => .inl ((on_or hl).2 (h2 j h)), fun i j hi hr hj => ?_⟩
  · rcases h with h | h
    · exact h1 j ((on_or hl).1 h)
    · obtain ⟨hjl, i, hi, hr⟩ := on_img.1 h
      obtain ⟨_, i0, hi0, hs⟩ := on_img.1 (h1 i (.inr hi))
      exact on_img.2 ⟨by omega, i0, hi0, .step hs hr⟩
  · rcases (on_or hl).1 hi with h | h
    · exact .inl ((on_or hl).2 (h3 i j h hr hj))
    · exact .inr (on_img.2 ⟨by omega, i, h, hr⟩)

/-! ### A text's rest -/
theorem StarR.shift {R R' : Nat → Nat → Prop} {k : Nat} (h : ∀ i j, R' i j ↔ R (k + i) (k + j)) (hR : ∀ i j, R i j → i ≤ j) {i j : Nat} : StarR R' i j ↔ StarR R (k + i) (k + j) := by
  constructor
  · intro hs
    induction hs with
    | refl => exact .refl _
    | step _ h2 ih => exact .step ih ((h _ _).1 h2)
  · intro hs
    generalize ha : k + i = a at hs
    generalize hb : k + j = b at hs
    induction hs generalizing j with
    | refl => have : i = j := by omega
              rw [this]; exact .refl _
    | step hs1 h2 ih =>
      rename_i m b'
      have hle : a ≤ m := by
        clear ih h2
        induction hs1 with
        | refl => exact Nat.le_refl _
        | step _ h2 ih2 => exact Nat.le_trans (ih2) (hR _ _ h2)
      obtain ⟨m', hm'⟩ : ∃ m', m = k + m' := ⟨m - k, by omega⟩
      subst hm'
      subst hb
      exact .step (ih rfl) ((h _ _).2 h2)
theorem mt_shift {s s' : ByteArray} {k : Nat} (hs : s'.size + k = s.size) (hb : ∀ i, i < s'.size → byteAt s' i = byteAt s (k + i)) (r : Re) : r.nodesOk = true → ∀ i j, r.mt s' i j ↔ r.mt s (k + i) (k + j) := by
  have key : r.nodesOk = true → r.nodesOk = true ∧ ∀ i j, r.mt s' i j ↔ r.mt s (k + i) (k + j) := by
    refine Re.indOk (p := fun r => r.nodesOk = true ∧ ∀ i j, r.mt s' i j ↔ r.mt s (k + i) (k + j)) ?_ ?_ ?_ ?_ r
    · rintro k' (rfl | rfl)
      · exact ⟨by decide, fun i j => by rw [mt_1, mt_1]⟩
      · exact ⟨by decide, fun i j => by rw [mt_2, mt_2]; omega⟩
    · intro a b c d hn
      refine ⟨?_, fun i j => ?_⟩
      · rw [Re.nodesOk, Re.nodesOks]
        simp [Re.nodeOk, hn]
      · rw [mt_3, mt_3]
        constructor
        · rintro ⟨h1, h2, h3⟩
          exact ⟨by omega, by omega, by rw [← hb i h1]; exact h3⟩
        · rintro ⟨h1, h2, h3⟩
          have h1' : i < s'.size := by omega
          exact ⟨h1', by omega, by rw [hb i h1']; exact h3⟩
    · rintro k' x y hk hox hoy ⟨_, hx⟩ ⟨_, hy⟩
      refine ⟨?_, fun i j => ?_⟩
      · rw [Re.nodesOk, Re.nodesOks, Re.nodesOks, Re.nodesOks, hox, hoy]
        rcases hk with rfl | rfl <;> rfl
      · rcases hk with rfl | rfl
        · rw [mt_4, mt_4]
          constructor
          · rintro ⟨m, h1, h2⟩; exact ⟨k + m, (hx _ _).1 h1, (hy _ _).1 h2⟩
          · rintro ⟨m, h1, h2⟩
            have := (mt_le x hox _ _ h1).1
            obtain ⟨m', rfl⟩ : ∃ m', m = k + m' := ⟨m - k, by omega⟩
            exact ⟨m', (hx _ _).2 h1, (hy _ _).2 h2⟩
        · rw [mt_5, mt_5, hx, hy]
    · rintro x hox ⟨_, hx⟩
      refine ⟨?_, fun i j => ?_⟩
      · rw [Re.nodesOk, Re.nodesOks, Re.nodesOks, hox]; rfl
      · rw [mt_6, mt_6]
        exact StarR.shift hx fun i j h => (mt_le x hox _ _ h).1
  exact fun h => (key h).2

/-! ### Places, by kind -/
theorem img_none (s : ByteArray) (p : List Bool) : img ((Re.mk 1 0 0 0 0 []).mt s) p = List.replicate p.length false := by
  refine on_ext (by rw [img_len, List.length_replicate]) fun i hi => ?_
  rw [on_img]
  unfold On
  rw [img_len] at hi
  rw [List.getElem?_replicate_of_lt hi]
  constructor
  · rintro ⟨_, j, _, h⟩; exact (mt_1.1 h).elim
  · intro h; simp at h
theorem img_eps (s : ByteArray) (p : List Bool) : img ((Re.mk 2 0 0 0 0 []).mt s) p = p := by
  refine on_ext (img_len _ _) fun i hi => ?_
  rw [on_img]
  rw [img_len] at hi
  constructor
  · rintro ⟨_, j, h1, h⟩; rw [← mt_2.1 h]; exact h1
  · intro h; exact ⟨hi, i, h, mt_2.2 rfl⟩
theorem img_seq (s : ByteArray) (x y : Re) (hx : x.nodesOk = true) (p : List Bool) (hp : p.length = s.size + 1) : img ((Re.mk 4 0 0 0 0 [x, y]).mt s) p = img (y.mt s) (img (x.mt s) p) := by
  refine on_ext (by rw [img_len, img_len, img_len]) fun i hi => ?_
  rw [img_len] at hi
  rw [on_img, on_img, img_len]
  constructor
  · rintro ⟨_, j, h1, h⟩
    obtain ⟨m, h2, h3⟩ := mt_4.1 h
    have := mt_le x hx _ _ h2
    have := h1.lt
    exact ⟨hi, m, on_img.2 ⟨by omega, j, h1, h2⟩, h3⟩
  · rintro ⟨_, m, h1, h3⟩
    obtain ⟨_, j, h1, h2⟩ := on_img.1 h1
    exact ⟨hi, j, h1, mt_4.2 ⟨m, h2, h3⟩⟩
theorem img_alt (s : ByteArray) (x y : Re) (p : List Bool) : img ((Re.mk 5 0 0 0 0 [x, y]).mt s) p = orL (orL (List.replicate p.length false) (img (x.mt s) p)) (img (y.mt s) p) := by
  have l1 : (orL (List.replicate p.length false) (img (x.mt s) p)).length = p.length := by rw [orL_len (by simp [img_len])]; simp
  refine on_ext (by rw [img_len, orL_len (by rw [l1, img_len]), l1]) fun i hi => ?_
  rw [img_len] at hi
  rw [on_img, on_or (by rw [l1, img_len]), on_or (by simp [img_len]), on_img, on_img]
  have hf : ¬ On (List.replicate p.length false) i := by
    unfold On
    rw [List.getElem?_replicate_of_lt hi]
    simp
  constructor
  · rintro ⟨_, j, h1, h⟩
    rcases mt_5.1 h with h | h
    · exact .inl (.inr ⟨hi, j, h1, h⟩)
    · exact .inr ⟨hi, j, h1, h⟩
  · rintro ((h | ⟨_, j, h1, h⟩) | ⟨_, j, h1, h⟩)
    · exact absurd h hf
    · exact ⟨hi, j, h1, mt_5.2 (.inl h)⟩
    · exact ⟨hi, j, h1, mt_5.2 (.inr h)⟩
theorem img_cls_0 (s : ByteArray) (a b c d : Int) (p : List Bool) (hp : p.length = s.size + 1) : (img ((Re.mk 3 a b c d []).mt s) p).take 1 = [false] := by
  have hl := img_len ((Re.mk 3 a b c d []).mt s) p
  match h : img ((Re.mk 3 a b c d []).mt s) p with
  | [] => rw [h] at hl; simp at hl; omega
  | x :: l =>
    have : x = false := by
      cases x
      · rfl
      · have : On (img ((Re.mk 3 a b c d []).mt s) p) 0 := by rw [h]; rfl
        obtain ⟨_, j, _, h⟩ := on_img.1 this
        have := mt_3.1 h
        omega
    rw [this]; rfl
theorem img_cls {s : ByteArray} {a b c d : Int} {p : List Bool} {i : Nat} {x : Bool} (hp : p.length = s.size + 1) (hi : i < s.size) (hx : p[i]? = some x) : (img ((Re.mk 3 a b c d []).mt s) p)[i + 1]? = some (x && hasB [a, b, c, d] (byteAt s i)) := by
  have hl := img_len ((Re.mk 3 a b c d []).mt s) p
  have hlt : i + 1 < (img ((Re.mk 3 a b c d []).mt s) p).length := by omega
  have key : On (img ((Re.mk 3 a b c d []).mt s) p) (i + 1) ↔ (x && hasB [a, b, c, d] (byteAt s i)) = true := by
    rw [on_img, Bool.and_eq_true]
    constructor
    · rintro ⟨_, j, h1, h⟩
      obtain ⟨_, h2, h3⟩ := mt_3.1 h
      have : j = i := by omega
      subst this
      unfold On at h1
      rw [hx] at h1
      exact ⟨by simpa using h1, h3⟩
    · rintro ⟨h1, h2⟩
      exact ⟨by omega, i, by unfold On; rw [hx, h1], mt_3.2 ⟨hi, rfl, h2⟩⟩
  unfold On at key
  rw [List.getElem?_eq_getElem hlt] at key ⊢
  congr 1
  cases h1 : (img ((Re.mk 3 a b c d []).mt s) p)[i + 1] <;> cases h2 : (x && hasB [a, b, c, d] (byteAt s i)) <;> simp_all
theorem take_set {l : List Bool} {i n : Nat} {v : Bool} (h : l[i]? = some v) (hn : l.length = n) : (l.take i ++ List.replicate (n - i) false).set i v = l.take (i + 1) ++ List.replicate (n - (i + 1)) false := by
  have hi := (List.getElem?_eq_some_iff.1 h).1
  have l1 : (l.take i).length = i := by simp; omega
  obtain ⟨m, hm⟩ : ∃ m, n - i = m + 1 := ⟨n - i - 1, by omega⟩
  rw [hm, show n - (i + 1) = m from by omega, List.replicate_succ, List.set_append_right _ _ (by omega), l1, Nat.sub_self, List.set_cons_zero, List.take_add_one, h]
  simp
theorem star_star (s : ByteArray) (x : Re) (i j : Nat) : StarR ((Re.mk 6 0 0 0 0 [x]).mt s) i j ↔ StarR (x.mt s) i j := by
  constructor
  · intro h
    exact (h.mono fun i j h => mt_6.1 h).idem
  · intro h
    exact h.mono fun i j h => mt_6.2 (.one h)

/-! ### The places' numbers -/
def posA : List Bool → Nat → List Nat
  | [], _ => []
  | b :: l, i => (if b then [i] else []) ++ posA l (i + 1)
theorem posA_app (b : Bool) : ∀ (l : List Bool) (i : Nat), posA (l ++ [b]) i = posA l i ++ (if b then [i + l.length] else [])
  | [], i => by simp [posA]
  | x :: l, i => by
    rw [List.cons_append, posA, posA, posA_app b l (i + 1), List.append_assoc, List.length_cons, show i + 1 + l.length = i + (l.length + 1) from by omega]
theorem posA_take {g : List Bool} {i : Nat} {b : Bool} (h : g[i]? = some b) : posA (g.take (i + 1)) 0 = posA (g.take i) 0 ++ (if b then [i] else []) := by
  have hl : (g.take i).length = i := by have := (List.getElem?_eq_some_iff.1 h).1; simp; omega
  rw [List.take_add_one, h]
  show posA (g.take i ++ [b]) 0 = _
  rw [posA_app, hl, Nat.zero_add]
theorem posA_shift (k : Nat) : ∀ (l : List Bool) (i : Nat), posA l (k + i) = (posA l i).map (k + ·)
  | [], i => rfl
  | x :: l, i => by
    rw [posA, posA, List.map_append, show k + i + 1 = k + (i + 1) from by omega, posA_shift k l (i + 1)]
    cases x <;> simp
theorem posA_rep (l : List Bool) : ∀ (k i : Nat), posA (List.replicate k false ++ l) i = posA l (k + i)
  | 0, i => by simp
  | k + 1, i => by
    rw [List.replicate_succ, List.cons_append, posA, posA_rep l k (i + 1), show k + (i + 1) = k + 1 + i from by omega]
    simp
theorem posA_len (l : List Bool) : ∀ (i : Nat), (posA l i).length ≤ l.length := by
  induction l with
  | nil => intro i; simp [posA]
  | cons x l ih =>
    intro i
    have := ih (i + 1)
    rw [posA, List.length_append, List.length_cons]
    cases x <;> simp <;> omega
theorem posA_lt (l : List Bool) : ∀ (i j : Nat), j ∈ posA l i → j < i + l.length := by
  induction l with
  | nil => intro i j h; simp [posA] at h
  | cons x l ih =>
    intro i j h
    rw [posA, List.mem_append] at h
    rcases h with h | h
    · cases x
      · simp at h
      · simp at h; subst h; simp
    · have := ih _ _ h
      simp; omega
/-- Where it may end: of a place in a text. -/
noncomputable def endsG (r : Re) (s : ByteArray) (k : Nat) : List Bool := img (r.mt s) (onlyL (s.size + 1) k)
theorem endsG_len (r : Re) (s : ByteArray) (k : Nat) : (endsG r s k).length = s.size + 1 := by rw [endsG, img_len, onlyL_len]
theorem on_ends {r : Re} {s : ByteArray} {k j : Nat} (hk : k ≤ s.size) : On (endsG r s k) j ↔ j ≤ s.size ∧ r.mt s k j := by
  unfold endsG
  rw [on_img, onlyL_len]
  constructor
  · rintro ⟨h1, i, h2, h3⟩
    obtain ⟨rfl, _⟩ := on_only.1 h2
    exact ⟨by omega, h3⟩
  · rintro ⟨h1, h2⟩
    exact ⟨by omega, k, on_only.2 ⟨rfl, by omega⟩, h2⟩
theorem ends_shift {r : Re} (hr : r.nodesOk = true) {s s' : ByteArray} {k : Nat} (hs : s'.size + k = s.size) (hb : ∀ i, i < s'.size → byteAt s' i = byteAt s (k + i)) : endsG r s k = List.replicate k false ++ endsG r s' 0 := by
  refine on_ext (by rw [List.length_append, List.length_replicate, endsG_len, endsG_len]; omega) fun j hj => ?_
  rw [on_ends (by omega)]
  rw [endsG_len] at hj
  by_cases h : j < k
  · have e : (List.replicate k false ++ endsG r s' 0)[j]? = some false := by
      rw [List.getElem?_append_left (by simpa using h), List.getElem?_replicate_of_lt h]
    unfold On
    rw [e]
    constructor
    · rintro ⟨_, h2⟩
      have := (mt_le r hr _ _ h2).1
      omega
    · intro h; simp at h
  · obtain ⟨j', rfl⟩ : ∃ j', j = k + j' := ⟨j - k, by omega⟩
    have e : (List.replicate k false ++ endsG r s' 0)[k + j']? = (endsG r s' 0)[j']? := by
      rw [List.getElem?_append_right (by simp), List.length_replicate, Nat.add_sub_cancel_left]
    have e2 : On (List.replicate k false ++ endsG r s' 0) (k + j') ↔ On (endsG r s' 0) j' := by unfold On; rw [e]
    rw [e2, on_ends (Nat.zero_le _)]
    have := mt_shift hs hb r hr 0 j'
    rw [Nat.add_zero] at this
    rw [this]
    exact ⟨fun h => ⟨by omega, h.2⟩, fun h => ⟨by omega, h.2⟩⟩
end Go.Proofs.Yteifkcgokjmcjaa.AWP
