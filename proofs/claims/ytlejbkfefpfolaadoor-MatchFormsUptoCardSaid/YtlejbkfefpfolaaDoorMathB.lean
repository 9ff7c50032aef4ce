/- The normal form fits what the expression fits. -/
import Derived.Test.YtlejbkfefpfolaaDoorMath
set_option linter.unusedVariables false
set_option linter.unusedSimpArgs false
set_option linter.unusedSectionVars false
set_option maxRecDepth 100000
/- Expressions' texts: what they are, and that they are read as they were. -/
namespace Go.Proofs.YtlejbkfefpfolaaDoor.AWP
open Go
/-! ### The bytes of a set -/
def hasL (ws : List Int) (n : Nat) : List Nat := (List.range n).filter fun b => hasB ws b
theorem hasL_len (ws : List Int) (n : Nat) : (hasL ws n).length ≤ n := by
  have := List.length_filter_le (fun b => hasB ws b) (List.range n)
  simpa [hasL] using this
theorem hasL_mem {ws : List Int} {n b : Nat} : b ∈ hasL ws n ↔ b < n ∧ hasB ws b = true := by simp [hasL]
theorem hasL_sorted (ws : List Int) (n : Nat) : (hasL ws n).Pairwise (· < ·) := List.Pairwise.filter _ List.pairwise_lt_range
/-! ### Runs -/
def runLen : Nat → List Nat → Nat
  | _, [] => 0
  | b, c :: l => if c = b + 1 then runLen c l + 1 else 0
theorem runLen_mem : ∀ (b : Nat) (l : List Nat) (x : Nat), x ∈ l ↔ (b < x ∧ x ≤ b + runLen b l) ∨ x ∈ l.drop (runLen b l)
  | _, [], x => by simp [runLen] <;> omega
  | b, c :: l, x => by
    rw [runLen]
    split
    · rename_i h
      subst h
      rw [List.mem_cons, runLen_mem (b + 1) l x, List.drop_succ_cons]
      constructor
      · rintro (h | h | h)
        · exact .inl (by omega)
        · exact .inl (by omega)
        · exact .inr h
      · rintro (h | h)
        · by_cases e : x = b + 1
          · exact .inl e
          · exact .inr (.inl (by omega))
        · exact .inr (.inr h)
    · rw [List.drop_zero]
      constructor
      · exact .inr
      · rintro (h | h)
        · omega
        · exact h
theorem runLen_lt : ∀ (b : Nat) (l : List Nat) (n : Nat), b < n → (∀ x ∈ l, x < n) → b + runLen b l < n
  | b, [], n, hb, _ => hb
  | b, c :: l, n, hb, h => by
    rw [runLen]
    split
    · have := runLen_lt c l n (h c (by simp)) fun x hx => h x (by simp [hx])
      omega
    · exact hb
/-- What comes behind a run isn't its next one. -/
theorem runLen_next : ∀ (b : Nat) (l : List Nat), (b :: l).Pairwise (· < ·) → ∀ x ∈ l.drop (runLen b l), b + runLen b l + 1 < x
  | b, [], _, x, hx => by simp at hx
  | b, c :: l, hp, x, hx => by
    rw [runLen] at hx ⊢
    rw [List.pairwise_cons] at hp
    split at hx
    · rename_i h
      rw [if_pos h]
      have := runLen_next c l hp.2 x (by simpa using hx)
      omega
    · rename_i h
      rw [if_neg h]
      rw [List.drop_zero, List.mem_cons] at hx
      have h1 := hp.1 c (by simp)
      have h2 := List.pairwise_cons.1 hp.2
      rcases hx with rfl | hx
      · omega
      · have := h2.1 x hx; omega
def ub (n : Nat) : UInt8 := UInt8.ofNat n
theorem ub_nat {n : Nat} (h : n < 256) : (ub n).toNat = n := by unfold ub; rw [UInt8.toNat_ofNat']; omega
def rng (b n : Nat) : List UInt8 := signB (ub b) ++ ((if 1 < n then [45] else []) ++ (if 0 < n then signB (ub (b + n)) else []))
def runsL : List Nat → List UInt8
  | [] => []
  | b :: l => rng b (runLen b l) ++ runsL (l.drop (runLen b l))
termination_by l => l.length
decreasing_by simp; omega
def setT (ws : List Int) : List UInt8 :=
  if (hasL ws 256).length = 256 then [46] else
  match hasL ws 256 with
  | [b] => signB (ub b)
  | l => 91 :: (runsL l ++ [93])
theorem signB_len (b : UInt8) : 1 ≤ (signB b).length ∧ (signB b).length ≤ 3 := by unfold signB; split <;> simp [hexB]
theorem rng_len (b n : Nat) : (rng b n).length + 1 ≤ 2 * (n + 2) ∨ (rng b n).length ≤ 2 * (n + 2) := by
  have h1 := signB_len (ub b)
  have h2 := signB_len (ub (b + n))
  unfold rng
  refine .inr ?_
  rw [List.length_append, List.length_append]
  split <;> split <;> simp <;> omega
theorem rng_len7 (b n : Nat) : (rng b n).length ≤ 7 := by
  have h1 := signB_len (ub b)
  have h2 := signB_len (ub (b + n))
  unfold rng
  rw [List.length_append, List.length_append]
  split <;> split <;> simp <;> omega
theorem runs_len : ∀ (n : Nat) (l : List Nat) (b : Nat), l.length ≤ n → l.Pairwise (· < ·) → (∀ x ∈ l, b ≤ x ∧ x < 256) → b ≤ 257 → (runsL l).length ≤ 2 * (257 - b) := by
  intro n
  induction n with
  | zero =>
    intro l b hn hp hl hb
    have : l = [] := List.eq_nil_of_length_eq_zero (by omega)
    subst this
    rw [runsL]; simp
  | succ n ih =>
    intro l b hn hp hl hb
    cases l with
    | nil => rw [runsL]; simp
    | cons c l =>
      have hc := hl c (by simp)
      have h1 := runLen_lt c l 256 hc.2 fun x hx => (hl x (by simp [hx])).2
      have h2 := runLen_next c l hp
      have h3 := ih (l.drop (runLen c l)) (c + runLen c l + 2) (by simp at hn ⊢; omega) ((List.pairwise_cons.1 hp).2.sublist (List.drop_sublist _ _)) (fun x hx => ⟨by have := h2 x hx; omega, (hl x (by simp [List.mem_of_mem_drop hx])).2⟩) (by omega)
      have h4 := rng_len c (runLen c l)
      rw [runsL, List.length_append]
      omega
theorem setT_len (ws : List Int) : (setT ws).length ≤ 516 := by
  unfold setT
  split
  · simp
  split
  · rename_i b _; have := signB_len (ub b); omega
  · have := runs_len _ (hasL ws 256) 0 (Nat.le_refl _) (hasL_sorted ws 256) (fun x hx => ⟨by omega, (hasL_mem.1 hx).1⟩) (by omega)
    simp; omega
/-! ### A text stands at a place -/
def At (s : ByteArray) : Nat → List UInt8 → Prop
  | _, [] => True
  | p, c :: l => s.data[p]? = some c ∧ At s (p + 1) l
theorem At_app {s : ByteArray} : ∀ (l m : List UInt8) (p : Nat), At s p (l ++ m) ↔ At s p l ∧ At s (p + l.length) m
  | [], m, p => by simp [At]
  | c :: l, m, p => by
    rw [List.cons_append, At, At, At_app l m (p + 1), List.length_cons, show p + 1 + l.length = p + (l.length + 1) from by omega, and_assoc]
theorem At_le {s : ByteArray} : ∀ (l : List UInt8) (p : Nat), At s p l → l ≠ [] → p + l.length ≤ s.size
  | [], p, _, h => absurd rfl h
  | [c], p, h, _ => by
    have := (Array.getElem?_eq_some_iff.1 h.1).1
    have h2 : s.data.size = s.size := rfl
    simp; omega
  | c :: d :: l, p, h, _ => by
    have := At_le (d :: l) (p + 1) h.2 (by simp)
    simp at this ⊢; omega
theorem At_of (m : List UInt8) : ∀ (l : List UInt8) (pre : List UInt8), At ⟨(pre ++ (l ++ m)).toArray⟩ pre.length l
  | [], pre => trivial
  | c :: l, pre => by
    refine ⟨by simp, ?_⟩
    have := At_of m l (pre ++ [c])
    simpa using this
theorem At_all (l : List UInt8) : At ⟨l.toArray⟩ 0 l := by simpa using At_of [] l []
/-! ### Signs -/
theorem isB_of {s l : ByteArray} {p : Nat} {b : UInt8} (hb : s.data[p]? = some b) {v : Bool} (h : decide (0 ≤ firstIdx l b) = v) : isB s p l = v := by rw [isB_at hb, h]
/-- How a sign begins. -/
def begC (c : UInt8) : Bool := plain c || c == 92
theorem begC_not (c : UInt8) (h : begC c = true) : decide (0 ≤ firstIdx cRb c) = false ∧ decide (0 ≤ firstIdx cDash c) = false ∧ decide (0 ≤ firstIdx cDot c) = false ∧ decide (0 ≤ firstIdx cLb c) = false ∧ decide (0 ≤ firstIdx cLp c) = false ∧
    decide (0 ≤ firstIdx cRp c) = false ∧ decide (0 ≤ firstIdx cStar c) = false ∧ decide (0 ≤ firstIdx cBar c) = false := by
  revert h
  exact all_ofNat (p := fun c => begC c = true → decide (0 ≤ firstIdx cRb c) = false ∧ decide (0 ≤ firstIdx cDash c) = false ∧ decide (0 ≤ firstIdx cDot c) = false ∧ decide (0 ≤ firstIdx cLb c) = false ∧ decide (0 ≤ firstIdx cLp c) = false ∧
    decide (0 ≤ firstIdx cRp c) = false ∧ decide (0 ≤ firstIdx cStar c) = false ∧ decide (0 ≤ firstIdx cBar c) = false) (by decide +kernel) c
theorem begC_beg {s : ByteArray} {p : Nat} {c : UInt8} (hc : s.data[p]? = some c) (h : begC c = true) : begB s p = true := by
  unfold begB
  rw [isB_at hc, hc]
  revert h
  exact all_ofNat (p := fun c => begC c = true → (decide (0 ≤ firstIdx ⟨#[92]⟩ c) || plain c) = true) (by decide +kernel) c
theorem signB_cons (b : UInt8) : ∃ c l, signB b = c :: l ∧ begC c = true := by
  unfold signB
  split
  · rename_i h; exact ⟨b, [], rfl, by simp [begC, h]⟩
  · exact ⟨92, hexB b, rfl, by decide⟩
theorem hexD_is (n : Nat) : decide (0 ≤ firstIdx hexS (hexD n)) = true ∧ (firstIdx hexS (hexD n)).toNat = n % 16 := by
  have h : hexD n = hexD (n % 16) := by unfold hexD; rw [Nat.mod_mod]
  rw [h]
  have hn : n % 16 < 16 := Nat.mod_lt _ (by omega)
  generalize n % 16 = k at hn
  revert k
  have : ∀ k : _root_.Fin 16, decide (0 ≤ firstIdx hexS (hexD k.val)) = true ∧ (firstIdx hexS (hexD k.val)).toNat = k.val := by decide +kernel
  exact fun k hk => this ⟨k, hk⟩
theorem sign_at {s : ByteArray} {p : Nat} {b : UInt8} (h : At s p (signB b)) : pSign s p = .ok b (p + (signB b).length) := by
  obtain ⟨c, l, hcl, hc⟩ := signB_cons b
  have h0 : s.data[p]? = some c := by rw [hcl] at h; exact h.1
  unfold pSign
  rw [if_pos (begC_beg h0 hc), at_of h0]
  unfold signB at hcl h ⊢
  by_cases hp : plain b = true
  · rw [if_pos hp] at hcl h ⊢
    cases hcl
    rw [if_neg]
    · rfl
    · intro e
      have : b = 92 := UInt8.toNat_inj.1 (by simpa using e)
      subst this
      revert hp; decide
  · rw [if_neg hp] at hcl h ⊢
    cases hcl
    obtain ⟨h1, h2, h3, _⟩ := h
    obtain ⟨e2, f2⟩ := hexD_is (b.toNat / 16)
    obtain ⟨e3, f3⟩ := hexD_is b.toNat
    rw [if_pos (by decide), isB_of h2 e2, if_pos rfl, show p + 2 = p + 1 + 1 from rfl, isB_of h3 e3, if_pos rfl]
    unfold hexAt
    rw [at_of h2, at_of h3, f2, f3]
    have hb := b.toNat_lt
    congr 1
    apply UInt8.toNat_inj.1
    rw [UInt8.toNat_ofNat']
    omega
theorem sign_beg {s : ByteArray} {p : Nat} {b : UInt8} {m : List UInt8} (h : At s p (signB b ++ m)) : ∃ c, s.data[p]? = some c ∧ begC c = true := by
  obtain ⟨c, l, hcl, hc⟩ := signB_cons b
  rw [hcl] at h
  exact ⟨c, h.1, hc⟩
/-! ### A class -/
theorem hasB_rangeS {low k : Nat} (hk : k < 256) : ∀ n, low + n ≤ 256 → hasB (rangeS low n) k = decide (low ≤ k ∧ k < low + n)
  | 0, _ => by rw [rangeS, hasB_none k hk]; symm; simp <;> omega
  | n + 1, h => by
    rw [rangeS, hasB_setBit (rangeS_w low n (by omega)) (by omega) hk, hasB_rangeS hk n (by omega), Bool.eq_iff_iff, Bool.or_eq_true, decide_eq_true_eq, decide_eq_true_eq, decide_eq_true_eq]
    omega
theorem hasB_ofS1 (b : UInt8) {k : Nat} (hk : k < 256) : hasB (ofS [b]) k = decide (k = b.toNat) := by
  show hasB (setBit noneS b.toNat) k = _
  rw [hasB_setBit W64.none b.toNat_lt hk, hasB_none k hk, Bool.false_or]
/-- One item. -/
theorem cls_item {s : ByteArray} {ws : List Int} {p : Nat} {b : Nat} {c : UInt8} (hb : b < 256) (h : At s p (signB (ub b))) (hn : s.data[p + (signB (ub b)).length]? = some c) (hd : decide (0 ≤ firstIdx cDash c) = false) :
    clsGo s ws p = clsGo s (joinAll [ws, rangeS b 1]) (p + (signB (ub b)).length) := by
  have hl := signB_len (ub b)
  have hle := At_le _ _ h (by intro e; rw [e] at hl; simp at hl)
  obtain ⟨c0, h0, hc0⟩ := sign_beg (m := []) (by rw [List.append_nil]; exact h)
  rw [clsGo, isB_of h0 (begC_not c0 hc0).1, if_neg (by simp), sign_at h]
  dsimp only
  rw [dif_pos (by omega), isB_of hn hd, if_neg (by simp), ub_nat hb, show b + 1 - b = 1 by omega]
theorem cls_range {s : ByteArray} {ws : List Int} {p : Nat} {b n : Nat} (hb : b + n < 256) (h : At s p (signB (ub b) ++ (45 :: signB (ub (b + n))))) :
    clsGo s ws p = clsGo s (joinAll [ws, rangeS b (n + 1)]) (p + (signB (ub b) ++ (45 :: signB (ub (b + n)))).length) := by
  have hl := signB_len (ub b)
  have hl2 := signB_len (ub (b + n))
  have hle := At_le _ _ h (by simp)
  obtain ⟨c0, h0, hc0⟩ := sign_beg h
  rw [At_app] at h
  obtain ⟨h1, h2, h3⟩ := h
  rw [List.length_append, List.length_cons] at hle ⊢
  rw [clsGo, isB_of h0 (begC_not c0 hc0).1, if_neg (by simp), sign_at h1]
  dsimp only
  rw [dif_pos (by omega), isB_of h2 (v := true) (by decide +kernel), if_pos rfl, sign_at h3]
  dsimp only
  rw [ub_nat hb, ub_nat (show b < 256 by omega), if_neg (by omega), dif_pos (by omega), show b + n + 1 - b = n + 1 by omega]
  congr 1; omega
theorem cls_runs {s : ByteArray} : ∀ (n : Nat) (l : List Nat) (ws : List Int) (p : Nat), l.length ≤ n → (∀ x ∈ l, x < 256) → W64 ws → At s p (runsL l ++ [93]) →
    ∃ vs, clsGo s ws p = .ok (reS vs) (p + (runsL l).length + 1) ∧ W64 vs ∧ ∀ k, k < 256 → hasB vs k = (hasB ws k || decide (k ∈ l)) := by
  intro n
  induction n with
  | zero =>
    intro l ws p hn hl hw h
    have : l = [] := List.eq_nil_of_length_eq_zero (by omega)
    subst this
    rw [runsL] at h ⊢
    refine ⟨ws, ?_, hw, fun k hk => by simp⟩
    rw [clsGo, isB_of h.1 (v := true) (by decide +kernel), if_pos rfl]
    rfl
  | succ n ih =>
    intro l ws p hn hl hw h
    cases l with
    | nil =>
      rw [runsL] at h ⊢
      refine ⟨ws, ?_, hw, fun k hk => by simp⟩
      rw [clsGo, isB_of h.1 (v := true) (by decide +kernel), if_pos rfl]
      rfl
    | cons b l =>
      have hb := hl b (by simp)
      have hlt := runLen_lt b l 256 hb fun x hx => hl x (by simp [hx])
      have hmem := runLen_mem b l
      rw [runsL] at h ⊢
      have hn' : (l.drop (runLen b l)).length ≤ n := by simp at hn ⊢; omega
      have hl' : ∀ x ∈ l.drop (runLen b l), x < 256 := fun x hx => hl x (by simp [List.mem_of_mem_drop hx])
      generalize l.drop (runLen b l) = m at *
      generalize runLen b l = r at *
      -- what stands behind the run begins no item of it
      have hnext : ∀ q, At s q (runsL m ++ [93]) → ∃ c, s.data[q]? = some c ∧ decide (0 ≤ firstIdx cDash c) = false := by
        intro q hq
        cases m with
        | nil => rw [runsL] at hq; exact ⟨93, hq.1, by decide +kernel⟩
        | cons d m =>
          rw [runsL] at hq
          unfold rng at hq
          rw [List.append_assoc, List.append_assoc] at hq
          obtain ⟨c, h1, h2⟩ := sign_beg hq
          exact ⟨c, h1, (begC_not c h2).2.1⟩
      rw [List.append_assoc, At_app] at h
      obtain ⟨h1, h2⟩ := h
      obtain ⟨c, hc, hd⟩ := hnext _ h2
      have key : ∃ us, clsGo s ws p = clsGo s us (p + (rng b r).length) ∧ W64 us ∧ ∀ k, k < 256 → hasB us k = (hasB ws k || decide (b ≤ k ∧ k ≤ b + r)) := by
        unfold rng at h1 hc h2 ⊢
        by_cases r0 : r = 0
        · subst r0
          simp only [Nat.lt_irrefl, Nat.not_lt_zero, if_false, List.append_nil] at h1 hc h2 ⊢
          refine ⟨_, cls_item hb h1 hc hd, hw.joinAll2 (rangeS_w b 1 (by omega)), fun k hk => ?_⟩
          rw [hasB_joinAll2 hw (rangeS_w b 1 (by omega)) hk, hasB_rangeS hk 1 (by omega)]
          congr 1
          rw [decide_eq_decide]; omega
        by_cases r1 : r = 1
        · subst r1
          simp only [Nat.lt_irrefl, if_false, Nat.lt_add_one, if_true, List.nil_append, Nat.zero_lt_one] at h1 hc h2 ⊢
          rw [At_app] at h1
          obtain ⟨c1, hc1, hd1⟩ := sign_beg (m := []) (by rw [List.append_nil]; exact h1.2)
          have hw1 := hw.joinAll2 (rangeS_w b 1 (by omega))
          refine ⟨joinAll [joinAll [ws, rangeS b 1], rangeS (b + 1) 1], ?_, hw1.joinAll2 (rangeS_w _ 1 (by omega)), fun k hk => ?_⟩
          · rw [cls_item hb h1.1 hc1 (begC_not c1 hd1).2.1, cls_item (by omega) h1.2 (by rw [List.length_append, ← Nat.add_assoc] at hc; exact hc) hd, List.length_append, ← Nat.add_assoc]
          · rw [hasB_joinAll2 hw1 (rangeS_w _ 1 (by omega)) hk, hasB_joinAll2 hw (rangeS_w b 1 (by omega)) hk, hasB_rangeS hk 1 (by omega), hasB_rangeS hk 1 (by omega), Bool.or_assoc]
            congr 1
            rw [Bool.eq_iff_iff, Bool.or_eq_true, decide_eq_true_eq, decide_eq_true_eq, decide_eq_true_eq]; omega
        · rw [if_pos (show 1 < r by omega), if_pos (show 0 < r by omega)] at h1 ⊢
          refine ⟨_, cls_range hlt h1, hw.joinAll2 (rangeS_w b (r + 1) (by omega)), fun k hk => ?_⟩
          rw [hasB_joinAll2 hw (rangeS_w b (r + 1) (by omega)) hk, hasB_rangeS hk (r + 1) (by omega)]
          congr 1
          rw [decide_eq_decide]; omega
      obtain ⟨us, e, hu, hub⟩ := key
      obtain ⟨vs, e2, hv, hvb⟩ := ih m us _ hn' hl' hu h2
      refine ⟨vs, ?_, hv, fun k hk => ?_⟩
      · rw [e, e2, List.length_append]; congr 1; omega
      · rw [hvb k hk, hub k hk, Bool.or_assoc]
        congr 1
        have := hmem k
        rw [Bool.eq_iff_iff, Bool.or_eq_true, decide_eq_true_eq, decide_eq_true_eq, decide_eq_true_eq, List.mem_cons, this]
        constructor
        · rintro (h | h)
          · by_cases e : k = b
            · exact .inl e
            · exact .inr (.inl (by omega))
          · exact .inr (.inr h)
        · rintro (h | h | h)
          · exact .inl (by omega)
          · exact .inl (by omega)
          · exact .inr h
theorem hasL_full {ws : List Int} (h : (hasL ws 256).length = 256) {k : Nat} (hk : k < 256) : hasB ws k = true := by
  have := List.length_filter_eq_length_iff.1 (show ((List.range 256).filter fun b => hasB ws b).length = (List.range 256).length by rw [List.length_range]; exact h)
  exact this k (List.mem_range.2 hk)
/-- A set's text is read as the set. -/
theorem set_at {A : Nat → PR} {s : ByteArray} {ws : List Int} {p : Nat} (hw : W64 ws) (h : At s p (setT ws)) : pAtom A s p = .ok (reS ws) (p + (setT ws).length) := by
  have hmem : ∀ k, k < 256 → (k ∈ hasL ws 256 ↔ hasB ws k = true) := fun k hk => by rw [hasL_mem]; simp [hk]
  unfold setT at h ⊢
  split at h
  · rename_i hf
    rw [if_pos hf]
    unfold pAtom
    rw [isB_of h.1 (v := true) (by decide +kernel), if_pos rfl]
    have : rangeS 0 256 = ws := (rangeS_w 0 256 (by omega)).ext hw fun k hk => by
      rw [hasB_rangeS hk 256 (by omega), hasL_full hf hk]; simp [hk]
    rw [this]; rfl
  rename_i hf
  rw [if_neg hf]
  split at h
  · rename_i b hb
    have hb256 : b < 256 := by have := (hasL_mem (ws := ws) (n := 256) (b := b)).1 (by rw [hb]; simp); exact this.1
    obtain ⟨c, hc, hcb⟩ := sign_beg (m := []) (by rw [List.append_nil]; exact h)
    obtain ⟨_, _, n1, n2, n3, _⟩ := begC_not c hcb
    unfold pAtom
    rw [isB_of hc n1, isB_of hc n2, isB_of hc n3, if_neg (by simp), if_neg (by simp), if_neg (by simp), sign_at h]
    dsimp only
    have : ofS [ub b] = ws := (ofS_w _).ext hw fun k hk => by
      rw [hasB_ofS1 _ hk, ub_nat hb256, Bool.eq_iff_iff, decide_eq_true_eq, ← hmem k hk, hb]; simp
    rw [this]
  · rename_i l hl
    obtain ⟨h1, h2⟩ := h
    obtain ⟨vs, e, hv, hvb⟩ := cls_runs _ (hasL ws 256) noneS (p + 1) (Nat.le_refl _) (fun x hx => (hasL_mem.1 hx).1) W64.none h2
    have : vs = ws := hv.ext hw fun k hk => by
      rw [hvb k hk, hasB_none k hk, Bool.false_or, Bool.eq_iff_iff, decide_eq_true_eq, hmem k hk]
    subst this
    unfold pAtom
    rw [isB_of h1 (v := false) (by decide +kernel), isB_of h1 (v := true) (by decide +kernel), if_neg (by simp), if_pos rfl, e]
    congr 1
    simp; omega
end Go.Proofs.YtlejbkfefpfolaaDoor.AWP
set_option maxRecDepth 100000
/- Any expression is read from its text as it was. -/
namespace Go.Proofs.YtlejbkfefpfolaaDoor.AWP
open Go
def brk (b : Bool) (l : List UInt8) : List UInt8 := if b then 40 :: (l ++ [41]) else l
def Re.is5 (x : Re) : Bool := decide (x.kd = 5)
def Re.is45 (x : Re) : Bool := decide (x.kd = 4) || decide (x.kd = 5)
/-- An expression's text. -/
def Re.txt : Re → List UInt8
  | .mk k _ _ _ _ [x, y] => if k = 4 then brk x.is45 x.txt ++ brk y.is5 y.txt else brk x.is5 x.txt ++ 124 :: y.txt
  | .mk _ _ _ _ _ [x] => brk x.is45 x.txt ++ [42]
  | .mk k a b c d _ => if k = 1 then [91, 93] else if k = 2 then [40, 41] else setT [a, b, c, d]
theorem txt_1 : (Re.mk 1 0 0 0 0 []).txt = [91, 93] := by simp [Re.txt]
theorem txt_2 : (Re.mk 2 0 0 0 0 []).txt = [40, 41] := by simp [Re.txt]
theorem txt_3 {a b c d : Int} : (Re.mk 3 a b c d []).txt = setT [a, b, c, d] := by simp [Re.txt]
theorem txt_4 {x y : Re} : (Re.mk 4 0 0 0 0 [x, y]).txt = brk x.is45 x.txt ++ brk y.is5 y.txt := by simp [Re.txt]
theorem txt_5 {x y : Re} : (Re.mk 5 0 0 0 0 [x, y]).txt = brk x.is5 x.txt ++ 124 :: y.txt := by simp [Re.txt]
theorem txt_6 {x : Re} : (Re.mk 6 0 0 0 0 [x]).txt = brk x.is45 x.txt ++ [42] := by simp [Re.txt]
theorem brk_len (b : Bool) (l : List UInt8) : l.length ≤ (brk b l).length ∧ (brk b l).length ≤ l.length + 2 := by unfold brk; split <;> simp <;> omega
theorem txt_len (r : Re) : r.nodesOk = true → r.txt.length + 4 ≤ 260 * (r.sz + 1) := by
  refine Re.indOk (p := fun r => r.txt.length + 4 ≤ 260 * (r.sz + 1)) ?_ ?_ ?_ ?_ r
  · intro k hk
    rcases hk with rfl | rfl
    · rw [txt_1]; simp [Re.sz, Re.szs]
    · rw [txt_2]; simp [Re.sz, Re.szs]
  · intro a b c d _
    have := setT_len [a, b, c, d]
    rw [txt_3, Re.sz, Re.szs]; omega
  · intro k x y hk _ _ hx hy
    have e : (Re.mk k 0 0 0 0 [x, y]).sz = 1 + (x.sz + y.sz) := by simp [Re.sz, Re.szs]
    rw [e]
    rcases hk with rfl | rfl
    · have h1 := brk_len x.is45 x.txt
      have h2 := brk_len y.is5 y.txt
      rw [txt_4, List.length_append]; omega
    · have h1 := brk_len x.is5 x.txt
      rw [txt_5, List.length_append, List.length_cons]; omega
  · intro x _ hx
    have e : (Re.mk 6 0 0 0 0 [x]).sz = 1 + x.sz := by simp [Re.sz, Re.szs]
    have h1 := brk_len x.is45 x.txt
    rw [e, txt_6, List.length_append]
    simp; omega
/-! ### How a text begins -/
def begE (c : UInt8) : Bool := begC c || decide (0 ≤ firstIdx cAtom c)
theorem begE_ok {s : ByteArray} {p : Nat} {c : UInt8} (hc : s.data[p]? = some c) (h : begE c = true) : (isB s p cAtom || begB s p) = true := by
  unfold begE at h
  rw [Bool.or_eq_true] at h ⊢
  rcases h with h | h
  · exact .inr (begC_beg hc h)
  · exact .inl (isB_of hc h)
theorem begE_not (c : UInt8) (h : begE c = true) : decide (0 ≤ firstIdx cRp c) = false ∧ decide (0 ≤ firstIdx cStar c) = false ∧ decide (0 ≤ firstIdx cBar c) = false := by
  revert h
  exact all_ofNat (p := fun c => begE c = true → decide (0 ≤ firstIdx cRp c) = false ∧ decide (0 ≤ firstIdx cStar c) = false ∧ decide (0 ≤ firstIdx cBar c) = false) (by decide +kernel) c
theorem setT_cons (ws : List Int) : ∃ c l, setT ws = c :: l ∧ begE c = true := by
  unfold setT
  split
  · exact ⟨46, [], rfl, by decide +kernel⟩
  split
  · rename_i b _
    obtain ⟨c, l, h1, h2⟩ := signB_cons (ub b)
    exact ⟨c, l, h1, by simp [begE, h2]⟩
  · exact ⟨91, _, rfl, by decide +kernel⟩
theorem brk_cons {b : Bool} {l : List UInt8} (h : ∃ c m, l = c :: m ∧ begE c = true) : ∃ c m, brk b l = c :: m ∧ begE c = true := by
  unfold brk
  split
  · exact ⟨40, _, rfl, by decide +kernel⟩
  · exact h
theorem app_cons {l n : List UInt8} (h : ∃ c m, l = c :: m ∧ begE c = true) : ∃ c m, l ++ n = c :: m ∧ begE c = true := by
  obtain ⟨c, m, rfl, h⟩ := h
  exact ⟨c, m ++ n, rfl, h⟩
theorem txt_cons (r : Re) : r.nodesOk = true → ∃ c l, r.txt = c :: l ∧ begE c = true := by
  refine Re.indOk (p := fun r => ∃ c l, r.txt = c :: l ∧ begE c = true) ?_ ?_ ?_ ?_ r
  · intro k hk
    rcases hk with rfl | rfl
    · rw [txt_1]; exact ⟨91, _, rfl, by decide +kernel⟩
    · rw [txt_2]; exact ⟨40, _, rfl, by decide +kernel⟩
  · intro a b c d _
    rw [txt_3]; exact setT_cons _
  · intro k x y hk _ _ hx hy
    rcases hk with rfl | rfl
    · rw [txt_4]; exact app_cons (brk_cons hx)
    · rw [txt_5]; exact app_cons (brk_cons hx)
  · intro x _ hx
    rw [txt_6]; exact app_cons (brk_cons hx)
theorem at_beg {s : ByteArray} {p : Nat} {l m : List UInt8} (hl : ∃ c m, l = c :: m ∧ begE c = true) (h : At s p (l ++ m)) : ∃ c, s.data[p]? = some c ∧ begE c = true := by
  obtain ⟨c, n, rfl, hc⟩ := hl
  exact ⟨c, h.1, hc⟩
/-! ### It is read -/
structure StopR (s : ByteArray) (q : Nat) : Prop where
  star : isB s q cStar = false
  beg : (isB s q cAtom || begB s q) = false
def rowSt (A : Nat → PR) (s : ByteArray) (l : List Re) (p : Nat) : PR :=
  match pPart A s p with
  | .bad e => .bad e
  | .ok x q => rowGo A s (l ++ [x]) q
def altSt (A : Nat → PR) (s : ByteArray) (l : List Re) (p : Nat) : PR :=
  match pRow A s p with
  | .bad e => .bad e
  | .ok x q => altGo A s (l ++ [x]) q
theorem pRow_st (A : Nat → PR) (s : ByteArray) (p : Nat) : pRow A s p = rowSt A s [] p := rfl
theorem pAlt_st (A : Nat → PR) (s : ByteArray) (p : Nat) : pAlt A s p = altSt A s [] p := rfl
theorem foldL_add (k n : Int) (l : List Re) (x : Re) : foldL k n (l ++ [x]) = foldR k l x := by simp [foldL]
theorem foldR_add (k : Int) (l : List Re) (x y : Re) : foldR k (l ++ [x]) y = foldR k l (.mk k 0 0 0 0 [x, y]) := by simp [foldR]
theorem rowGo_stop {A : Nat → PR} {s : ByteArray} {l : List Re} {x : Re} {q : Nat} (h : (isB s q cAtom || begB s q) = false) : rowGo A s (l ++ [x]) q = .ok (foldR 4 l x) q := by
  rw [rowGo, if_neg (by rw [h]; simp), foldL_add]
theorem rowGo_more {A : Nat → PR} {s : ByteArray} (hA : Fwd A s) {l : List Re} {p : Nat} (h : (isB s p cAtom || begB s p) = true) : rowGo A s l p = rowSt A s l p := by
  unfold rowSt
  rw [rowGo, if_pos h]
  cases e : pPart A s p with
  | bad e => rfl
  | ok r q => have := pPart_lt hA e; dsimp only; rw [dif_pos this]
theorem altGo_stop {A : Nat → PR} {s : ByteArray} {l : List Re} {x : Re} {q : Nat} (h : isB s q cBar = false) : altGo A s (l ++ [x]) q = .ok (foldR 5 l x) q := by
  rw [altGo, if_neg (by rw [h]; simp), foldL_add]
theorem altGo_more {A : Nat → PR} {s : ByteArray} (hA : Fwd A s) {l : List Re} {p : Nat} (h : isB s p cBar = true) : altGo A s l p = altSt A s l (p + 1) := by
  unfold altSt
  rw [altGo, if_pos h]
  cases e : pRow A s (p + 1) with
  | bad e => rfl
  | ok r q => have := pRow_lt hA e; dsimp only; rw [dif_pos (by omega)]
theorem starGo_more {s : ByteArray} {r : Re} {p : Nat} (h : isB s p cStar = true) : starGo s r p = starGo s (.mk 6 0 0 0 0 [r]) (p + 1) := by
  rw [starGo, dif_pos h]
/-- A closing bracket, or the end, stops everything. -/
structure StopA (s : ByteArray) (q : Nat) : Prop extends StopR s q where
  bar : isB s q cBar = false
theorem stop_end {s : ByteArray} {q : Nat} (h : ¬ q < s.size) : StopA s q := ⟨⟨isB_end h, by rw [isB_end h, begB_end h]; rfl⟩, isB_end h⟩
theorem stop_rp {s : ByteArray} {q : Nat} (h : s.data[q]? = some 41) : StopA s q :=
  ⟨⟨isB_of h (by decide +kernel), by unfold begB; rw [isB_of h (v := false) (by decide +kernel), isB_of h (v := false) (by decide +kernel), h]; decide +kernel⟩, isB_of h (by decide +kernel)⟩
theorem stop_bar {s : ByteArray} {q : Nat} (h : s.data[q]? = some 124) : StopR s q :=
  ⟨isB_of h (by decide +kernel), by unfold begB; rw [isB_of h (v := false) (by decide +kernel), isB_of h (v := false) (by decide +kernel), h]; decide +kernel⟩
structure Rdb (r : Re) : Prop where
  part : r.is45 = false → ∀ s p0 p, p0 ≤ p → At s p r.txt → ∃ core q, pAtom (altA s p0) s p = .ok core q ∧ starGo s core q = starGo s r (p + r.txt.length)
  row : r.is5 = false → ∀ s p0 p l, p0 ≤ p → At s p r.txt → StopR s (p + r.txt.length) → rowSt (altA s p0) s l p = .ok (foldR 4 l r) (p + r.txt.length)
  alt : ∀ s p0 p l, p0 ≤ p → At s p r.txt → StopA s (p + r.txt.length) → altSt (altA s p0) s l p = .ok (foldR 5 l r) (p + r.txt.length)
theorem Rdb.whole {r : Re} (h : Rdb r) {s : ByteArray} {p : Nat} (ha : At s p r.txt) (hs : StopA s (p + r.txt.length)) : altF s p = .ok r (p + r.txt.length) := by
  rw [altF_eq, pAlt_st]
  exact h.alt s p p [] (Nat.le_refl _) ha hs
/-- In brackets where it must. -/
theorem Rdb.atom {r : Re} (h : Rdb r) (hok : r.nodesOk = true) {b : Bool} (hb : b = true ∨ r.is45 = false) {s : ByteArray} {p0 p : Nat} (hp : p0 ≤ p) (ha : At s p (brk b r.txt)) :
    ∃ core q, pAtom (altA s p0) s p = .ok core q ∧ starGo s core q = starGo s r (p + (brk b r.txt).length) := by
  unfold brk at ha ⊢
  split at ha
  case isFalse hf =>
    rw [if_neg hf]
    exact h.part (hb.resolve_left hf) s p0 p hp ha
  rename_i ht
  rw [if_pos ht]
  have hle := At_le _ _ ha (by simp)
  have ha0 := ha
  obtain ⟨h1, h2⟩ := ha
  have h3 := (At_app _ _ _).1 h2
  obtain ⟨c, hc, hcb⟩ := at_beg (txt_cons r hok) h2
  have h4 := h3.2.1
  simp only [List.length_cons, List.length_append, List.length_nil] at hle
  refine ⟨r, p + r.txt.length + 2, ?_, ?_⟩
  · unfold pAtom
    rw [isB_of h1 (v := false) (by decide +kernel), isB_of h1 (v := false) (by decide +kernel), isB_of h1 (v := true) (by decide +kernel), if_neg (by simp), if_neg (by simp), if_pos rfl, isB_of hc (begE_not c hcb).1, if_neg (by simp)]
    have e : altA s p0 (p + 1) = .ok r (p + 1 + r.txt.length) := by
      unfold altA
      rw [if_pos (by omega)]
      exact h.whole h3.1 (stop_rp h4)
    rw [e]
    dsimp only
    rw [isB_of h4 (v := true) (by decide +kernel), if_pos rfl]
    congr 1; omega
  · congr 1
    simp; omega
theorem Rdb.pt {r : Re} (h : Rdb r) (hok : r.nodesOk = true) {b : Bool} (hb : b = true ∨ r.is45 = false) {s : ByteArray} {p0 p : Nat} (hp : p0 ≤ p) (ha : At s p (brk b r.txt)) (hs : isB s (p + (brk b r.txt).length) cStar = false) :
    pPart (altA s p0) s p = .ok r (p + (brk b r.txt).length) := by
  obtain ⟨core, q, h1, h2⟩ := h.atom hok hb hp ha
  unfold pPart
  rw [h1]
  dsimp only
  rw [h2, starGo_no hs]
/-- A part is a row, a row is an alternative. -/
theorem row_of_part {r : Re} {s : ByteArray} {p0 p : Nat} {l : List Re} {q : Nat} (h : pPart (altA s p0) s p = .ok r q) (hs : StopR s q) : rowSt (altA s p0) s l p = .ok (foldR 4 l r) q := by
  unfold rowSt
  rw [h]
  exact rowGo_stop hs.beg
theorem alt_of_row {r : Re} {s : ByteArray} {p0 p : Nat} {l : List Re} {q : Nat} (h : rowSt (altA s p0) s [] p = .ok r q) (hs : StopA s q) : altSt (altA s p0) s l p = .ok (foldR 5 l r) q := by
  unfold altSt
  rw [pRow_st, h]
  exact altGo_stop hs.bar
theorem rdb_part {r : Re} (h : ∀ s p0 p, p0 ≤ p → At s p r.txt → ∃ core q, pAtom (altA s p0) s p = .ok core q ∧ starGo s core q = starGo s r (p + r.txt.length)) : Rdb r := by
  have hrow : ∀ s p0 p l, p0 ≤ p → At s p r.txt → StopR s (p + r.txt.length) → rowSt (altA s p0) s l p = .ok (foldR 4 l r) (p + r.txt.length) := by
    intro s p0 p l hp ha hs
    refine row_of_part ?_ hs
    obtain ⟨core, q, h1, h2⟩ := h s p0 p hp ha
    unfold pPart
    rw [h1]
    dsimp only
    rw [h2, starGo_no hs.star]
  exact ⟨fun _ => h, fun _ => hrow, fun s p0 p l hp ha hs => alt_of_row (hrow s p0 p [] hp ha hs.toStopR) hs⟩
/-- A row's rest, from behind its first part. -/
theorem Rdb.rest {y : Re} (h : Rdb y) (hok : y.nodesOk = true) {s : ByteArray} {p0 p : Nat} {l : List Re} (hp : p0 ≤ p) (ha : At s p (brk y.is5 y.txt)) (hs : StopR s (p + (brk y.is5 y.txt).length)) :
    rowSt (altA s p0) s l p = .ok (foldR 4 l y) (p + (brk y.is5 y.txt).length) := by
  by_cases h5 : y.is5 = true
  · exact row_of_part (h.pt hok (.inl h5) hp ha hs.star) hs
  · have h5' : y.is5 = false := by simpa using h5
    rw [h5'] at ha hs ⊢
    exact h.row h5' s p0 p l hp ha hs
theorem rdb (r : Re) (hok : r.nodesOk = true) (hw : r.wd) : Rdb r := by
  revert hw
  refine Re.indOk (p := fun r => r.wd → Rdb r) ?_ ?_ ?_ ?_ r hok
  · intro k hk _
    refine rdb_part fun s p0 p hp ha => ?_
    rcases hk with rfl | rfl
    · rw [txt_1] at ha ⊢
      refine ⟨_, _, ?_, rfl⟩
      unfold pAtom
      rw [isB_of ha.1 (v := false) (by decide +kernel), isB_of ha.1 (v := true) (by decide +kernel), if_neg (by simp), if_pos rfl, clsGo, isB_of ha.2.1 (v := true) (by decide +kernel), if_pos rfl]
      rfl
    · rw [txt_2] at ha ⊢
      refine ⟨_, _, ?_, rfl⟩
      unfold pAtom
      rw [isB_of ha.1 (v := false) (by decide +kernel), isB_of ha.1 (v := false) (by decide +kernel), isB_of ha.1 (v := true) (by decide +kernel), if_neg (by simp), if_neg (by simp), if_pos rfl, isB_of ha.2.1 (v := true) (by decide +kernel), if_pos rfl]
      rfl
  · intro a b c d hn hw
    rw [Re.wd] at hw
    refine rdb_part fun s p0 p hp ha => ?_
    rw [txt_3] at ha ⊢
    refine ⟨_, _, set_at hw.1 ha, ?_⟩
    have : reS [a, b, c, d] = .mk 3 a b c d [] := by
      unfold reS
      rw [if_neg (by unfold noneS; simpa using hn)]
      rfl
    rw [this]
  · intro k x y hk hx hy ihx ihy hw
    rw [Re.wd, Re.wds, Re.wds] at hw
    have Hx := ihx hw.2.1
    have Hy := ihy hw.2.2.1
    rcases hk with rfl | rfl
    · have hrow : ∀ s p0 p l, p0 ≤ p → At s p (Re.mk 4 0 0 0 0 [x, y]).txt → StopR s (p + (Re.mk 4 0 0 0 0 [x, y]).txt.length) → rowSt (altA s p0) s l p = .ok (foldR 4 l (.mk 4 0 0 0 0 [x, y])) (p + (Re.mk 4 0 0 0 0 [x, y]).txt.length) := by
        intro s p0 p l hp ha hs
        rw [txt_4] at ha hs ⊢
        obtain ⟨h1, h2⟩ := (At_app _ _ _).1 ha
        rw [List.length_append, ← Nat.add_assoc] at hs ⊢
        obtain ⟨c, hc, hcb⟩ := at_beg (m := []) (brk_cons (b := y.is5) (txt_cons y hy)) (by rw [List.append_nil]; exact h2)
        unfold rowSt
        rw [Hx.pt hx (by cases x.is45 <;> simp) hp h1 (isB_of hc (begE_not c hcb).2.1)]
        dsimp only
        rw [rowGo_more (altA_fwd s p0) (begE_ok hc hcb), Hy.rest hy (by omega) h2 hs, foldR_add]
      refine ⟨fun h => ?_, fun _ => hrow, fun s p0 p l hp ha hs => alt_of_row (hrow s p0 p [] hp ha hs.toStopR) hs⟩
      simp [Re.is45, Re.kd] at h
    · refine ⟨fun h => ?_, fun h => ?_, fun s p0 p l hp ha hs => ?_⟩
      · simp [Re.is45, Re.kd] at h
      · simp [Re.is5, Re.kd] at h
      · rw [txt_5] at ha hs ⊢
        obtain ⟨h1, h2, h3⟩ := (At_app _ _ _).1 ha
        have e : p + (brk x.is5 x.txt ++ 124 :: y.txt).length = p + (brk x.is5 x.txt).length + 1 + y.txt.length := by
          rw [List.length_append, List.length_cons]; omega
        rw [e] at hs ⊢
        unfold altSt
        rw [pRow_st, Hx.rest hx hp h1 (stop_bar h2)]
        dsimp only
        rw [altGo_more (altA_fwd s p0) (isB_of h2 (by decide +kernel))]
        show altSt _ s (l ++ [foldR 4 [] x]) _ = _
        rw [Hy.alt s p0 _ _ (by omega) h3 hs, foldR_add]
        rfl
  · intro x hx ihx hw
    rw [Re.wd, Re.wds, Re.wds] at hw
    have Hx := ihx hw.2.1
    refine rdb_part fun s p0 p hp ha => ?_
    rw [txt_6] at ha ⊢
    obtain ⟨h1, h2, _⟩ := (At_app _ _ _).1 ha
    obtain ⟨core, q, e1, e2⟩ := Hx.atom hx (by cases x.is45 <;> simp) hp h1
    refine ⟨core, q, e1, ?_⟩
    rw [e2, starGo_more (isB_of h2 (by decide +kernel)), List.length_append, ← Nat.add_assoc]
    rfl
/-! ### The whole text -/
abbrev Re.text (r : Re) : ByteArray := ⟨r.txt.toArray⟩
theorem read_text {r : Re} (hm : mayB r = true) (hw : r.wd) (hl : r.txt.length ≤ 65536) : pRead r.text = (r, 0, 0) := by
  have hok : r.nodesOk = true := by unfold mayB at hm; rw [Bool.and_eq_true] at hm; exact hm.1
  have hz : r.text.size = r.txt.length := ba_size _
  refine pRead_of ?_ hm (by rw [hz]; exact hl)
  have := (rdb r hok hw).whole (At_all r.txt) (stop_end (by rw [Nat.zero_add, hz]; omega))
  rw [this, hz, Nat.zero_add]
end Go.Proofs.YtlejbkfefpfolaaDoor.AWP
set_option maxRecDepth 100000
/- The normal form fits what the expression fits. -/
namespace Go.Proofs.YtlejbkfefpfolaaDoor.AWP
open Go
section
variable {s : ByteArray}
theorem mt_emp {i j : Nat} : empR.mt s i j ↔ False := mt_1
theorem mt_eps {i j : Nat} : epsR.mt s i j ↔ i = j := mt_2
theorem byteAt_lt (s : ByteArray) (i : Nat) : byteAt s i < 256 := (s.data.getD i 0).toNat_lt
/-- One behind the other. -/
def Cmp (R S : Nat → Nat → Prop) (i j : Nat) : Prop := ∃ m, R i m ∧ S m j
theorem end_mt {a b : Re} (hb : b.nodesOk = true) (i j : Nat) : (if b.kd = 1 then empR else if b.kd = 2 then a else .mk 4 0 0 0 0 [a, b]).mt s i j ↔ Cmp (a.mt s) (b.mt s) i j := by
  unfold Cmp
  by_cases h1 : b.kd = 1
  · rw [if_pos h1, kd_one hb h1, mt_emp]
    exact ⟨False.elim, fun ⟨m, _, h⟩ => mt_emp.1 h⟩
  rw [if_neg h1]
  by_cases h2 : b.kd = 2
  · rw [if_pos h2, kd_two hb h2]
    constructor
    · exact fun h => ⟨j, h, mt_eps.2 rfl⟩
    · rintro ⟨m, h, e⟩
      rw [← mt_eps.1 e]; exact h
  · rw [if_neg h2, mt_4]
theorem sq_mt (a : Re) : a.nodesOk = true → ∀ b : Re, b.nodesOk = true → ∀ i j, (a.sq b).mt s i j ↔ Cmp (a.mt s) (b.mt s) i j := by
  refine Re.indOk (p := fun a => ∀ b : Re, b.nodesOk = true → ∀ i j, (a.sq b).mt s i j ↔ Cmp (a.mt s) (b.mt s) i j) ?_ ?_ ?_ ?_ a
  · intro k hk b hb i j
    rw [sq_leaf]
    unfold Cmp
    rcases hk with rfl | rfl
    · rw [if_pos (.inl rfl), mt_emp]
      exact ⟨False.elim, fun ⟨m, h, _⟩ => mt_1.1 h⟩
    · by_cases h1 : b.kd = 1
      · rw [if_pos (.inr h1), kd_one hb h1, mt_emp]
        exact ⟨False.elim, fun ⟨m, _, h⟩ => mt_emp.1 h⟩
      · rw [if_neg (by simp [h1]), if_pos rfl]
        constructor
        · exact fun h => ⟨i, mt_2.2 rfl, h⟩
        · rintro ⟨m, e, h⟩
          rw [mt_2.1 e]; exact h
  · intro a1 a2 a3 a4 hx b hb i j
    have := end_mt (s := s) (a := .mk 3 a1 a2 a3 a4 []) hb i j
    rw [sq_leaf]
    simpa using this
  · intro k x y hk hx hy ihx ihy b hb i j
    have he := end_mt (s := s) (a := .mk k 0 0 0 0 [x, y]) hb i j
    rw [sq_two _ _ _ _ hk]
    rcases hk with rfl | rfl
    · by_cases h1 : b.kd = 1
      · rw [if_pos h1] at he ⊢; exact he
      by_cases h2 : b.kd = 2
      · rw [if_neg h1, if_pos h2] at he ⊢; exact he
      rw [if_neg h1, if_neg h2, if_pos rfl, ihx (y.sq b) (sq_ok y hy b hb)]
      unfold Cmp
      constructor
      · rintro ⟨m, h3, h4⟩
        obtain ⟨n, h5, h6⟩ := (ihy b hb m j).1 h4
        exact ⟨n, mt_4.2 ⟨m, h3, h5⟩, h6⟩
      · rintro ⟨n, h3, h4⟩
        obtain ⟨m, h5, h6⟩ := mt_4.1 h3
        exact ⟨m, h5, (ihy b hb m j).2 ⟨n, h6, h4⟩⟩
    · rw [if_neg (show ¬ (5 : Int) = 4 by omega)]; exact he
  · intro x hx ih b hb i j
    rw [sq_star]
    exact end_mt hb i j
/-! ### Alts -/
def AnyMt (s : ByteArray) (l : List Re) (i j : Nat) : Prop := ∃ x ∈ l, x.mt s i j
theorem AnyMt.congr {l m : List Re} (h : ∀ x, x ∈ l ↔ x ∈ m) {i j : Nat} : AnyMt s l i j ↔ AnyMt s m i j := ⟨fun ⟨x, hx, hp⟩ => ⟨x, (h x).1 hx, hp⟩, fun ⟨x, hx, hp⟩ => ⟨x, (h x).2 hx, hp⟩⟩
theorem AnyMt.app {l m : List Re} {i j : Nat} : AnyMt s (l ++ m) i j ↔ AnyMt s l i j ∨ AnyMt s m i j := by
  constructor
  · rintro ⟨x, hx, h⟩
    rcases List.mem_append.1 hx with hx | hx
    · exact .inl ⟨x, hx, h⟩
    · exact .inr ⟨x, hx, h⟩
  · rintro (⟨x, hx, h⟩ | ⟨x, hx, h⟩)
    · exact ⟨x, List.mem_append_left _ hx, h⟩
    · exact ⟨x, List.mem_append_right _ hx, h⟩
theorem AnyMt.one {x : Re} {i j : Nat} : AnyMt s [x] i j ↔ x.mt s i j := ⟨fun ⟨y, hy, h⟩ => by rw [List.mem_singleton.1 hy] at h; exact h, fun h => ⟨x, by simp, h⟩⟩
theorem AnyMt.nil {i j : Nat} : AnyMt s [] i j ↔ False := ⟨fun ⟨y, hy, h⟩ => absurd hy List.not_mem_nil, False.elim⟩
theorem fl_mt (x : Re) : x.nodesOk = true → ∀ i j, AnyMt s x.fl i j ↔ x.mt s i j := by
  refine Re.indOk (p := fun x => ∀ i j, AnyMt s x.fl i j ↔ x.mt s i j) ?_ ?_ ?_ ?_ x
  · intro k hk i j
    rcases hk with rfl | rfl
    · rw [fl_one _ _ _ _ _ _ (by simp), if_pos rfl, AnyMt.nil, mt_1]
    · rw [fl_self (by simp [Re.kd]) (by simp [Re.kd]), AnyMt.one]
  · intro a b c d _ i j
    rw [fl_self (by simp [Re.kd]) (by simp [Re.kd]), AnyMt.one]
  · intro k p q hk hp hq ihp ihq i j
    rcases hk with rfl | rfl
    · rw [fl_self (by simp [Re.kd]) (by simp [Re.kd]), AnyMt.one]
    · rw [fl_two _ _ _ (.inr rfl), if_pos rfl, AnyMt.app, ihp, ihq, mt_5]
  · intro p _ _ i j
    rw [fl_self (by simp [Re.kd]) (by simp [Re.kd]), AnyMt.one]
theorem part_mt (l : List Re) {i j : Nat} : AnyMt s l i j ↔ AnyMt s (nocls l) i j ∨ AnyMt s (clsL l) i j := by
  constructor
  · rintro ⟨x, hx, h⟩
    by_cases h3 : x.kd = 3
    · exact .inr ⟨x, List.mem_filter.2 ⟨hx, by simp [h3]⟩, h⟩
    · exact .inl ⟨x, List.mem_filter.2 ⟨hx, by simp [h3]⟩, h⟩
  · rintro (⟨x, hx, h⟩ | ⟨x, hx, h⟩)
    · exact ⟨x, (List.mem_filter.1 hx).1, h⟩
    · exact ⟨x, (List.mem_filter.1 hx).1, h⟩
theorem cls_mt (l : List Re) (h : ∀ x ∈ l, okw x) {i j : Nat} : AnyMt s (clsL l) i j ↔ i < s.size ∧ j = i + 1 ∧ hasB (clsS l) (byteAt s i) = true := by
  rw [cls_any (byteAt_lt s i) l h, List.any_eq_true]
  constructor
  · rintro ⟨x, hx, hm⟩
    obtain ⟨h1, h2⟩ := List.mem_filter.1 hx
    obtain ⟨a, b, c, d, e, _⟩ := cls_shape (h x h1).1 (by simpa using h2)
    subst e
    obtain ⟨g1, g2, g3⟩ := mt_3.1 hm
    exact ⟨g1, g2, _, hx, by rw [Re.hf, fst_cls]; exact g3⟩
  · rintro ⟨g1, g2, x, hx, hf⟩
    obtain ⟨h1, h2⟩ := List.mem_filter.1 hx
    obtain ⟨a, b, c, d, e, _⟩ := cls_shape (h x h1).1 (by simpa using h2)
    subst e
    rw [Re.hf, fst_cls] at hf
    exact ⟨_, hx, mt_3.2 ⟨g1, g2, hf⟩⟩
theorem gather_mt (l : List Re) (h : ∀ x ∈ l, okw x) {i j : Nat} : AnyMt s (gather l) i j ↔ AnyMt s l i j := by
  rw [part_mt l]
  have hc := cls_mt (s := s) l h (i := i) (j := j)
  unfold gather
  split
  · rename_i hs
    have h0 := (cls_some l h).1 hs
    rw [h0, AnyMt.nil, or_false]
  · rename_i hs
    obtain ⟨a, b, c, d, ews, ere⟩ := reS_kd (clsS_len l) hs
    rw [ere, AnyMt.app, AnyMt.one, mt_3, hc, ews]
theorem foldL_mt : ∀ (l : List Re) (i j : Nat), (foldL 5 1 l).mt s i j ↔ AnyMt s l i j
  | [], i, j => by rw [AnyMt.nil]; exact mt_1
  | [x], i, j => by rw [foldL_one, AnyMt.one]
  | x :: y :: l, i, j => by
    rw [foldL_two, mt_5, foldL_mt (y :: l) i j, show x :: y :: l = [x] ++ (y :: l) from rfl, AnyMt.app, AnyMt.one]
theorem flat_mt (l : List Re) (h : ∀ x ∈ l, okw x) {i j : Nat} : AnyMt s (l.flatMap Re.fl) i j ↔ AnyMt s l i j := by
  induction l with
  | nil => exact Iff.rfl
  | cons x l ih =>
    rw [List.flatMap_cons, AnyMt.app, fl_mt x (h x (by simp)).1, ih fun y hy => h y (by simp [hy]), show x :: l = [x] ++ l from rfl, AnyMt.app, AnyMt.one]
theorem altR_mt (l : List Re) (h : ∀ x ∈ l, okw x) {i j : Nat} : (altR l).mt s i j ↔ AnyMt s l i j := by
  have hF : ∀ x ∈ l.flatMap Re.fl, okw x := by
    intro x hx
    obtain ⟨y, hy, hf⟩ := flatMap_fl hx
    exact ⟨fl_ok y (h y hy).1 x hf, fl_wd y (h y hy).2 x hf⟩
  have hmem : ∀ x, x ∈ onceR (sortR (gather (l.flatMap Re.fl))) ↔ x ∈ gather (l.flatMap Re.fl) := fun x => onceR_mem.trans (sortR_perm _).mem_iff
  unfold altR
  rw [foldL_mt, AnyMt.congr hmem, gather_mt _ hF, flat_mt l h]
theorem starFalse {R : Nat → Nat → Prop} (h : ∀ i j, R i j → i = j) {i j : Nat} : StarR R i j ↔ i = j := by
  constructor
  · intro hs
    induction hs with
    | refl => rfl
    | step _ h2 ih => exact ih.trans (h _ _ h2)
  · rintro rfl; exact .refl _
theorem starR_mt (x : Re) (hx : x.nodesOk = true) {i j : Nat} : (starR x).mt s i j ↔ StarR (x.mt s) i j := by
  unfold starR
  split
  · rename_i h
    rw [mt_eps]
    symm
    rcases h with h | h
    · rw [kd_one hx h]; exact starFalse fun i j h => (mt_emp.1 h).elim
    · rw [kd_two hx h]; exact starFalse fun i j h => mt_eps.1 h
  split
  · rename_i h6
    rcases Re.ok_cases hx with ⟨k, hk, rfl⟩ | ⟨a, b, c, d, hn, rfl⟩ | ⟨k, p, q, hk', rfl, _, _⟩ | ⟨p, rfl, _⟩
    · rcases hk with rfl | rfl <;> cases h6
    · cases h6
    · rcases hk' with rfl | rfl <;> cases h6
    · rw [mt_6]
      have hR : ∀ i j, (Re.mk 6 0 0 0 0 [p]).mt s i j ↔ StarR (p.mt s) i j := fun i j => mt_6
      constructor
      · intro h; exact .one ((hR i j).2 h)
      · intro h; exact (h.mono fun i j h => (hR i j).1 h).idem
  · rw [mt_6]
theorem nrm_mt (r : Re) : r.nodesOk = true → r.wd → ∀ i j, r.nrm.mt s i j ↔ r.mt s i j := by
  refine Re.indOk (p := fun r => r.wd → ∀ i j, r.nrm.mt s i j ↔ r.mt s i j) ?_ ?_ ?_ ?_ r
  · intro k _ _ i j; rw [nrm_leaf]
  · intro a b c d _ _ i j; rw [nrm_leaf]
  · intro k x y hk hx hy ihx ihy hw i j
    obtain ⟨w1, w2⟩ := wd2 hw
    have i1 := ihx w1
    have i2 := ihy w2
    have o1 : okw x.nrm := ⟨nrm_ok x hx, nrm_wd x hx w1⟩
    have o2 : okw y.nrm := ⟨nrm_ok y hy, nrm_wd y hy w2⟩
    rw [nrm_two k x y hk]
    rcases hk with rfl | rfl
    · rw [if_pos rfl, sq_mt x.nrm o1.1 y.nrm o2.1, mt_4]
      unfold Cmp
      exact ⟨fun ⟨m, h1, h2⟩ => ⟨m, (i1 _ _).1 h1, (i2 _ _).1 h2⟩, fun ⟨m, h1, h2⟩ => ⟨m, (i1 _ _).2 h1, (i2 _ _).2 h2⟩⟩
    · rw [if_neg (by omega), altR_mt [x.nrm, y.nrm] (by simp [o1, o2]), show [x.nrm, y.nrm] = [x.nrm] ++ [y.nrm] from rfl, AnyMt.app, AnyMt.one, AnyMt.one, i1, i2, mt_5]
  · intro x hx ih hw i j
    have i1 := ih (wd1 hw)
    rw [nrm_star, starR_mt x.nrm (nrm_ok x hx), mt_6]
    exact ⟨fun h => h.mono fun i j h => (i1 i j).1 h, fun h => h.mono fun i j h => (i1 i j).2 h⟩
/-! ### The derivative -/
def Re.drv (n : Nat) : Re → Re
  | .mk k _ _ _ _ [x, y] => if k = 5 then .mk 5 0 0 0 0 [x.drv n, y.drv n] else if x.nul then .mk 5 0 0 0 0 [.mk 4 0 0 0 0 [x.drv n, y], y.drv n] else .mk 4 0 0 0 0 [x.drv n, y]
  | .mk k a b c d [x] => .mk 4 0 0 0 0 [x.drv n, .mk k a b c d [x]]
  | .mk k a b c d _ => if k = 3 ∧ hasB [a, b, c, d] n = true then epsR else empR
end
end Go.Proofs.YtlejbkfefpfolaaDoor.AWP
