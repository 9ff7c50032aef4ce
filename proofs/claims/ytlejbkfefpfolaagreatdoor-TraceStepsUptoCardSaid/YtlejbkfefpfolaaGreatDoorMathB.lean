/- Steps: what is left behind a text. -/
import Derived.Test.YtlejbkfefpfolaaGreatDoorMath
set_option linter.unusedVariables false
set_option linter.unusedSimpArgs false
set_option linter.unusedSectionVars false
set_option maxRecDepth 100000
namespace Go.Proofs.YtlejbkfefpfolaaGreatDoor.AWP
open Go
def hasL (ws : List Int) (n : Nat) : List Nat := (List.range n).filter fun b => hasB ws b
theorem hasL_succ (ws : List Int) (n : Nat) : hasL ws (n + 1) = hasL ws n ++ if hasB ws n then [n] else [] := by
 unfold hasL
 rw [List.range_succ, List.filter_append, List.filter_cons]
 split <;> simp
theorem hasL_len (ws : List Int) (n : Nat) : (hasL ws n).length ≤ n := by
 have := List.length_filter_le (fun b => hasB ws b) (List.range n)
 simpa [hasL] using this
theorem hasL_mem {ws : List Int} {n b : Nat} : b ∈ hasL ws n ↔ b < n ∧ hasB ws b = true := by simp [hasL]
theorem hasL_sorted (ws : List Int) (n : Nat) : (hasL ws n).Pairwise (· < ·) := List.Pairwise.filter _ List.pairwise_lt_range
def runLen : Nat → List Nat → Nat
 | _, [] => 0
 | b, c :: l => if c = b + 1 then runLen c l + 1 else 0
theorem runLen_lt : ∀ (b : Nat) (l : List Nat) (n : Nat), b < n → (∀ x ∈ l, x < n) → b + runLen b l < n
 | b, [], n, hb, _ => hb
 | b, c :: l, n, hb, h => by
  rw [runLen]
  split
  ·have := runLen_lt c l n (h c (by simp)) fun x hx => h x (by simp [hx])
   omega
  ·exact hb
theorem runLen_next : ∀ (b : Nat) (l : List Nat), (b :: l).Pairwise (· < ·) → ∀ x ∈ l.drop (runLen b l), b + runLen b l + 1 < x
 | b, [], _, x, hx => by simp at hx
 | b, c :: l, hp, x, hx => by
  rw [runLen] at hx ⊢
  rw [List.pairwise_cons] at hp
  split at hx
  ·rename_i h
   rw [if_pos h]
   have := runLen_next c l hp.2 x (by simpa using hx)
   omega
  ·rename_i h
   rw [if_neg h]
   rw [List.drop_zero, List.mem_cons] at hx
   have h1 := hp.1 c (by simp)
   have h2 := List.pairwise_cons.1 hp.2
   rcases hx with rfl | hx
   ·omega
   ·have := h2.1 x hx; omega
def ub (n : Nat) : UInt8 := UInt8.ofNat n
theorem ub_nat {n : Nat} (h : n < 256) : (ub n).toNat = n := by unfold ub; rw [UInt8.toNat_ofNat']; omega
def rng (b n : Nat) : List UInt8 := signB (ub b) ++ ((if 1 < n then [45] else []) ++ (if 0 < n then signB (ub (b + n)) else []))
def runsL : List Nat → List UInt8
 | [] => []
 | b :: l => rng b (runLen b l) ++ runsL (l.drop (runLen b l))
termination_by l => l.length
decreasing_by simp; omega
def setT (ws : List Int) : List UInt8 :=
 if (hasL ws 256).length = 256 then [46] else
 match hasL ws 256 with
 | [b] => signB (ub b)
 | l => 91 :: (runsL l ++ [93])
theorem signB_len (b : UInt8) : 1 ≤ (signB b).length ∧ (signB b).length ≤ 3 := by unfold signB; split <;> simp [hexB]
theorem rng_len (b n : Nat) : (rng b n).length + 1 ≤ 2 * (n + 2) ∨ (rng b n).length ≤ 2 * (n + 2) := by
 have h1 := signB_len (ub b)
 have h2 := signB_len (ub (b + n))
 unfold rng
 refine .inr ?_
 rw [List.length_append, List.length_append]
 split <;> split <;> simp <;> omega
theorem rng_len7 (b n : Nat) : (rng b n).length ≤ 7 := by
 have h1 := signB_len (ub b)
 have h2 := signB_len (ub (b + n))
 unfold rng
 rw [List.length_append, List.length_append]
 split <;> split <;> simp <;> omega
theorem runs_len : ∀ (n : Nat) (l : List Nat) (b : Nat), l.length ≤ n → l.Pairwise (· < ·) → (∀ x ∈ l, b ≤ x ∧ x < 256) → b ≤ 257 → (runsL l).length ≤ 2 * (257 - b) := by
 intro n
 induction n with
 | zero =>
  intro l b hn hp hl hb
  have : l = [] := List.eq_nil_of_length_eq_zero (by omega)
  subst this
  rw [runsL]; simp
 | succ n ih =>
  intro l b hn hp hl hb
  cases l with
  | nil => rw [runsL]; simp
  | cons c l =>
   have hc := hl c (by simp)
   have h1 := runLen_lt c l 256 hc.2 fun x hx => (hl x (by simp [hx])).2
   have h2 := runLen_next c l hp
   have h3 := ih (l.drop (runLen c l)) (c + runLen c l + 2) (by simp at hn ⊢; omega) ((List.pairwise_cons.1 hp).2.sublist (List.drop_sublist _ _)) (fun x hx => ⟨by have := h2 x hx; omega, (hl x (by simp [List.mem_of_mem_drop hx])).2⟩) (by omega)
   have h4 := rng_len c (runLen c l)
   rw [runsL, List.length_append]
   omega
theorem setT_len (ws : List Int) : (setT ws).length ≤ 516 := by
 unfold setT
 split
 ·simp
 split
 ·rename_i b _; have := signB_len (ub b); omega
 ·have := runs_len _ (hasL ws 256) 0 (Nat.le_refl _) (hasL_sorted ws 256) (fun x hx => ⟨by omega, (hasL_mem.1 hx).1⟩) (by omega)
  simp; omega
def At (s : ByteArray) : Nat → List UInt8 → Prop
 | _, [] => True
 | p, c :: l => s.data[p]? = some c ∧ At s (p + 1) l
theorem At_app {s : ByteArray} : ∀ (l m : List UInt8) (p : Nat), At s p (l ++ m) ↔ At s p l ∧ At s (p + l.length) m
 | [], m, p => by simp [At]
 | c :: l, m, p => by
  rw [List.cons_append, At, At, At_app l m (p + 1), List.length_cons, show p + 1 + l.length = p + (l.length + 1) from by omega, and_assoc]
theorem At_le {s : ByteArray} : ∀ (l : List UInt8) (p : Nat), At s p l → l ≠ [] → p + l.length ≤ s.size
 | [], p, _, h => absurd rfl h
 | [c], p, h, _ => by
  have := (Array.getElem?_eq_some_iff.1 h.1).1
  have h2 : s.data.size = s.size := rfl
  simp; omega
 | c :: d :: l, p, h, _ => by
  have := At_le (d :: l) (p + 1) h.2 (by simp)
  simp at this ⊢; omega
theorem isB_of {s l : ByteArray} {p : Nat} {b : UInt8} (hb : s.data[p]? = some b) {v : Bool} (h : decide (0 ≤ firstIdx l b) = v) : isB s p l = v := by rw [isB_at hb, h]
def begC (c : UInt8) : Bool := plain c || c == 92
theorem signB_cons (b : UInt8) : ∃ c l, signB b = c :: l ∧ begC c = true := by
 unfold signB
 split
 ·rename_i h; exact ⟨b, [], rfl, by simp [begC, h]⟩
 ·exact ⟨92, hexB b, rfl, by decide⟩
theorem hasL_full {ws : List Int} (h : (hasL ws 256).length = 256) {k : Nat} (hk : k < 256) : hasB ws k = true := by
 have := List.length_filter_eq_length_iff.1 (show ((List.range 256).filter fun b => hasB ws b).length = (List.range 256).length by rw [List.length_range]; exact h)
 exact this k (List.mem_range.2 hk)
end Go.Proofs.YtlejbkfefpfolaaGreatDoor.AWP
set_option maxRecDepth 100000
namespace Go.Proofs.YtlejbkfefpfolaaGreatDoor.AWP
open Go
def brk (b : Bool) (l : List UInt8) : List UInt8 := if b then 40 :: (l ++ [41]) else l
def Re.is5 (x : Re) : Bool := decide (x.kd = 5)
def Re.is45 (x : Re) : Bool := decide (x.kd = 4) || decide (x.kd = 5)
def Re.txt : Re → List UInt8
 | .mk k _ _ _ _ [x, y] => if k = 4 then brk x.is45 x.txt ++ brk y.is5 y.txt else brk x.is5 x.txt ++ 124 :: y.txt
 | .mk _ _ _ _ _ [x] => brk x.is45 x.txt ++ [42]
 | .mk k a b c d _ => if k = 1 then [91, 93] else if k = 2 then [40, 41] else setT [a, b, c, d]
theorem txt_1 : (Re.mk 1 0 0 0 0 []).txt = [91, 93] := by simp [Re.txt]
theorem txt_2 : (Re.mk 2 0 0 0 0 []).txt = [40, 41] := by simp [Re.txt]
theorem txt_3 {a b c d : Int} : (Re.mk 3 a b c d []).txt = setT [a, b, c, d] := by simp [Re.txt]
theorem txt_4 {x y : Re} : (Re.mk 4 0 0 0 0 [x, y]).txt = brk x.is45 x.txt ++ brk y.is5 y.txt := by simp [Re.txt]
theorem txt_5 {x y : Re} : (Re.mk 5 0 0 0 0 [x, y]).txt = brk x.is5 x.txt ++ 124 :: y.txt := by simp [Re.txt]
theorem txt_6 {x : Re} : (Re.mk 6 0 0 0 0 [x]).txt = brk x.is45 x.txt ++ [42] := by simp [Re.txt]
theorem brk_len (b : Bool) (l : List UInt8) : l.length ≤ (brk b l).length ∧ (brk b l).length ≤ l.length + 2 := by unfold brk; split <;> simp <;> omega
theorem txt_len (r : Re) : r.nodesOk = true → r.txt.length + 4 ≤ 260 * (r.sz + 1) := by
 refine Re.indOk (p := fun r => r.txt.length + 4 ≤ 260 * (r.sz + 1)) ?_ ?_ ?_ ?_ r
 ·intro k hk
  rcases hk with rfl | rfl
  ·rw [txt_1]; simp [Re.sz, Re.szs]
  ·rw [txt_2]; simp [Re.sz, Re.szs]
 ·intro a b c d _
  have := setT_len [a, b, c, d]
  rw [txt_3, Re.sz, Re.szs]; omega
 ·intro k x y hk _ _ hx hy
  have e : (Re.mk k 0 0 0 0 [x, y]).sz = 1 + (x.sz + y.sz) := by simp [Re.sz, Re.szs]
  rw [e]
  rcases hk with rfl | rfl
  ·have h1 := brk_len x.is45 x.txt
   have h2 := brk_len y.is5 y.txt
   rw [txt_4, List.length_append]; omega
  ·have h1 := brk_len x.is5 x.txt
   rw [txt_5, List.length_append, List.length_cons]; omega
 ·intro x _ hx
  have e : (Re.mk 6 0 0 0 0 [x]).sz = 1 + x.sz := by simp [Re.sz, Re.szs]
  have h1 := brk_len x.is45 x.txt
  rw [e, txt_6, List.length_append]
  simp; omega
def begE (c : UInt8) : Bool := begC c || decide (0 ≤ firstIdx cAtom c)
theorem begE_not (c : UInt8) (h : begE c = true) : decide (0 ≤ firstIdx cRp c) = false ∧ decide (0 ≤ firstIdx cStar c) = false ∧ decide (0 ≤ firstIdx cBar c) = false := by
 revert h
 exact all_ofNat (p := fun c => begE c = true → decide (0 ≤ firstIdx cRp c) = false ∧ decide (0 ≤ firstIdx cStar c) = false ∧ decide (0 ≤ firstIdx cBar c) = false) (by decide +kernel) c
theorem setT_cons (ws : List Int) : ∃ c l, setT ws = c :: l ∧ begE c = true := by
 unfold setT
 split
 ·exact ⟨46, [], rfl, by decide +kernel⟩
 split
 ·rename_i b _
  obtain ⟨c, l, h1, h2⟩ := signB_cons (ub b)
  exact ⟨c, l, h1, by simp [begE, h2]⟩
 ·exact ⟨91, _, rfl, by decide +kernel⟩
theorem brk_cons {b : Bool} {l : List UInt8} (h : ∃ c m, l = c :: m ∧ begE c = true) : ∃ c m, brk b l = c :: m ∧ begE c = true := by
 unfold brk
 split
 ·exact ⟨40, _, rfl, by decide +kernel⟩
 ·exact h
theorem app_cons {l n : List UInt8} (h : ∃ c m, l = c :: m ∧ begE c = true) : ∃ c m, l ++ n = c :: m ∧ begE c = true := by
 obtain ⟨c, m, rfl, h⟩ := h
 exact ⟨c, m ++ n, rfl, h⟩
theorem txt_cons (r : Re) : r.nodesOk = true → ∃ c l, r.txt = c :: l ∧ begE c = true := by
 refine Re.indOk (p := fun r => ∃ c l, r.txt = c :: l ∧ begE c = true) ?_ ?_ ?_ ?_ r
 ·intro k hk
  rcases hk with rfl | rfl
  ·rw [txt_1]; exact ⟨91, _, rfl, by decide +kernel⟩
  ·rw [txt_2]; exact ⟨40, _, rfl, by decide +kernel⟩
 ·intro a b c d _
  rw [txt_3]; exact setT_cons _
 ·intro k x y hk _ _ hx hy
  rcases hk with rfl | rfl
  ·rw [txt_4]; exact app_cons (brk_cons hx)
  ·rw [txt_5]; exact app_cons (brk_cons hx)
 ·intro x _ hx
  rw [txt_6]; exact app_cons (brk_cons hx)
theorem at_beg {s : ByteArray} {p : Nat} {l m : List UInt8} (hl : ∃ c m, l = c :: m ∧ begE c = true) (h : At s p (l ++ m)) : ∃ c, s.data[p]? = some c ∧ begE c = true := by
 obtain ⟨c, n, rfl, hc⟩ := hl
 exact ⟨c, h.1, hc⟩
structure StopR (s : ByteArray) (q : Nat) : Prop where
 star : isB s q cStar = false
 beg : (isB s q cAtom || begB s q) = false
def rowSt (A : Nat → PR) (s : ByteArray) (l : List Re) (p : Nat) : PR :=
 match pPart A s p with
 | .bad e => .bad e
 | .ok x q => rowGo A s (l ++ [x]) q
def altSt (A : Nat → PR) (s : ByteArray) (l : List Re) (p : Nat) : PR :=
 match pRow A s p with
 | .bad e => .bad e
 | .ok x q => altGo A s (l ++ [x]) q
theorem pAlt_st (A : Nat → PR) (s : ByteArray) (p : Nat) : pAlt A s p = altSt A s [] p := rfl
theorem foldL_add (k n : Int) (l : List Re) (x : Re) : foldL k n (l ++ [x]) = foldR k l x := by simp [foldL]
theorem rowGo_stop {A : Nat → PR} {s : ByteArray} {l : List Re} {x : Re} {q : Nat} (h : (isB s q cAtom || begB s q) = false) : rowGo A s (l ++ [x]) q = .ok (foldR 4 l x) q := by
 rw [rowGo, if_neg (by rw [h]; simp), foldL_add]
structure StopA (s : ByteArray) (q : Nat) : Prop extends StopR s q where
 bar : isB s q cBar = false
theorem stop_rp {s : ByteArray} {q : Nat} (h : s.data[q]? = some 41) : StopA s q :=
 ⟨⟨isB_of h (by decide +kernel), by unfold begB; rw [isB_of h (v := false) (by decide +kernel), isB_of h (v := false) (by decide +kernel), h]; decide +kernel⟩, isB_of h (by decide +kernel)⟩
structure Rdb (r : Re) : Prop where
 part : r.is45 = false → ∀ s p0 p, p0 ≤ p → At s p r.txt → ∃ core q, pAtom (altA s p0) s p = .ok core q ∧ starGo s core q = starGo s r (p + r.txt.length)
 row : r.is5 = false → ∀ s p0 p l, p0 ≤ p → At s p r.txt → StopR s (p + r.txt.length) → rowSt (altA s p0) s l p = .ok (foldR 4 l r) (p + r.txt.length)
 alt : ∀ s p0 p l, p0 ≤ p → At s p r.txt → StopA s (p + r.txt.length) → altSt (altA s p0) s l p = .ok (foldR 5 l r) (p + r.txt.length)
theorem Rdb.whole {r : Re} (h : Rdb r) {s : ByteArray} {p : Nat} (ha : At s p r.txt) (hs : StopA s (p + r.txt.length)) : altF s p = .ok r (p + r.txt.length) := by
 rw [altF_eq, pAlt_st]
 exact h.alt s p p [] (Nat.le_refl _) ha hs
theorem Rdb.atom {r : Re} (h : Rdb r) (hok : r.nodesOk = true) {b : Bool} (hb : b = true ∨ r.is45 = false) {s : ByteArray} {p0 p : Nat} (hp : p0 ≤ p) (ha : At s p (brk b r.txt)) :
  ∃ core q, pAtom (altA s p0) s p = .ok core q ∧ starGo s core q = starGo s r (p + (brk b r.txt).length) := by
 unfold brk at ha ⊢
 split at ha
 case isFalse hf =>
  rw [if_neg hf]
  exact h.part (hb.resolve_left hf) s p0 p hp ha
 rename_i ht
 rw [if_pos ht]
 have hle := At_le _ _ ha (by simp)
 have ha0 := ha
 obtain ⟨h1, h2⟩ := ha
 have h3 := (At_app _ _ _).1 h2
 obtain ⟨c, hc, hcb⟩ := at_beg (txt_cons r hok) h2
 have h4 := h3.2.1
 simp only [List.length_cons, List.length_append, List.length_nil] at hle
 refine ⟨r, p + r.txt.length + 2, ?_, ?_⟩
 ·unfold pAtom
  rw [isB_of h1 (v := false) (by decide +kernel), isB_of h1 (v := false) (by decide +kernel), isB_of h1 (v := true) (by decide +kernel), if_neg (by simp), if_neg (by simp), if_pos rfl, isB_of hc (begE_not c hcb).1, if_neg (by simp)]
  have e : altA s p0 (p + 1) = .ok r (p + 1 + r.txt.length) := by
   unfold altA
   rw [if_pos (by omega)]
   exact h.whole h3.1 (stop_rp h4)
  rw [e]
  dsimp only
  rw [isB_of h4 (v := true) (by decide +kernel), if_pos rfl]
  congr 1; omega
 ·congr 1
  simp; omega
theorem Rdb.pt {r : Re} (h : Rdb r) (hok : r.nodesOk = true) {b : Bool} (hb : b = true ∨ r.is45 = false) {s : ByteArray} {p0 p : Nat} (hp : p0 ≤ p) (ha : At s p (brk b r.txt)) (hs : isB s (p + (brk b r.txt).length) cStar = false) :
  pPart (altA s p0) s p = .ok r (p + (brk b r.txt).length) := by
 obtain ⟨core, q, h1, h2⟩ := h.atom hok hb hp ha
 unfold pPart
 rw [h1]
 dsimp only
 rw [h2, starGo_no hs]
theorem row_of_part {r : Re} {s : ByteArray} {p0 p : Nat} {l : List Re} {q : Nat} (h : pPart (altA s p0) s p = .ok r q) (hs : StopR s q) : rowSt (altA s p0) s l p = .ok (foldR 4 l r) q := by
 unfold rowSt
 rw [h]
 exact rowGo_stop hs.beg
theorem Rdb.rest {y : Re} (h : Rdb y) (hok : y.nodesOk = true) {s : ByteArray} {p0 p : Nat} {l : List Re} (hp : p0 ≤ p) (ha : At s p (brk y.is5 y.txt)) (hs : StopR s (p + (brk y.is5 y.txt).length)) :
  rowSt (altA s p0) s l p = .ok (foldR 4 l y) (p + (brk y.is5 y.txt).length) := by
 by_cases h5 : y.is5 = true
 ·exact row_of_part (h.pt hok (.inl h5) hp ha hs.star) hs
 ·have h5' : y.is5 = false := by simpa using h5
  rw [h5'] at ha hs ⊢
  exact h.row h5' s p0 p l hp ha hs
abbrev Re.text (r : Re) : ByteArray := ⟨r.txt.toArray⟩
end Go.Proofs.YtlejbkfefpfolaaGreatDoor.AWP
set_option maxRecDepth 100000
namespace Go.Proofs.YtlejbkfefpfolaaGreatDoor.AWP
open Go
def Short (r : Re) (n : Nat) : Prop := r.txt.length + 4 ≤ 20 * n ∧ r.wd
def tls : List Re → Nat
 | [] => 0
 | r :: l => r.txt.length + 4 + tls l
theorem tls_app : ∀ (l m : List Re), tls (l ++ m) = tls l + tls m
 | [], m => by simp [tls]
 | r :: l, m => by rw [List.cons_append, tls, tls, tls_app l m]; omega
def ShortL (l : List Re) (n : Nat) : Prop := tls l ≤ 20 * n ∧ ∀ x ∈ l, x.wd
theorem Short.mono {r : Re} {n m : Nat} (h : Short r n) (hnm : n ≤ m) : Short r m := ⟨by have := h.1; omega, h.2⟩
theorem ShortL.add {l : List Re} {x : Re} {n m k : Nat} (h : ShortL l n) (hx : Short x m) (hk : n + m ≤ k) : ShortL (l ++ [x]) k := by
 have h1 := h.1
 have h2 := hx.1
 refine ⟨by rw [tls_app, tls, tls]; omega, fun y hy => ?_⟩
 rcases List.mem_append.1 hy with hy | hy
 ·exact h.2 y hy
 ·rw [List.mem_singleton.1 hy]; exact hx.2
theorem ShortL.one {x : Re} {n : Nat} (hx : Short x n) : ShortL [x] n := by
 have h2 := hx.1
 exact ⟨by rw [tls, tls]; omega, fun y hy => by rw [List.mem_singleton.1 hy]; exact hx.2⟩
def Tld (A : Nat → PR) (s : ByteArray) : Prop := ∀ {p r q}, A p = .ok r q → Short r (q - p) ∧ p < q ∧ q ≤ s.size
section
variable {A : Nat → PR} {s : ByteArray}
theorem Tld.fwd (h : Tld A s) : Fwd A s := fun h' => by have := (h h').2; omega
end
end Go.Proofs.YtlejbkfefpfolaaGreatDoor.AWP
set_option maxRecDepth 100000
namespace Go.Proofs.YtlejbkfefpfolaaGreatDoor.AWP
open Go
section
variable {s : ByteArray}
def AnyMt (s : ByteArray) (l : List Re) (i j : Nat) : Prop := ∃ x ∈ l, x.mt s i j
theorem AnyMt.congr {l m : List Re} (h : ∀ x, x ∈ l ↔ x ∈ m) {i j : Nat} : AnyMt s l i j ↔ AnyMt s m i j := ⟨fun ⟨x, hx, hp⟩ => ⟨x, (h x).1 hx, hp⟩, fun ⟨x, hx, hp⟩ => ⟨x, (h x).2 hx, hp⟩⟩
theorem AnyMt.one {x : Re} {i j : Nat} : AnyMt s [x] i j ↔ x.mt s i j := ⟨fun ⟨y, hy, h⟩ => by rw [List.mem_singleton.1 hy] at h; exact h, fun h => ⟨x, by simp, h⟩⟩
theorem AnyMt.nil {i j : Nat} : AnyMt s [] i j ↔ False := ⟨fun ⟨y, hy, h⟩ => absurd hy List.not_mem_nil, False.elim⟩
def Re.drv (n : Nat) : Re → Re
 | .mk k _ _ _ _ [x, y] => if k = 5 then .mk 5 0 0 0 0 [x.drv n, y.drv n] else if x.nul then .mk 5 0 0 0 0 [.mk 4 0 0 0 0 [x.drv n, y], y.drv n] else .mk 4 0 0 0 0 [x.drv n, y]
 | .mk k a b c d [x] => .mk 4 0 0 0 0 [x.drv n, .mk k a b c d [x]]
 | .mk k a b c d _ => if k = 3 ∧ hasB [a, b, c, d] n = true then epsR else empR
theorem drv_leaf {n : Nat} {k : Int} (hk : k = 1 ∨ k = 2) : (Re.mk k 0 0 0 0 []).drv n = empR := by rw [Re.drv, if_neg (by omega)] <;> simp
theorem drv_cls {n : Nat} {a b c d : Int} : (Re.mk 3 a b c d []).drv n = if hasB [a, b, c, d] n = true then epsR else empR := by rw [Re.drv] <;> simp
theorem drv_seq {n : Nat} {x y : Re} : (Re.mk 4 0 0 0 0 [x, y]).drv n = if x.nul then .mk 5 0 0 0 0 [.mk 4 0 0 0 0 [x.drv n, y], y.drv n] else .mk 4 0 0 0 0 [x.drv n, y] := by rw [Re.drv, if_neg (by omega)]
theorem drv_alt {n : Nat} {x y : Re} : (Re.mk 5 0 0 0 0 [x, y]).drv n = .mk 5 0 0 0 0 [x.drv n, y.drv n] := by rw [Re.drv, if_pos rfl]
theorem drv_star {n : Nat} {x : Re} : (Re.mk 6 0 0 0 0 [x]).drv n = .mk 4 0 0 0 0 [x.drv n, .mk 6 0 0 0 0 [x]] := by rw [Re.drv]
theorem wd_bare (k : Int) : (Re.mk k 0 0 0 0 []).wd := by rw [Re.wd, Re.wds]; exact ⟨W64.none, trivial⟩
theorem wd_2 {k : Int} {x y : Re} (hx : x.wd) (hy : y.wd) : (Re.mk k 0 0 0 0 [x, y]).wd := by rw [Re.wd, Re.wds, Re.wds, Re.wds]; exact ⟨W64.none, hx, hy, trivial⟩
theorem drv_wd (n : Nat) (r : Re) : r.nodesOk = true → r.wd → (r.drv n).wd := by
 refine Re.indOk (p := fun r => r.wd → (r.drv n).wd) ?_ ?_ ?_ ?_ r
 ·intro k hk _; rw [drv_leaf hk]; exact wd_bare 1
 ·intro a b c d _ _
  rw [drv_cls]; split
  ·exact wd_bare 2
  ·exact wd_bare 1
 ·intro k x y hk hx hy ihx ihy hw
  obtain ⟨w1, w2⟩ := wd2 hw
  rcases hk with rfl | rfl
  ·have h4 := wd_2 (k := 4) (ihx w1) w2
   rw [drv_seq]; split
   ·exact wd_2 h4 (ihy w2)
   ·exact h4
  ·rw [drv_alt]; exact wd_2 (ihx w1) (ihy w2)
 ·intro x hx ih hw
  rw [drv_star]; exact wd_2 (ih (wd1 hw)) hw
theorem drv_sz (n : Nat) (r : Re) : r.nodesOk = true → (r.drv n).sz ≤ 3 * (r.sz * r.sz) := by
 refine Re.indOk (p := fun r => (r.drv n).sz ≤ 3 * (r.sz * r.sz)) ?_ ?_ ?_ ?_ r
 ·intro k hk; rw [drv_leaf hk]; simp [Re.sz, Re.szs]
 ·intro a b c d _
  rw [drv_cls]; split <;> simp [Re.sz, Re.szs]
 ·intro k x y hk hx hy ihx ihy
  have e : ∀ (k : Int) (x y : Re), (Re.mk k 0 0 0 0 [x, y]).sz = 1 + (x.sz + y.sz) := by intro k x y; simp [Re.sz, Re.szs]
  have h1 := x.sz_pos
  have h2 := y.sz_pos
  have h3 : (1 + (x.sz + y.sz)) * (1 + (x.sz + y.sz)) = 1 + 2 * x.sz + 2 * y.sz + x.sz * x.sz + y.sz * y.sz + 2 * (x.sz * y.sz) := by
   simp only [Nat.add_mul, Nat.mul_add, Nat.one_mul, Nat.mul_one, Nat.mul_comm y.sz x.sz]; omega
  generalize x.sz * y.sz = p at h3
  rcases hk with rfl | rfl
  ·rw [drv_seq]
   split
   ·rw [e, e, e, h3]; omega
   ·rw [e, e, h3]; omega
  ·rw [drv_alt, e, e, h3]; omega
 ·intro x hx ih
  have e1 : ∀ (x y : Re), (Re.mk 4 0 0 0 0 [x, y]).sz = 1 + (x.sz + y.sz) := by intro x y; simp [Re.sz, Re.szs]
  have e2 : (Re.mk 6 0 0 0 0 [x]).sz = 1 + x.sz := by simp [Re.sz, Re.szs]
  have h3 : (1 + x.sz) * (1 + x.sz) = 1 + 2 * x.sz + x.sz * x.sz := by
   simp only [Nat.add_mul, Nat.mul_add, Nat.one_mul, Nat.mul_one]; omega
  rw [drv_star, e1, e2, h3]; omega
end
end Go.Proofs.YtlejbkfefpfolaaGreatDoor.AWP
set_option maxRecDepth 100000
namespace Go.Proofs.YtlejbkfefpfolaaGreatDoor.AWP
open Go
def zeroR : Re := .mk 0 0 0 0 0 []
def nzR (r : Re) : Re := if mayB r = true then r.nrm else zeroR
def pln (n : Nat) (r : Re) : Re × Nat := if mayB r = true then (if mayB (r.drv n) = true then (r.drv n, 0) else (zeroR, 4)) else (zeroR, 1)
def stp (n : Nat) (r : Re) : Re × Nat := if (pln n (nzR r)).2 = 0 then ((pln n (nzR r)).1.nrm, 0) else (zeroR, (pln n (nzR r)).2)
def stt (r : Re) (s : ByteArray) : Nat → Re
 | 0 => r.nrm
 | k + 1 => (stp (byteAt s k) (stt r s k)).1
def ste (r : Re) (s : ByteArray) (k : Nat) : Nat := (stp (byteAt s k) (stt r s k)).2
def errF (r : Re) (s : ByteArray) : Nat → Nat → Nat
 | 0, _ => 0
 | f + 1, i => if ste r s i = 0 then errF r s f (i + 1) else ste r s i
abbrev stts (r : Re) (s : ByteArray) (n : Nat) : List Re := (List.range n).map (stt r s)
def wlk (r : Re) (s : ByteArray) : List Re × Nat :=
 if mayB r = true then (if errF r s s.size 0 = 0 then (stts r s (s.size + 1), 0) else ([], errF r s s.size 0)) else ([], 1)
theorem may_ok {r : Re} (h : mayB r = true) : r.nodesOk = true ∧ r.sz ≤ 2000 := by unfold mayB at h; simpa using h
theorem may_of {r : Re} (h : r.nodesOk = true) (hz : r.sz ≤ 2000) : mayB r = true := by unfold mayB; simp [h, hz]
theorem nrm_may {r : Re} (h : mayB r = true) : mayB r.nrm = true := by
 obtain ⟨h1, h2⟩ := may_ok h
 exact may_of (nrm_ok r h1) (Nat.le_trans (nrm_sz r h1) h2)
theorem pln_ok {n : Nat} {r : Re} (h : (pln n r).2 = 0) : mayB r = true ∧ mayB (r.drv n) = true ∧ pln n r = (r.drv n, 0) := by
 unfold pln at h ⊢
 split at h
 ·rename_i h1
  split at h
  ·rename_i h2; exact ⟨h1, h2, by rw [if_pos h1, if_pos h2]⟩
  ·cases h
 ·cases h
def Gd (r : Re) : Prop := mayB r = true ∧ r.wd
theorem Gd.okw {r : Re} (h : Gd r) : okw r := ⟨(may_ok h.1).1, h.2⟩
theorem Gd.nrm {r : Re} (h : Gd r) : Gd r.nrm := ⟨nrm_may h.1, nrm_wd r (may_ok h.1).1 h.2⟩
theorem nz_eq {r : Re} (h : mayB r = true) : nzR r = r.nrm := by unfold nzR; rw [if_pos h]
theorem stp_ok {n : Nat} {r : Re} (hr : Gd r) (h : (stp n r).2 = 0) : stp n r = ((r.nrm.drv n).nrm, 0) ∧ mayB (r.nrm.drv n) = true ∧ Gd (r.nrm.drv n) := by
 have hz := nz_eq hr.1
 unfold stp at h ⊢
 rw [hz] at h ⊢
 by_cases hp : (pln n r.nrm).2 = 0
 ·obtain ⟨h1, h2, h3⟩ := pln_ok hp
  rw [if_pos hp, h3]
  exact ⟨rfl, h2, h2, drv_wd n _ hr.nrm.okw.1 hr.nrm.2⟩
 ·rw [if_neg hp] at h; exact absurd h hp
theorem stp_gd {n : Nat} {r : Re} (hr : Gd r) (h : (stp n r).2 = 0) : Gd (stp n r).1 := by
 obtain ⟨h1, _, h3⟩ := stp_ok hr h
 rw [h1]; exact h3.nrm
theorem stt_gd {r : Re} (hr : Gd r) (s : ByteArray) : ∀ k, (∀ j, j < k → ste r s j = 0) → Gd (stt r s k)
 | 0, _ => hr.nrm
 | k + 1, h => stp_gd (stt_gd hr s k fun j hj => h j (by omega)) (h k (by omega))
theorem errF_zero {r : Re} {s : ByteArray} : ∀ (f i : Nat), errF r s f i = 0 ↔ ∀ j, i ≤ j → j < i + f → ste r s j = 0
 | 0, i => by simp [errF]; omega
 | f + 1, i => by
  rw [errF]
  split
  ·rename_i h
   rw [errF_zero f (i + 1)]
   constructor
   ·intro h2 j h3 h4
    by_cases e : j = i
    ·rw [e]; exact h
    ·exact h2 j (by omega) (by omega)
   ·exact fun h2 j h3 h4 => h2 j (by omega) (by omega)
  ·rename_i h
   constructor
   ·exact fun h2 => absurd h2 h
   ·exact fun h2 => h2 i (Nat.le_refl _) (by omega)
theorem wlk_ok {r : Re} {s : ByteArray} (h : (wlk r s).2 = 0) : mayB r = true ∧ (∀ j, j < s.size → ste r s j = 0) ∧ wlk r s = (stts r s (s.size + 1), 0) := by
 unfold wlk at h ⊢
 split at h
 ·rename_i h1
  split at h
  ·rename_i h2
   exact ⟨h1, fun j hj => (errF_zero _ _).1 h2 j (by omega) (by omega), by rw [if_pos h1, if_pos h2]⟩
  ·rename_i h2; exact absurd h h2
 ·cases h
end Go.Proofs.YtlejbkfefpfolaaGreatDoor.AWP
namespace Go.Proofs.YtlejbkfefpfolaaGreatDoor.AWP
open Go
theorem errF_first {r : Re} {s : ByteArray} : ∀ (f i k : Nat), i ≤ k → k < i + f → (∀ j, i ≤ j → j < k → ste r s j = 0) → ste r s k ≠ 0 → errF r s f i = ste r s k
 | 0, i, k, h1, h2, _, _ => by omega
 | f + 1, i, k, h1, h2, h3, h4 => by
  rw [errF]
  by_cases hik : i = k
  ·subst hik; rw [if_neg h4]
  ·rw [if_pos (h3 i (Nat.le_refl _) (by omega))]
   exact errF_first f (i + 1) k (by omega) (by omega) (fun j a b => h3 j (by omega) b) h4
theorem wlk_err {r : Re} {s : ByteArray} (hm : mayB r = true) {k : Nat} (hk : k < s.size) (h : ∀ j, j < k → ste r s j = 0) (he : ste r s k ≠ 0) : wlk r s = ([], ste r s k) := by
 have h1 := errF_first s.size 0 k (Nat.zero_le _) (by omega) (fun j _ hj => h j hj) he
 unfold wlk
 rw [if_pos hm, h1, if_neg he]
theorem wlk_all {r : Re} {s : ByteArray} (hm : mayB r = true) (h : ∀ j, j < s.size → ste r s j = 0) : wlk r s = (stts r s (s.size + 1), 0) := by
 have h1 := (errF_zero (r := r) (s := s) s.size 0).2 fun j _ hj => h j (by omega)
 unfold wlk
 rw [if_pos hm, h1, if_pos rfl]
theorem stts_succ (r : Re) (s : ByteArray) (n : Nat) : stts r s (n + 1) = stts r s n ++ [stt r s n] := by unfold stts; rw [List.range_succ, List.map_append]; rfl
theorem stts_get {r : Re} {s : ByteArray} {n i : Nat} (h : i < n) : (stts r s n)[i]? = some (stt r s i) := by simp [stts, h]
theorem stts_len (r : Re) (s : ByteArray) (n : Nat) : (stts r s n).length = n := by simp [stts]
def wdN (a : Int) : Bool := decide (0 ≤ a) && decide (a < 18446744073709551616)
mutual
def wdQ : Re → Bool
 | .mk _ a b c d ks => wdN a && wdN b && wdN c && wdN d && wdQs ks
def wdQs : List Re → Bool
 | [] => true
 | r :: l => wdQ r && wdQs l
end
theorem wdQs_ok : ∀ {l : List Re}, wdQs l = true → ∀ x ∈ l, wdQ x = true
 | [], _, _, h => by cases h
 | r :: l, h, x, hx => by
  rw [wdQs, Bool.and_eq_true] at h
  rcases List.mem_cons.1 hx with rfl | hx
  ·exact h.1
  ·exact wdQs_ok h.2 x hx
theorem wdQ_ok (r : Re) (h : wdQ r = true) : r.wd := by
 revert h
 refine Re.ind (p := fun r => wdQ r = true → r.wd) ?_ r
 intro k a b c d ks ih h
 rw [wdQ] at h
 simp only [wdN, Bool.and_eq_true, decide_eq_true_eq] at h
 rw [Re.wd]
 refine ⟨⟨[a.toNat, b.toNat, c.toNat, d.toNat], ?_, rfl, ?_⟩, Re.wds_of fun x hx => ih x hx (wdQs_ok h.2 x hx)⟩
 ·simp only [List.map_cons, List.map_nil, List.cons.injEq, and_true]
  omega
 ·intro m hm
  simp only [List.mem_cons, List.not_mem_nil, or_false] at hm
  omega
end Go.Proofs.YtlejbkfefpfolaaGreatDoor.AWP
