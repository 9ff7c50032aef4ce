/- How many bits a word has. -/
import Derived.Test.YteifkcgokjmcjaaMatchMath
set_option linter.unusedVariables false
set_option linter.unusedSimpArgs false
set_option linter.unusedSectionVars false
set_option maxRecDepth 100000
/- How many bits a word has. -/
namespace Go.Proofs.Yteifkcgokjmcjaa.AWP
open Go

theorem andW (m n : Nat) (hm : m < 2 ^ 64) (hn : n < 2 ^ 64) : bits .and .u64 (m : Int) (n : Int) = ((m &&& n : Nat) : Int) := by
  have h : m &&& n < 2 ^ 64 := Nat.and_lt_two_pow _ hn
  show IntKind.wrap .u64 ((BitVec.ofInt 64 (m : Int) &&& BitVec.ofInt 64 (n : Int)).toNat : Int) = _
  have e1 : (BitVec.ofInt 64 (m : Int)).toNat = m := by simp [BitVec.toNat_ofInt]; omega
  have e2 : (BitVec.ofInt 64 (n : Int)).toNat = n := by simp [BitVec.toNat_ofInt]; omega
  rw [BitVec.toNat_and, e1, e2, u64_wrap _ h]
theorem land256 (a b m n : Nat) (ha : a < 256) (hm : m < 256) : (a + 256 * b) &&& (m + 256 * n) = (a &&& m) + 256 * (b &&& n) := by
  have h1 : a &&& m < 256 := Nat.and_lt_two_pow (n := 8) _ hm
  refine Nat.eq_of_testBit_eq fun i => ?_
  rw [Nat.testBit_and, Nat.add_comm a, Nat.add_comm m, Nat.add_comm (a &&& m), show 256 = 2 ^ 8 from rfl, Nat.testBit_two_pow_mul_add _ ha, Nat.testBit_two_pow_mul_add _ hm, Nat.testBit_two_pow_mul_add _ h1]
  split
  · rw [Nat.testBit_and]
  · rw [Nat.testBit_and]
/-- Eight bytes. -/
def by8 (a b c d e f g h : Nat) : Nat := a + 256 * (b + 256 * (c + 256 * (d + 256 * (e + 256 * (f + 256 * (g + 256 * h))))))
theorem land8 {a b c d e f g h k : Nat} (ha : a < 256) (hb : b < 256) (hc : c < 256) (hd : d < 256) (he : e < 256) (hf : f < 256) (hg : g < 256) (hh : h < 256) (hk : k < 256) :
    by8 a b c d e f g h &&& by8 k k k k k k k k = by8 (a &&& k) (b &&& k) (c &&& k) (d &&& k) (e &&& k) (f &&& k) (g &&& k) (h &&& k) := by
  unfold by8
  rw [land256 _ _ _ _ ha hk, land256 _ _ _ _ hb hk, land256 _ _ _ _ hc hk, land256 _ _ _ _ hd hk, land256 _ _ _ _ he hk, land256 _ _ _ _ hf hk, land256 _ _ _ _ hg hk]
theorem bytes8 (m : Nat) (hm : m < 2 ^ 64) : ∃ a b c d e f g h, a < 256 ∧ b < 256 ∧ c < 256 ∧ d < 256 ∧ e < 256 ∧ f < 256 ∧ g < 256 ∧ h < 256 ∧ m = by8 a b c d e f g h := by
  refine ⟨m % 256, m / 256 % 256, m / 65536 % 256, m / 16777216 % 256, m / 4294967296 % 256, m / 1099511627776 % 256, m / 281474976710656 % 256, m / 72057594037927936, by omega, by omega, by omega, by omega, by omega, by omega, by omega, by omega, ?_⟩
  unfold by8
  omega
def s1 (b : Nat) : Nat := (b / 2 &&& 85) + (b &&& 85)
def s2 (b : Nat) : Nat := (b / 4 &&& 51) + (b &&& 51)
def s3 (b : Nat) : Nat := b / 16 + b % 16
def pop1 (b : Nat) : Nat := s3 (s2 (s1 b))
theorem all256 {p : Nat → Prop} (h : ∀ n : _root_.Fin 256, p n.val) {b : Nat} (hb : b < 256) : p b := h ⟨b, hb⟩
theorem s1_lt {b : Nat} (hb : b < 256) : s1 b < 256 := all256 (p := fun b => s1 b < 256) (by decide +kernel) hb
theorem s2_ok {b : Nat} (hb : b < 256) : s2 (s1 b) < 256 ∧ s2 (s1 b) / 16 ≤ 4 ∧ s2 (s1 b) % 16 ≤ 4 := all256 (p := fun b => s2 (s1 b) < 256 ∧ s2 (s1 b) / 16 ≤ 4 ∧ s2 (s1 b) % 16 ≤ 4) (by decide +kernel) hb
theorem pop1_ok {b : Nat} (hb : b < 256) : pop1 b ≤ 8 ∧ (pop1 b = 0 ↔ b = 0) := all256 (p := fun b => pop1 b ≤ 8 ∧ (pop1 b = 0 ↔ b = 0)) (by decide +kernel) hb
theorem top1 {b t : Nat} (hb : b < 256) (ht : t < 2) : (b / 2 + 128 * t) &&& 85 = b / 2 &&& 85 := by
  have : t = 0 ∨ t = 1 := by omega
  rcases this with rfl | rfl
  · rfl
  · exact all256 (p := fun b => (b / 2 + 128 * 1) &&& 85 = b / 2 &&& 85) (by decide +kernel) hb
theorem top2 {b t : Nat} (hb : b < 256) (ht : t < 4) : (b / 4 + 64 * t) &&& 51 = b / 4 &&& 51 := by
  have : t = 0 ∨ t = 1 ∨ t = 2 ∨ t = 3 := by omega
  rcases this with rfl | rfl | rfl | rfl
  · rfl
  · exact all256 (p := fun b => (b / 4 + 64 * 1) &&& 51 = b / 4 &&& 51) (by decide +kernel) hb
  · exact all256 (p := fun b => (b / 4 + 64 * 2) &&& 51 = b / 4 &&& 51) (by decide +kernel) hb
  · exact all256 (p := fun b => (b / 4 + 64 * 3) &&& 51 = b / 4 &&& 51) (by decide +kernel) hb
theorem low4 {v : Nat} (hv : v < 256) : v &&& 15 = v % 16 := all256 (p := fun v => v &&& 15 = v % 16) (by decide +kernel) hv
theorem c85 : (6148914691236517205 : Nat) = by8 85 85 85 85 85 85 85 85 := by decide
theorem c51 : (3689348814741910323 : Nat) = by8 51 51 51 51 51 51 51 51 := by decide
theorem c15 : (1085102592571150095 : Nat) = by8 15 15 15 15 15 15 15 15 := by decide
theorem st1 {a b c d e f g h : Nat} (ha : a < 256) (hb : b < 256) (hc : c < 256) (hd : d < 256) (he : e < 256) (hf : f < 256) (hg : g < 256) (hh : h < 256) :
    (by8 a b c d e f g h / 2 &&& 6148914691236517205) + (by8 a b c d e f g h &&& 6148914691236517205) = by8 (s1 a) (s1 b) (s1 c) (s1 d) (s1 e) (s1 f) (s1 g) (s1 h) := by
  have e1 : by8 a b c d e f g h / 2 = by8 (a / 2 + 128 * (b % 2)) (b / 2 + 128 * (c % 2)) (c / 2 + 128 * (d % 2)) (d / 2 + 128 * (e % 2)) (e / 2 + 128 * (f % 2)) (f / 2 + 128 * (g % 2)) (g / 2 + 128 * (h % 2)) (h / 2 + 128 * 0) := by
    unfold by8; omega
  rw [e1, c85, land8 (by omega) (by omega) (by omega) (by omega) (by omega) (by omega) (by omega) (by omega) (by omega), land8 ha hb hc hd he hf hg hh (by omega)]
  rw [top1 ha (by omega), top1 hb (by omega), top1 hc (by omega), top1 hd (by omega), top1 he (by omega), top1 hf (by omega), top1 hg (by omega), top1 hh (by omega)]
  unfold by8 s1
  omega
theorem st2 {a b c d e f g h : Nat} (ha : a < 256) (hb : b < 256) (hc : c < 256) (hd : d < 256) (he : e < 256) (hf : f < 256) (hg : g < 256) (hh : h < 256) :
    (by8 a b c d e f g h / 4 &&& 3689348814741910323) + (by8 a b c d e f g h &&& 3689348814741910323) = by8 (s2 a) (s2 b) (s2 c) (s2 d) (s2 e) (s2 f) (s2 g) (s2 h) := by
  have e1 : by8 a b c d e f g h / 4 = by8 (a / 4 + 64 * (b % 4)) (b / 4 + 64 * (c % 4)) (c / 4 + 64 * (d % 4)) (d / 4 + 64 * (e % 4)) (e / 4 + 64 * (f % 4)) (f / 4 + 64 * (g % 4)) (g / 4 + 64 * (h % 4)) (h / 4 + 64 * 0) := by
    unfold by8; omega
  rw [e1, c51, land8 (by omega) (by omega) (by omega) (by omega) (by omega) (by omega) (by omega) (by omega) (by omega), land8 ha hb hc hd he hf hg hh (by omega)]
  rw [top2 ha (by omega), top2 hb (by omega), top2 hc (by omega), top2 hd (by omega), top2 he (by omega), top2 hf (by omega), top2 hg (by omega), top2 hh (by omega)]
  unfold by8 s2
  omega
theorem st3 {a b c d e f g h : Nat} (ha : a < 256 ∧ a / 16 ≤ 4 ∧ a % 16 ≤ 4) (hb : b < 256 ∧ b / 16 ≤ 4 ∧ b % 16 ≤ 4) (hc : c < 256 ∧ c / 16 ≤ 4 ∧ c % 16 ≤ 4) (hd : d < 256 ∧ d / 16 ≤ 4 ∧ d % 16 ≤ 4) (he : e < 256 ∧ e / 16 ≤ 4 ∧ e % 16 ≤ 4) (hf : f < 256 ∧ f / 16 ≤ 4 ∧ f % 16 ≤ 4) (hg : g < 256 ∧ g / 16 ≤ 4 ∧ g % 16 ≤ 4) (hh : h < 256 ∧ h / 16 ≤ 4 ∧ h % 16 ≤ 4) :
    (by8 a b c d e f g h / 16 + by8 a b c d e f g h) &&& 1085102592571150095 = by8 (s3 a) (s3 b) (s3 c) (s3 d) (s3 e) (s3 f) (s3 g) (s3 h) := by
  have e1 : by8 a b c d e f g h / 16 + by8 a b c d e f g h = by8 (a / 16 + 16 * (b % 16) + a) (b / 16 + 16 * (c % 16) + b) (c / 16 + 16 * (d % 16) + c) (d / 16 + 16 * (e % 16) + d) (e / 16 + 16 * (f % 16) + e) (f / 16 + 16 * (g % 16) + f) (g / 16 + 16 * (h % 16) + g) (h / 16 + h) := by
    unfold by8; omega
  have l : ∀ {v w : Nat}, (v < 256 ∧ v / 16 ≤ 4 ∧ v % 16 ≤ 4) → w ≤ 4 → (v / 16 + 16 * w + v) < 256 ∧ (v / 16 + 16 * w + v) &&& 15 = s3 v := by
    intro v w hv hw
    have h1 : v / 16 + 16 * w + v < 256 := by omega
    refine ⟨h1, ?_⟩
    rw [low4 h1]
    unfold s3
    omega
  have l0 : (h / 16 + h) < 256 ∧ (h / 16 + h) &&& 15 = s3 h := by have := l (w := 0) hh (by omega); simpa using this
  rw [e1, c15, land8 (l ha hb.2.2).1 (l hb hc.2.2).1 (l hc hd.2.2).1 (l hd he.2.2).1 (l he hf.2.2).1 (l hf hg.2.2).1 (l hg hh.2.2).1 l0.1 (by omega),
    (l ha hb.2.2).2, (l hb hc.2.2).2, (l hc hd.2.2).2, (l hd he.2.2).2, (l he hf.2.2).2, (l hf hg.2.2).2, (l hg hh.2.2).2, l0.2]
theorem st4 {a b c d e f g h x : Nat} (hx : x = by8 a b c d e f g h) (ha : a ≤ 8) (hb : b ≤ 8) (hc : c ≤ 8) (hd : d ≤ 8) (he : e ≤ 8) (hf : f ≤ 8) (hg : g ≤ 8) (hh : h ≤ 8) :
    x + x / 256 < 2 ^ 64 ∧ (x + x / 256) + (x + x / 256) / 65536 < 2 ^ 64 ∧ ((x + x / 256) + (x + x / 256) / 65536) + ((x + x / 256) + (x + x / 256) / 65536) / 4294967296 < 2 ^ 63 ∧
    (((x + x / 256) + (x + x / 256) / 65536) + ((x + x / 256) + (x + x / 256) / 65536) / 4294967296) % 128 = a + b + c + d + e + f + g + h := by
  have e1 : x + x / 256 = by8 (a + b) (b + c) (c + d) (d + e) (e + f) (f + g) (g + h) h := by rw [hx]; unfold by8; omega
  rw [e1]
  have e2 : by8 (a + b) (b + c) (c + d) (d + e) (e + f) (f + g) (g + h) h + by8 (a + b) (b + c) (c + d) (d + e) (e + f) (f + g) (g + h) h / 65536 = by8 (a + b + c + d) (b + c + d + e) (c + d + e + f) (d + e + f + g) (e + f + g + h) (f + g + h) (g + h) h := by unfold by8; omega
  rw [e2]
  have e3 : by8 (a + b + c + d) (b + c + d + e) (c + d + e + f) (d + e + f + g) (e + f + g + h) (f + g + h) (g + h) h + by8 (a + b + c + d) (b + c + d + e) (c + d + e + f) (d + e + f + g) (e + f + g + h) (f + g + h) (g + h) h / 4294967296 = by8 (a + b + c + d + e + f + g + h) (b + c + d + e + f + g + h) (c + d + e + f + g + h) (d + e + f + g + h) (e + f + g + h) (f + g + h) (g + h) h := by unfold by8; omega
  rw [e3]
  unfold by8
  omega
/-- How many bits: what the program comes to. -/
def popA (m : Nat) : Nat := (m / 2 &&& 6148914691236517205) + (m &&& 6148914691236517205)
def popB (m : Nat) : Nat := (m / 4 &&& 3689348814741910323) + (m &&& 3689348814741910323)
def popC (m : Nat) : Nat := (m / 16 + m) &&& 1085102592571150095
theorem by8_half {a b c d e f g h : Nat} (ha : a < 256) (hb : b < 256) (hc : c < 256) (hd : d < 256) (he : e < 256) (hf : f < 256) (hg : g < 256) (hh : h < 256 ∧ h / 16 ≤ 4 ∧ h % 16 ≤ 4) : by8 a b c d e f g h / 16 + by8 a b c d e f g h < 2 ^ 64 := by
  have h8 : h ≤ 68 := by omega
  clear hh
  have hx : by8 a b c d e f g h < 2 ^ 63 := by unfold by8; omega
  omega
set_option maxHeartbeats 1000000 in
theorem pop_ok (m : Nat) (hm : m < 2 ^ 64) : popA m < 2 ^ 64 ∧ popB (popA m) < 2 ^ 64 ∧ popB (popA m) / 16 + popB (popA m) < 2 ^ 64 ∧ popC (popB (popA m)) < 2 ^ 64 ∧
    ∃ n, (∀ x, x = popC (popB (popA m)) → x + x / 256 < 2 ^ 64 ∧ (x + x / 256) + (x + x / 256) / 65536 < 2 ^ 64 ∧ ((x + x / 256) + (x + x / 256) / 65536) + ((x + x / 256) + (x + x / 256) / 65536) / 4294967296 < 2 ^ 63 ∧
      (((x + x / 256) + (x + x / 256) / 65536) + ((x + x / 256) + (x + x / 256) / 65536) / 4294967296) % 128 = n) ∧ n ≤ 64 ∧ (n = 0 ↔ m = 0) := by
  obtain ⟨a, b, c, d, e, f, g, h, ha, hb, hc, hd, he, hf, hg, hh, rfl⟩ := bytes8 m hm
  have lt8 : ∀ {a b c d e f g h : Nat}, a < 256 → b < 256 → c < 256 → d < 256 → e < 256 → f < 256 → g < 256 → h < 256 → by8 a b c d e f g h < 2 ^ 64 := by
    intro a b c d e f g h h1 h2 h3 h4 h5 h6 h7 h8
    unfold by8; omega
  have e1 : popA (by8 a b c d e f g h) = by8 (s1 a) (s1 b) (s1 c) (s1 d) (s1 e) (s1 f) (s1 g) (s1 h) := st1 ha hb hc hd he hf hg hh
  have e2 : popB (popA (by8 a b c d e f g h)) = by8 (s2 (s1 a)) (s2 (s1 b)) (s2 (s1 c)) (s2 (s1 d)) (s2 (s1 e)) (s2 (s1 f)) (s2 (s1 g)) (s2 (s1 h)) := by
    rw [e1]; exact st2 (s1_lt ha) (s1_lt hb) (s1_lt hc) (s1_lt hd) (s1_lt he) (s1_lt hf) (s1_lt hg) (s1_lt hh)
  have e3 : popC (popB (popA (by8 a b c d e f g h))) = by8 (pop1 a) (pop1 b) (pop1 c) (pop1 d) (pop1 e) (pop1 f) (pop1 g) (pop1 h) := by
    rw [e2]; exact st3 (s2_ok ha) (s2_ok hb) (s2_ok hc) (s2_ok hd) (s2_ok he) (s2_ok hf) (s2_ok hg) (s2_ok hh)
  have qa := pop1_ok ha
  have qb := pop1_ok hb
  have qc := pop1_ok hc
  have qd := pop1_ok hd
  have qe := pop1_ok he
  have qf := pop1_ok hf
  have qg := pop1_ok hg
  have qh := pop1_ok hh
  have ra := s2_ok ha
  have rb := s2_ok hb
  have rc := s2_ok hc
  have rd := s2_ok hd
  have re := s2_ok he
  have rf := s2_ok hf
  have rg := s2_ok hg
  have rh := s2_ok hh
  refine ⟨?_, ?_, ?_, ?_, pop1 a + pop1 b + pop1 c + pop1 d + pop1 e + pop1 f + pop1 g + pop1 h, fun x hx => st4 (hx.trans e3) qa.1 qb.1 qc.1 qd.1 qe.1 qf.1 qg.1 qh.1, by omega, ?_⟩
  · rw [e1]; exact lt8 (s1_lt ha) (s1_lt hb) (s1_lt hc) (s1_lt hd) (s1_lt he) (s1_lt hf) (s1_lt hg) (s1_lt hh)
  · rw [e2]; exact lt8 ra.1 rb.1 rc.1 rd.1 re.1 rf.1 rg.1 rh.1
  · rw [e2]; exact by8_half ra.1 rb.1 rc.1 rd.1 re.1 rf.1 rg.1 rh
  · rw [e3]; exact lt8 (by omega) (by omega) (by omega) (by omega) (by omega) (by omega) (by omega) (by omega)
  · have : (by8 a b c d e f g h = 0) ↔ (a = 0 ∧ b = 0 ∧ c = 0 ∧ d = 0 ∧ e = 0 ∧ f = 0 ∧ g = 0 ∧ h = 0) := by unfold by8; omega
    rw [this, ← qa.2, ← qb.2, ← qc.2, ← qd.2, ← qe.2, ← qf.2, ← qg.2, ← qh.2]
    omega
theorem and127 (y : Nat) (hy : y < 2 ^ 63) : bits .and .i64 (IntKind.i64.wrap (y : Int)) 127 = ((y % 128 : Nat) : Int) := by
  have hw : IntKind.i64.wrap (y : Int) = (y : Int) := wrap_int _ (by omega) (by omega)
  rw [hw]
  show IntKind.wrap .i64 ((BitVec.ofInt 64 (y : Int) &&& BitVec.ofInt 64 127).toNat : Int) = _
  have e1 : (BitVec.ofInt 64 (y : Int)).toNat = y := by simp [BitVec.toNat_ofInt]; omega
  have e2 : (BitVec.ofInt 64 127).toNat = 2 ^ 7 - 1 := by decide
  rw [BitVec.toNat_and, e1, e2, Nat.and_two_pow_sub_one_eq_mod]
  exact wrap_int _ (by omega) (by omega)
theorem shr_lit (m : Nat) (k : Nat) (hk : k ≤ 64) : ((m : Nat) : Int).fdiv (2 ^ min k 64) = ((m / 2 ^ k : Nat) : Int) := by
  rw [Nat.min_eq_left hk, shrN]
theorem popA_w (m : Nat) (hm : m < 2 ^ 64) (h : popA m < 2 ^ 64) : IntKind.u64.wrap (bits .and .u64 ((m : Int).fdiv (2 ^ min 1 64)) 6148914691236517205 + bits .and .u64 (m : Int) 6148914691236517205) = (popA m : Int) := by
  rw [shr_lit m 1 (by omega), show (6148914691236517205 : Int) = ((6148914691236517205 : Nat) : Int) from rfl, andW _ _ (by omega) (by decide), andW _ _ hm (by decide)]
  rw [← Int.natCast_add]
  exact u64_wrap _ h
theorem popB_w (m : Nat) (hm : m < 2 ^ 64) (h : popB m < 2 ^ 64) : IntKind.u64.wrap (bits .and .u64 ((m : Int).fdiv (2 ^ min 2 64)) 3689348814741910323 + bits .and .u64 (m : Int) 3689348814741910323) = (popB m : Int) := by
  rw [shr_lit m 2 (by omega), show (3689348814741910323 : Int) = ((3689348814741910323 : Nat) : Int) from rfl, andW _ _ (by omega) (by decide), andW _ _ hm (by decide)]
  rw [← Int.natCast_add]
  exact u64_wrap _ h
theorem popC_w (m : Nat) (hm : m < 2 ^ 64) (h : m / 16 + m < 2 ^ 64) : bits .and .u64 (IntKind.u64.wrap ((m : Int).fdiv (2 ^ min 4 64) + (m : Int))) 1085102592571150095 = (popC m : Int) := by
  rw [shr_lit m 4 (by omega), ← Int.natCast_add, u64_wrap _ h, show (1085102592571150095 : Int) = ((1085102592571150095 : Nat) : Int) from rfl, andW _ _ h (by decide)]
  rfl
theorem addS_w (m k : Nat) (hk : k ≤ 64) (h : m + m / 2 ^ k < 2 ^ 64) : IntKind.u64.wrap ((m : Int) + (m : Int).fdiv (2 ^ min k 64)) = ((m + m / 2 ^ k : Nat) : Int) := by
  rw [shr_lit m k hk, ← Int.natCast_add, u64_wrap _ h]
/-- How many bits. -/
def popN (m : Nat) : Nat :=
  (((popC (popB (popA m)) + popC (popB (popA m)) / 256) + (popC (popB (popA m)) + popC (popB (popA m)) / 256) / 65536) + ((popC (popB (popA m)) + popC (popB (popA m)) / 256) + (popC (popB (popA m)) + popC (popB (popA m)) / 256) / 65536) / 4294967296) % 128
theorem popN_ok (m : Nat) (hm : m < 2 ^ 64) : popN m ≤ 64 ∧ (popN m = 0 ↔ m = 0) := by
  obtain ⟨_, _, _, _, n, hn, n1, n2⟩ := pop_ok m hm
  have e : popN m = n := (hn _ rfl).2.2.2
  rw [e]
  exact ⟨n1, n2⟩
/-- How many bits the words ahead have. -/
def cntK (ws : List Int) (k : Nat) : Nat := ((ws.take k).map fun w => popN w.toNat).sum
theorem cntK_step {ws : List Int} {k : Nat} {w : Int} (h : ws[k]? = some w) : cntK ws (k + 1) = cntK ws k + popN w.toNat := by
  unfold cntK
  rw [List.take_add_one, h]
  simp [List.map_append, List.sum_append]
theorem cntK_le {ws : List Int} (h : W64 ws) : ∀ k, cntK ws k ≤ 64 * k
  | 0 => by simp [cntK]
  | k + 1 => by
    have ih := cntK_le h k
    by_cases hk : k < 4
    · obtain ⟨m, e, hm⟩ := h.getD hk
      have hg := ws_get (ws := ws) (i := k) (by rw [h.len]; exact hk)
      rw [cntK_step hg, e]
      have := (popN_ok m hm).1
      simp only [Int.toNat_natCast]
      omega
    · have : cntK ws (k + 1) = cntK ws k := by
        unfold cntK
        rw [List.take_of_length_le (by rw [h.len]; omega), List.take_of_length_le (by rw [h.len]; omega)]
      omega
theorem cntK_zero {ws : List Int} (h : W64 ws) : cntK ws 4 = 0 ↔ ws = noneS := by
  obtain ⟨ms, rfl, hl, hb⟩ := h
  match ms, hl with
  | [a, b, c, d], _ =>
    have ha := popN_ok a (hb a (by simp))
    have hb' := popN_ok b (hb b (by simp))
    have hc := popN_ok c (hb c (by simp))
    have hd := popN_ok d (hb d (by simp))
    have e : cntK ([a, b, c, d].map fun m : Nat => (m : Int)) 4 = popN a + popN b + popN c + popN d := by simp [cntK]; omega
    rw [e]
    have : ([a, b, c, d].map fun m : Nat => (m : Int)) = noneS ↔ a = 0 ∧ b = 0 ∧ c = 0 ∧ d = 0 := by simp [noneS]
    rw [this, ← ha.2, ← hb'.2, ← hc.2, ← hd.2]
    omega
theorem joinAll2_none {a b : List Int} (ha : W64 a) (hb : W64 b) (h : joinAll [a, b] = noneS) : a = noneS ∧ b = noneS := by
  constructor
  · refine ha.ext W64.none fun n hn => ?_
    have := hasB_joinAll2 ha hb hn
    rw [h, hasB_none n hn] at this
    rw [hasB_none n hn]
    revert this
    cases hasB a n <;> simp
  · refine hb.ext W64.none fun n hn => ?_
    have := hasB_joinAll2 ha hb hn
    rw [h, hasB_none n hn] at this
    rw [hasB_none n hn]
    revert this
    cases hasB b n <;> simp
theorem fst_w (r : Re) : r.wd → W64 r.fst := by
  refine Re.ind (p := fun r => r.wd → W64 r.fst) ?_ r
  intro k a b c d ks ih hw
  rw [Re.wd] at hw
  have hm := fun x hx => ih x hx (Re.wds_mem hw.2 hx)
  match ks, hm with
  | [], _ => simp only [Re.fst]; split; exact hw.1; exact W64.none
  | [x], hm => rw [Re.fst]; exact hm x (by simp)
  | [x, y], hm =>
    rw [Re.fst]
    have hj := (hm x (by simp)).joinAll2 (hm y (by simp))
    split
    · split
      · split
        · exact hj
        · exact hm x (by simp)
      · exact W64.none
    · exact hj
  | x :: y :: z :: l, _ => simp only [Re.fst]; split; exact hw.1; exact W64.none
/-- What fits nothing isn't nullable and begins with nothing. -/
theorem void_none (r : Re) : r.nodesOk = true → r.fit = false → r.nul = false ∧ r.fst = noneS := by
  refine Re.indOk (p := fun r => r.fit = false → r.nul = false ∧ r.fst = noneS) ?_ ?_ ?_ ?_ r
  · intro k hk h
    rcases hk with rfl | rfl
    · simp [Re.nul, Re.fst]
    · simp [Re.fit] at h
  · intro a b c d _ h
    simp [Re.fit] at h
  · intro k x y hk _ _ hx hy h
    rcases hk with rfl | rfl
    · have h' : (x.fit && y.fit) = false := by rw [← h]; simp [Re.fit]
      have e1 : (Re.mk 4 0 0 0 0 [x, y]).nul = (x.nul && y.nul) := by simp [Re.nul]
      have e2 : (Re.mk 4 0 0 0 0 [x, y]).fst = if x.fit && y.fit then (if x.nul then joinAll [x.fst, y.fst] else x.fst) else noneS := by simp [Re.fst]
      rw [e1, e2, h']
      refine ⟨?_, rfl⟩
      cases hfx : x.fit
      · rw [(hx hfx).1]; rfl
      · rw [hfx, Bool.true_and] at h'
        rw [(hy h').1, Bool.and_false]
    · have h' : (x.fit || y.fit) = false := by rw [← h]; simp [Re.fit]
      rw [Bool.or_eq_false_iff] at h'
      have e1 : (Re.mk 5 0 0 0 0 [x, y]).nul = (x.nul || y.nul) := by simp [Re.nul]
      have e2 : (Re.mk 5 0 0 0 0 [x, y]).fst = joinAll [x.fst, y.fst] := by simp [Re.fst]
      rw [e1, e2, (hx h'.1).1, (hy h'.2).1, (hx h'.1).2, (hy h'.2).2]
      exact ⟨rfl, by decide⟩
  · intro x _ _ h
    simp [Re.fit] at h
/-- What fits something, and isn't nullable, begins with something. -/
theorem ways_some (r : Re) : r.nodesOk = true → r.wd → r.fit = true → r.nul = false → r.fst ≠ noneS := by
  refine Re.indOk (p := fun r => r.wd → r.fit = true → r.nul = false → r.fst ≠ noneS) ?_ ?_ ?_ ?_ r
  · intro k hk _ h1 h2
    rcases hk with rfl | rfl
    · simp [Re.fit] at h1
    · simp [Re.nul] at h2
  · intro a b c d hn _ _ _ h
    apply hn
    simpa [Re.fst, noneS] using h
  · intro k x y hk _ _ hx hy hw h1 h2
    rw [Re.wd, Re.wds, Re.wds, Re.wds] at hw
    obtain ⟨_, wx, wy, _⟩ := hw
    rcases hk with rfl | rfl
    · have h1' : (x.fit && y.fit) = true := by rw [← h1]; simp [Re.fit]
      have h2' : (x.nul && y.nul) = false := by rw [← h2]; simp [Re.nul]
      have e2 : (Re.mk 4 0 0 0 0 [x, y]).fst = if x.fit && y.fit then (if x.nul then joinAll [x.fst, y.fst] else x.fst) else noneS := by simp [Re.fst]
      rw [e2, h1', if_pos rfl]
      rw [Bool.and_eq_true] at h1'
      cases hnx : x.nul
      · exact hx wx h1'.1 hnx
      · rw [hnx, Bool.true_and] at h2'
        intro h
        exact hy wy h1'.2 h2' (joinAll2_none (fst_w x wx) (fst_w y wy) h).2
    · have h1' : (x.fit || y.fit) = true := by rw [← h1]; simp [Re.fit]
      have h2' : (x.nul || y.nul) = false := by rw [← h2]; simp [Re.nul]
      rw [Bool.or_eq_false_iff] at h2'
      have e2 : (Re.mk 5 0 0 0 0 [x, y]).fst = joinAll [x.fst, y.fst] := by simp [Re.fst]
      rw [e2]
      intro h
      obtain ⟨g1, g2⟩ := joinAll2_none (fst_w x wx) (fst_w y wy) h
      rcases Bool.or_eq_true_iff.1 h1' with f | f
      · exact hx wx f h2'.1 g1
      · exact hy wy f h2'.2 g2
  · intro x _ _ _ _ h2
    simp [Re.nul] at h2
end Go.Proofs.Yteifkcgokjmcjaa.AWP
