/- Whether texts are read; the document's example; the expression of any text is the document's. -/
import Derived.Test.YteifkcgokjmcjaaReadA
import Derived.Test.YteifkcgokjmcjaaMath
import Derived.Test.YteifkcgokjmcjaaAwpX
set_option linter.unusedVariables false
set_option linter.unusedSimpArgs false
set_option linter.unusedSectionVars false
set_option maxRecDepth 100000
/- The document's sets. -/
namespace Go.Proofs.Yteifkcgokjmcjaa.W
open Go Go.Proofs Go.Proofs.Yteifkcgokjmcjaa.AWP

theorem nq64 (n : Nat) (h : n < 256) : IntKind.i64.wrap ((n : Int).tdiv 64) = ((n / 64 : Nat) : Int) := by
  have := q64i (UInt8.ofNat n)
  rwa [byteNat h] at this
theorem nr64 (n : Nat) (h : n < 256) : (n : Int).tmod 64 = ((n % 64 : Nat) : Int) := by
  have := r64 (UInt8.ofNat n)
  rwa [byteNat h] at this
theorem half (m : Nat) (h : m < 2 ^ 64) : IntKind.u64.wrap ((m : Int).tdiv 2) = ((m / 2 : Nat) : Int) := by
  rw [show ((m : Int).tdiv 2) = ((m / 2 : Nat) : Int) from rfl]
  exact u64_wrap _ (by omega)

theorem rHas (ws : List Int) (hw : W64 ws) (n : Nat) (hn : n < 256) : AP Try.prog 91 [Ws ws, .i n] (.b (hasB ws n)) := by
  have h4 := hw.len
  have hq : n / 64 < 4 := by omega
  have hg := ws_get (ws := ws) (i := n / 64) (by omega)
  obtain ⟨m, em, hm'⟩ := hw.getD hq
  rw [em] at hg
  refine AC.lbody hT hm Try.func91 f91_nm f91_lc f91_res f91_nt ?_
  have hd : (ws.map wD).drop (n / 64) = .v (.int .u64 m) :: (ws.map wD).drop (n / 64 + 1) := by
    rw [List.drop_eq_getElem_cons (by simp; omega)]
    congr 1
    have := wD_get (ws := ws) (i := n / 64) (by omega)
    rw [em, List.getElem?_eq_getElem (by simp; omega)] at this
    simpa [wD_eq] using this
  simp only [go_sem, Int.reduceEq, Int.reduceLE, Int.reduceLT, Int.reduceToNat, nq64 n hn]
  simp only [go_sem, Int.reduceEq, Int.reduceLE, Int.reduceLT, Int.reduceToNat, hq, hd]
  refine xl_loopM hT hm (fun i : Nat => ⟨f91_i6 (.i n) (.v (.int .u64 (m / 2 ^ i : Nat))) (.i i), []⟩)
    (fun i => i ≤ n % 64) (fun i => n % 64 - i) 0 (Nat.zero_le _) (Mv.none (by simp [f91_i6])) ?_
  intro i hi
  simp only [go_sem, Int.reduceEq, Int.reduceLE, Int.reduceLT, Int.reduceToNat, nr64 n hn]
  by_cases h : i < n % 64
  · simp only [go_sem, Int.reduceEq, Int.reduceLE, Int.reduceLT, Int.reduceToNat, h]
    have hb : m / 2 ^ i < 2 ^ 64 := Nat.lt_of_le_of_lt (Nat.div_le_self _ _) hm'
    simp only [go_sem, Int.reduceEq, Int.reduceLE, Int.reduceLT, Int.reduceToNat, half _ hb]
    rw [wrap_succ i (by omega)]
    refine ⟨i + 1, h, by omega, Mv.none ?_⟩
    simp [Nat.pow_succ, Nat.div_div_eq_div_mul]
  · have e : i = n % 64 := by omega
    subst e
    simp only [go_sem, Int.reduceEq, Int.reduceLE, Int.reduceLT, Int.reduceToNat, h]
    refine Fin.v ?_
    congr 1
    unfold hasB
    rw [em]
    show _ = m.testBit (n % 64)
    rw [Nat.testBit_eq_decide_div_mod_eq, show (((m / 2 ^ (n % 64) : Nat) : Int).tmod 2) = ((m / 2 ^ (n % 64) % 2 : Nat) : Int) from rfl]
    by_cases h1 : m / 2 ^ (n % 64) % 2 = 1
    · simp [h1]
    · rw [decide_eq_false h1, AWP.beq_false (by omega)]

theorem WbOb (ws : List Int) : ∀ d ∈ ws.map wD, Bl 0 d := W_bl ws
theorem rWith (ws : List Int) (hw : W64 ws) (n : Nat) (hn : n < 256) : AP Try.prog 112 [Ws ws, .i n] (Ws (setBit ws n)) := by
  have h4 := hw.len
  have hq : n / 64 < 4 := by omega
  have hg := ws_get (ws := ws) (i := n / 64) (by omega)
  have h4' := (hw.setBit hn).len
  refine AC.lbody hT hm Try.func112 f112_nm f112_lc f112_res f112_nt ?_
  simp only [go_sem, Int.reduceEq, Int.reduceLE, Int.reduceLT, Int.reduceToNat]
  simp only [go_sem, Int.reduceEq, Int.reduceLE, Int.reduceLT, Int.reduceToNat, h4, W_take h4, W_drop0]
  refine (rHas ws hw n hn).pv ⟨.same (.agg (W_bl _)), .v, trivial⟩ ?_
  cases hh : hasB ws n
  case true =>
    simp only [go_sem, Int.reduceEq, Int.reduceLE, Int.reduceLT, Int.reduceToNat]
    simp only [go_sem, Int.reduceEq, Int.reduceLE, Int.reduceLT, Int.reduceToNat, h4, W_take h4, W_drop0]
    rw [setBit_has hw hn hh]
    exact Fin.ret (.same (.agg (W_bl _)))
  simp only [go_sem, Int.reduceEq, Int.reduceLE, Int.reduceLT, Int.reduceToNat]
  refine xl_loopM hT hm (fun i : Nat => ⟨f112_i8 (.i n) (.ref 0 0) (.ref 1 0) (.v (.int .u64 (2 ^ i : Nat))) (.i i), [wOb ws, wOb noneS]⟩)
    (fun i => i ≤ n % 64) (fun i => n % 64 - i) 0 (Nat.zero_le _) (Mv.of [some 0, some 1] rfl (mvW rfl rfl) (by simp [f112_i8])) ?_
  intro i hi
  simp only [go_sem, Int.reduceEq, Int.reduceLE, Int.reduceLT, Int.reduceToNat, nr64 n hn]
  by_cases h : i < n % 64
  · have hb : 2 ^ (i + 1) < 2 ^ 64 := Nat.pow_lt_pow_right (by omega) (by omega)
    have h2 : IntKind.u64.wrap (2 * ((2 ^ i : Nat) : Int)) = ((2 ^ (i + 1) : Nat) : Int) := by
      rw [← u64_wrap _ hb]; congr 1; rw [Nat.pow_succ]; simp; omega
    simp only [go_sem, Int.reduceEq, Int.reduceLE, Int.reduceLT, Int.reduceToNat, h, h2]
    rw [wrap_succ i (by omega)]
    exact ⟨i + 1, h, by omega, Mv.of [some 0, some 1] rfl (mvW rfl rfl) (by simp)⟩
  · have e : i = n % 64 := by omega
    subst e
    have hq' : n / 64 < ws.length := by omega
    have e1 := setBit_add hw hn hh
    simp only [go_sem, Int.reduceEq, Int.reduceLE, Int.reduceLT, Int.reduceToNat, h, nq64 n hn, hg, hq, hq', wD_eq]
    have p0 := W_put (ty := 25) (a := noneS) rfl h4'
    have e2 : (ws.map wD).set (n / 64) (.v (.int .u64 (IntKind.u64.wrap (ws.getD (n / 64) 0 + ((2 ^ (n % 64) : Nat) : Int))))) = (setBit ws n).map wD := by rw [e1, List.map_set]; rfl
    have l4 : 4 ≤ ws.length := by omega
    simp only [go_sem, Int.reduceEq, Int.reduceLE, Int.reduceLT, Int.reduceToNat, e2, l4, h4', W_take h4', p0, W_drop0]
    exact Fin.ret (.same (.agg (W_bl _)))

theorem rRange (lo hi : Nat) (hl : lo ≤ 255) (hh : hi ≤ 255) : AP Try.prog 100 [.i lo, .i hi] (Ws (rangeS lo (hi + 1 - lo))) := by
  refine AC.lbody hT hm Try.func100 f100_nm f100_lc f100_res f100_nt ?_
  simp only [go_sem, Int.reduceEq, Int.reduceLE, Int.reduceLT, Int.reduceToNat]
  refine xl_loopM hT hm (fun i : Nat => ⟨f100_i6 (.i hi) (.ref 0 0) (.ref 1 0) (.i (lo + i : Nat)), [wOb noneS, wOb (rangeS lo i)]⟩)
    (fun i => i ≤ hi + 1 - lo) (fun i => 256 - i) 0 (Nat.zero_le _) (Mv.of [some 0, some 1] rfl (mvW rfl rfl) (by simp [f100_i6])) ?_
  intro i hle
  simp only [go_sem, Int.reduceEq, Int.reduceLE, Int.reduceLT, Int.reduceToNat]
  have hw : i ≤ 256 - lo → W64 (rangeS lo i) := fun h => rangeS_w lo i (by omega)
  have h4 := rangeS_len lo i
  by_cases h : lo + i ≤ hi
  case neg =>
    have hn : hi + 1 - lo = i := by omega
    have p0 := W_put (ty := 25) (a := noneS) rfl h4
    simp only [go_sem, Int.reduceEq, Int.reduceLE, Int.reduceLT, Int.reduceToNat, h, h4, W_take h4, p0, W_drop0]
    rw [hn]
    exact Fin.ret (.same (.agg (W_bl _)))
  have h5 := rangeS_len lo (i + 1)
  have p0 := W_put (ty := 25) h4 h5
  simp only [go_sem, Int.reduceEq, Int.reduceLE, Int.reduceLT, Int.reduceToNat, h, h4, W_take h4, W_drop0]
  refine (rWith (rangeS lo i) (hw (by omega)) (lo + i) (by omega)).pd ⟨.same (.agg (W_bl _)), .v, trivial⟩ (.agg (W_bl _)) ?_
  rw [show setBit (rangeS lo i) (lo + i) = rangeS lo (i + 1) from rfl]
  simp only [go_sem, Int.reduceEq, Int.reduceLE, Int.reduceLT, Int.reduceToNat, h5, p0]
  rw [wrap_succ _ (by omega)]
  exact ⟨i + 1, by omega, by omega, Mv.of [some 0, some 1] rfl (mvW rfl rfl) (by simp [Nat.add_assoc])⟩

theorem rOf (l : List UInt8) (hl : l.length ≤ 1000) : AP Try.prog 104 [Bys l] (Ws (ofS l)) := by
  refine AC.lbody hT hm Try.func104 f104_nm f104_lc f104_res f104_nt ?_
  simp only [go_sem, Int.reduceEq, Int.reduceLE, Int.reduceLT, Int.reduceToNat]
  refine xl_loopM hT hm (fun i : Nat => ⟨f104_i7 (Bys l) (.ref 0 0) (.ref 1 0) (.i l.length) (.i i), [wOb noneS, wOb (ofS (l.take i))]⟩)
    (fun i => i ≤ l.length) (fun i => l.length - i) 0 (Nat.zero_le _) (Mv.of [some 0, some 1] rfl (mvW rfl rfl) (by simp [f104_i7])) ?_
  intro i hi
  simp only [go_sem, Int.reduceEq, Int.reduceLE, Int.reduceLT, Int.reduceToNat]
  by_cases h : i < l.length
  case neg =>
    have h4 := ofS_len l
    have p0 := W_put (ty := 25) (a := noneS) rfl h4
    have ht : l.take i = l := List.take_of_length_le (by omega)
    simp only [go_sem, Int.reduceEq, Int.reduceLE, Int.reduceLT, Int.reduceToNat, h, ht, h4, W_take h4, p0, W_drop0]
    exact Fin.ret (.same (.agg (W_bl _)))
  obtain ⟨b, hb⟩ := get_ex h
  have h4 := ofS_len (l.take i)
  have h5 := ofS_len (l.take (i + 1))
  have e := ofS_take hb
  have p0 := W_put (ty := 25) h4 h5
  have ec : IntKind.i64.wrap (b.toNat : Int) = (b.toNat : Int) := wrap_nat _ (by have := b.toNat_lt; omega)
  simp only [go_sem, Int.reduceEq, Int.reduceLE, Int.reduceLT, Int.reduceToNat, h, h4, W_take h4, W_drop0, byteRows_get hb, ec]
  refine (rWith (ofS (l.take i)) (ofS_w _) b.toNat (by have := b.toNat_lt; omega)).pd ⟨.same (.agg (W_bl _)), .v, trivial⟩ (.agg (W_bl _)) ?_
  rw [← e]
  simp only [go_sem, Int.reduceEq, Int.reduceLE, Int.reduceLT, Int.reduceToNat, h5, p0]
  rw [wrap_succ _ (by omega)]
  exact ⟨i + 1, h, by omega, Mv.of [some 0, some 1] rfl (mvW rfl rfl) (by simp)⟩

theorem rJoin (a b : List Int) (ha : W64 a) (hb : W64 b) : AP Try.prog 113 [Ws a, Ws b] (Ws (joinAll [a, b])) := by
  have h4 := ha.len
  have h4b := hb.len
  refine AC.lbody hT hm Try.func113 f113_nm f113_lc f113_res f113_nt ?_
  simp only [go_sem, Int.reduceEq, Int.reduceLE, Int.reduceLT, Int.reduceToNat]
  simp only [go_sem, Int.reduceEq, Int.reduceLE, Int.reduceLT, Int.reduceToNat, h4, W_take h4, W_drop0]
  refine xl_loopM hT hm (fun i : Nat × List Int => ⟨f113_i7 (.pel (b.map wD)) (.ref 0 0) (.ref 1 0) (.i i.1), [wOb noneS, wOb i.2]⟩)
    (fun i => i.1 ≤ 256 ∧ W64 i.2 ∧ ∀ n, n < 256 → hasB i.2 n = (hasB a n || (hasB b n && decide (n < i.1)))) (fun i => 256 - i.1) (0, a) ⟨by simp, ha, fun n _ => by simp⟩ (Mv.of [some 0, some 1] rfl (mvW rfl rfl) (by simp [f113_i7, W_bl])) ?_
  rintro ⟨k, ws⟩ ⟨hk, hw, hi⟩
  dsimp only at hk hw hi
  have h5 := hw.len
  simp only [go_sem, Int.reduceEq, Int.reduceLE, Int.reduceLT, Int.reduceToNat]
  by_cases h : (k : Int) < 256
  case neg =>
    have e : ws = joinAll [a, b] := hw.ext (ha.joinAll2 hb) fun n hn => by
      rw [hi n hn, hasB_joinAll2 ha hb hn, decide_eq_true (by omega), Bool.and_true]
    have p0 := W_put (ty := 25) (a := noneS) rfl h5
    simp only [go_sem, Int.reduceEq, Int.reduceLE, Int.reduceLT, Int.reduceToNat, h, h5, W_take h5, p0, W_drop0]
    rw [← e]
    exact Fin.ret (.same (.agg (W_bl _)))
  simp only [go_sem, Int.reduceEq, Int.reduceLE, Int.reduceLT, Int.reduceToNat, h, h4b, W_take h4b, W_drop0]
  refine (rHas b hb k (by omega)).pv ⟨.same (.agg (W_bl _)), .v, trivial⟩ ?_
  simp only [go_sem, Int.reduceEq, Int.reduceLE, Int.reduceLT, Int.reduceToNat]
  have w1 := wrap_succ k (by omega)
  cases hh : hasB b k
  case false =>
    simp only [go_sem, Int.reduceEq, Int.reduceLE, Int.reduceLT, Int.reduceToNat, w1]
    refine ⟨(k + 1, ws), ⟨by dsimp only; omega, hw, fun n hn => ?_⟩, by dsimp only; omega, Mv.of [some 0, some 1] rfl (mvW rfl rfl) (by simp [W_bl])⟩
    rw [hi n hn]
    congr 1
    by_cases e : n = k
    · subst e; rw [hh]; rfl
    · congr 1; rw [decide_eq_decide]; dsimp only; omega
  have h6 := (hw.setBit (n := k) (by omega)).len
  have p0 := W_put (ty := 25) h5 h6
  simp only [go_sem, Int.reduceEq, Int.reduceLE, Int.reduceLT, Int.reduceToNat, h5, W_take h5, W_drop0]
  refine (rWith ws hw k (by omega)).pd ⟨.same (.agg (W_bl _)), .v, trivial⟩ (.agg (W_bl _)) ?_
  simp only [go_sem, Int.reduceEq, Int.reduceLE, Int.reduceLT, Int.reduceToNat, h6, p0, w1]
  refine ⟨(k + 1, setBit ws k), ⟨by dsimp only; omega, hw.setBit (by omega), fun n hn => ?_⟩, by dsimp only; omega, Mv.of [some 0, some 1] rfl (mvW rfl rfl) (by simp [W_bl])⟩
  rw [hasB_setBit hw (by omega) hn, hi n hn, Bool.or_assoc]
  congr 1
  by_cases e : n = k
  · subst e; simp [hh]
  · simp only [e, decide_false, Bool.or_false]; congr 1; rw [decide_eq_decide]; omega
end Go.Proofs.Yteifkcgokjmcjaa.W

set_option maxRecDepth 100000
/- The document's expressions and signs. -/
namespace Go.Proofs.Yteifkcgokjmcjaa.W
open Go Go.Proofs Go.Proofs.Yteifkcgokjmcjaa.AWP

theorem bare (k : Int) : AP Try.prog 90 [.v (.int .u8 k)] (.agg (Re.mk k 0 0 0 0 []).c) := by
  refine AC.lbody hT hm Try.func90 f90_nm f90_lc f90_res f90_nt ?_
  simp only [go_sem]
  refine Fin.ret (.aggL ?_)
  simp [CvL, Re.c_mk, Re.cs_eq]

theorem many (x : Re) : AP Try.prog 31 [.agg x.c] (.agg (Re.mk 6 0 0 0 0 [x]).c) := by
  refine AC.lbody hT hm Try.func31 f31_nm f31_lc f31_res f31_nt ?_
  simp only [go_sem]
  refine Fin.ret (.aggL ?_)
  simp [CvL, Re.c_mk, Re.cs_eq]

theorem mkTwo (k : Int) (x y : Re) : AP Try.prog 19 [.v (.int .u8 k), .agg x.c, .agg y.c] (.agg (Re.mk k 0 0 0 0 [x, y]).c) := by
  refine AC.lbody hT hm Try.func19 f19_nm f19_lc f19_res f19_nt ?_
  simp only [go_sem]
  refine Fin.ret (.aggL ?_)
  simp [CvL, Re.c_mk, Re.cs_eq]

theorem rReOf (ws : List Int) (h4 : ws.length = 4) : AP Try.prog 99 [Ws ws] (.agg (reS ws).c) := by
  obtain ⟨a, b, c, d, rfl⟩ := four h4
  refine AC.lbody hT hm Try.func99 f99_nm f99_lc f99_res f99_nt ?_
  simp only [go_sem, Int.reduceEq, Int.reduceLE, Int.reduceLT, Int.reduceToNat, wD_eq, intsEq]
  by_cases h : a = 0 ∧ b = 0 ∧ c = 0 ∧ d = 0
  · have e : (a == 0 && (b == 0 && (c == 0 && (d == 0 && true)))) = true := by simpa using h
    simp only [go_sem, Int.reduceEq, Int.reduceLE, Int.reduceLT, Int.reduceToNat, e]
    obtain ⟨rfl, rfl, rfl, rfl⟩ := h
    have e3 : reS [0, 0, 0, 0] = .mk 1 0 0 0 0 [] := if_pos rfl
    refine (bare 1).pd (by simp) (by simp) ?_
    rw [e3]
    generalize Re.mk 1 0 0 0 0 [] = r
    simp only [go_sem, Int.reduceEq, Int.reduceLE, Int.reduceLT, Int.reduceToNat, Re.put1]
    exact Fin.ret (.same (Re.d_bl _))
  · have e : (a == 0 && (b == 0 && (c == 0 && (d == 0 && true)))) = false := by
      rw [Bool.eq_false_iff]; simpa using h
    simp only [go_sem, Int.reduceEq, Int.reduceLE, Int.reduceLT, Int.reduceToNat, e]
    refine Fin.ret ?_
    have e3 : reS [a, b, c, d] = .mk 3 a b c d [] := if_neg (by unfold noneS; simpa using h)
    rw [e3]
    exact .aggL (by simp [CvL, Re.c_mk, Re.cs_eq])

theorem foldL_cons (kind none : Int) (x y : Re) (l : List Re) : foldL kind none (x :: y :: l) = .mk kind 0 0 0 0 [x, foldL kind none (y :: l)] := by
  unfold foldL
  simp [List.getLast?_cons, foldR]

/-- What a fold of none is. -/
def noK (kind : Int) : Int := if kind = 4 then 2 else 1
theorem rFold (kind : Int) : ∀ (l : List Re), l.length ≤ 100000 → AP Try.prog 76 [.v (.int .u8 kind), Res l] (.agg (foldL kind (noK kind) l).c) := by
  intro l
  induction l with
  | nil =>
    intro _
    refine AC.lbody hT hm Try.func76 f76_nm f76_lc f76_res f76_nt ?_
    simp only [go_sem, Int.reduceEq, Int.reduceLE, Int.reduceLT, Int.reduceToNat]
    have t0 : (((0 : Nat) : Int) == 0) = true := rfl
    simp only [go_sem, Int.reduceEq, Int.reduceLE, Int.reduceLT, Int.reduceToNat, List.length_nil, t0]
    have e0 : foldL kind (noK kind) [] = .mk (noK kind) 0 0 0 0 [] := rfl
    rw [e0]
    by_cases h : kind = 4
    · subst h
      simp only [go_sem, Int.reduceEq, Int.reduceLE, Int.reduceLT, Int.reduceToNat]
      refine (bare 2).pd (by simp) (by simp) ?_
      rw [show noK 4 = 2 from rfl]
      generalize Re.mk 2 0 0 0 0 [] = r
      simp only [go_sem, Int.reduceEq, Int.reduceLE, Int.reduceLT, Int.reduceToNat, Re.put1]
      exact Fin.ret (.same (Re.d_bl _))
    · have hf : (kind == 4) = false := AWP.beq_false h
      simp only [go_sem, Int.reduceEq, Int.reduceLE, Int.reduceLT, Int.reduceToNat, hf]
      refine (bare 1).pd (by simp) (by simp) ?_
      rw [show noK kind = 1 from if_neg h]
      generalize Re.mk 1 0 0 0 0 [] = r
      simp only [go_sem, Int.reduceEq, Int.reduceLE, Int.reduceLT, Int.reduceToNat, Re.put1]
      exact Fin.ret (.same (Re.d_bl _))
  | cons x l ih =>
    intro hl
    simp only [List.length_cons] at hl
    cases l with
    | nil =>
      have n0 : (((0 + 1 : Nat) : Int) == 0) = false := rfl
      have n1 : (((0 + 1 : Nat) : Int) == 1) = true := rfl
      have e0 : foldL kind (noK kind) [x] = x := rfl
      rw [e0]
      refine AC.lbody hT hm Try.func76 f76_nm f76_lc f76_res f76_nt ?_
      simp only [go_sem, Int.reduceEq, Int.reduceLE, Int.reduceLT, Int.reduceToNat]
      simp only [go_sem, Int.reduceEq, Int.reduceLE, Int.reduceLT, Int.reduceToNat, List.length_cons, List.length_nil, n0, n1, Re.put1]
      exact Fin.ret (.same (Re.d_bl _))
    | cons y l =>
      have n0 : (((l.length + 1 + 1 : Nat) : Int) == 0) = false := AWP.beq_false (by omega)
      have n1 : (((l.length + 1 + 1 : Nat) : Int) == 1) = false := AWP.beq_false (by omega)
      have ih := ih (by omega)
      simp only [List.length_cons] at hl
      rw [foldL_cons]
      refine AC.lbody hT hm Try.func76 f76_nm f76_lc f76_res f76_nt ?_
      simp only [go_sem, Int.reduceEq, Int.reduceLE, Int.reduceLT, Int.reduceToNat]
      simp only [go_sem, Int.reduceEq, Int.reduceLE, Int.reduceLT, Int.reduceToNat, List.length_cons, n0, n1]
      simp only [go_sem, Int.reduceEq, Int.reduceLE, Int.reduceLT, Int.reduceToNat, Nat.le_refl, List.take_of_length_le, List.length_map]
      have er : D.sl 6 (y.c :: l.map Re.c) = Res (y :: l) := by rw [← Re.cs_eq]; rfl
      rw [er]
      refine ih.qd ⟨.v, .same (by simp), trivial⟩ (Re.d_bl _) ?_
      simp only [go_sem, Int.reduceEq, Int.reduceLE, Int.reduceLT, Int.reduceToNat]
      generalize foldL kind (noK kind) (y :: l) = z
      refine (mkTwo kind x z).pd ⟨.v, .same (Re.d_bl _), .same (Re.d_bl _), trivial⟩ (Re.d_bl _) ?_
      simp only [go_sem, Int.reduceEq, Int.reduceLE, Int.reduceLT, Int.reduceToNat]
      exact Fin.ret (.aggL (by simp [CvL, Re.c_mk, Re.cs_eq]))

/-! ### Signs -/
theorem special (b : UInt8) : AP Try.prog 110 [.y b] (.b (!plain b)) := by
  refine AC.lbody hT hm Try.func110 f110_nm f110_lc f110_res f110_nt ?_
  simp only [go_sem, Int.reduceEq, Int.reduceLE, Int.reduceLT, Int.reduceToNat]
  refine xl_loopM hT hm (fun i : Nat => ⟨f110_i7 (.y b) (.s spec1) (.i i), []⟩)
    (fun i => i ≤ 9 ∧ ∀ j, j < i → spec1.data[j]? ≠ some b) (fun i => 9 - i) 0 ⟨Nat.zero_le _, fun j h => absurd h (Nat.not_lt_zero _)⟩ (Mv.none (by simp [f110_i7, spec1])) ?_
  rintro i ⟨hi, hn⟩
  have hsz : spec1.size = 9 := rfl
  simp only [go_sem, Int.reduceEq, Int.reduceLE, Int.reduceLT, Int.reduceToNat, hsz]
  by_cases h : i < 9
  case neg =>
    have e := plain_of b fun j hj => hn j (by omega)
    simp only [go_sem, Int.reduceEq, Int.reduceLE, Int.reduceLT, Int.reduceToNat, h]
    rw [e]
    by_cases h1 : (b.toNat : Int) < 33
    · simp only [go_sem, Int.reduceEq, Int.reduceLE, Int.reduceLT, Int.reduceToNat, h1]
      exact Fin.v (by have : b.toNat < 33 := by omega
                      simp [this])
    · simp only [go_sem, Int.reduceEq, Int.reduceLE, Int.reduceLT, Int.reduceToNat, h1]
      exact Fin.v (by have : ¬ b.toNat < 33 := by omega
                      have e2 : ((126 : Int) < b.toNat) = (126 < b.toNat) := by apply propext; omega
                      simp [this, e2])
  obtain ⟨c, hc⟩ := get_lt (s := spec1) (p := i) h
  simp only [go_sem, Int.reduceEq, Int.reduceLE, Int.reduceLT, Int.reduceToNat, h, hc]
  by_cases hcb : c = b
  · subst hcb
    have e1 : ((c.toNat : Int) == c.toNat) = true := by simp
    simp only [go_sem, Int.reduceEq, Int.reduceLE, Int.reduceLT, Int.reduceToNat, e1]
    exact Fin.v (by rw [plain_not c h hc]; rfl)
  · have e1 : ((c.toNat : Int) == b.toNat) = false := by
      refine AWP.beq_false fun e => hcb ?_
      have : c.toNat = b.toNat := by omega
      exact UInt8.toNat_inj.1 this
    simp only [go_sem, Int.reduceEq, Int.reduceLE, Int.reduceLT, Int.reduceToNat, e1]
    rw [wrap_succ i (by omega)]
    refine ⟨i + 1, ⟨h, fun j hj => ?_⟩, by omega, Mv.none (by simp)⟩
    by_cases e : j = i
    · subst e; rw [hc]; simpa using hcb
    · exact hn j (by omega)

theorem rDigit (n : Nat) (h : n < 16) : AP Try.prog 123 [.i n] (.s ⟨#[hexD n]⟩) := by
  refine AC.lbody hT hm Try.func123 f123_nm f123_lc f123_res f123_nt ?_
  have h1 := wrap_succ n (by omega)
  have h2 : n ≤ n + 1 ∧ n + 1 ≤ 16 := by omega
  have e := hexD_ext n h
  unfold hexS at e
  simp only [go_sem, Int.reduceEq, Int.reduceLE, Int.reduceLT, Int.reduceToNat, h1]
  have h3 : n ≤ 15 := by omega
  simp only [go_sem, Int.reduceEq, Int.reduceLE, Int.reduceLT, Int.reduceToNat, h1, h2, h3, and_self, e]
  exact Fin.v rfl

theorem rHex (b : UInt8) : AP Try.prog 111 [Bys [b]] (.s ⟨(hexB b).toArray⟩) := by
  have hb := b.toNat_lt
  have ec : IntKind.i64.wrap (b.toNat : Int) = (b.toNat : Int) := wrap_nat _ (by omega)
  have eq : IntKind.i64.wrap ((b.toNat : Int).tdiv 16) = ((b.toNat / 16 : Nat) : Int) := by
    rw [show ((b.toNat : Int).tdiv 16) = ((b.toNat / 16 : Nat) : Int) from rfl, wrap_nat _ (by omega)]
  have er : ((b.toNat : Int).tmod 16) = ((b.toNat % 16 : Nat) : Int) := rfl
  have hg : (byteRows [b])[0]? = some [.y b] := rfl
  refine AC.lbody hT hm Try.func111 f111_nm f111_lc f111_res f111_nt ?_
  simp only [go_sem, Int.reduceEq, Int.reduceLE, Int.reduceLT, Int.reduceToNat]
  refine xl_loopM hT hm (fun i : Nat => ⟨f111_i7 (Bys [b]) (.s ⟨(if i = 0 then [] else hexB b).toArray⟩) (.i 1) (.i i), []⟩)
    (fun i => i ≤ 1) (fun i => 1 - i) 0 (Nat.zero_le _) (Mv.none (by simp [f111_i7])) ?_
  intro i hi
  simp only [go_sem, Int.reduceEq, Int.reduceLE, Int.reduceLT, Int.reduceToNat]
  cases i with
  | zero =>
    have t0 : decide (((0 : Nat) : Int) < 1) = true := rfl
    simp only [go_sem, Int.reduceEq, Int.reduceLE, Int.reduceLT, Int.reduceToNat, t0, hg, ec, eq, eq_self]
    refine (rDigit (b.toNat / 16) (by omega)).qv (by simp) ?_
    have s1 : (⟨([] : List UInt8).toArray⟩ : ByteArray) ++ ⟨#[hexD (b.toNat / 16)]⟩ = ⟨[hexD (b.toNat / 16)].toArray⟩ := ba_app [] [hexD (b.toNat / 16)]
    have s2 : (⟨[hexD (b.toNat / 16)].toArray⟩ : ByteArray) ++ ⟨#[hexD (b.toNat % 16)]⟩ = ⟨(hexB b).toArray⟩ := by
      have e1 : hexD (b.toNat % 16) = hexD b.toNat := by unfold hexD; rw [Nat.mod_mod]
      rw [e1]
      exact ba_app [hexD (b.toNat / 16)] [hexD b.toNat]
    have z1 : (⟨([] : List UInt8).toArray⟩ : ByteArray).size + (⟨#[hexD (b.toNat / 16)]⟩ : ByteArray).size ≤ 9223372036854775807 := by show (_ : Nat) + 1 ≤ _; simp [ByteArray.size]
    have z2 : (⟨[hexD (b.toNat / 16)].toArray⟩ : ByteArray).size + (⟨#[hexD (b.toNat % 16)]⟩ : ByteArray).size ≤ 9223372036854775807 := by show (_ : Nat) + 1 ≤ _; simp [ByteArray.size]
    simp only [go_sem, Int.reduceEq, Int.reduceLE, Int.reduceLT, Int.reduceToNat, hg, ec, er, s1, z1]
    refine (rDigit (b.toNat % 16) (by omega)).qv ⟨.v, trivial⟩ ?_
    simp only [go_sem, Int.reduceEq, Int.reduceLE, Int.reduceLT, Int.reduceToNat, s2, z2]
    exact ⟨1, by omega, by omega, Mv.none (by simp [f111_i7, show IntKind.i64.wrap 1 = 1 from rfl])⟩
  | succ i =>
    obtain rfl : i = 0 := by omega
    have t0 : decide (((0 + 1 : Nat) : Int) < 1) = false := rfl
    simp only [go_sem, Int.reduceEq, Int.reduceLE, Int.reduceLT, Int.reduceToNat, t0]
    exact Fin.v rfl
end Go.Proofs.Yteifkcgokjmcjaa.W

set_option maxRecDepth 100000
/- The document's reader: signs. -/
namespace Go.Proofs.Yteifkcgokjmcjaa.W
open Go Go.Proofs Go.Proofs.Yteifkcgokjmcjaa.AWP

theorem rSign (b : UInt8) : AP Try.prog 98 [.y b] (.s ⟨(signB b).toArray⟩) := by
  refine AC.lbody hT hm Try.func98 f98_nm f98_lc f98_res f98_nt ?_
  simp only [go_sem, Int.reduceEq, Int.reduceLE, Int.reduceLT, Int.reduceToNat]
  refine (special b).pv (by simp) ?_
  unfold signB
  cases h : plain b
  case false =>
    simp only [go_sem, Int.reduceEq, Int.reduceLE, Int.reduceLT, Int.reduceToNat]
    refine (rHex b).pv ⟨.eq rfl (by simp), trivial⟩ ?_
    have s1 : (⟨#[92]⟩ : ByteArray) ++ ⟨(hexB b).toArray⟩ = ⟨(92 :: hexB b).toArray⟩ := ba_app [92] (hexB b)
    have z1 : (⟨#[92]⟩ : ByteArray).size + (⟨(hexB b).toArray⟩ : ByteArray).size ≤ 9223372036854775807 := by
      rw [ba_size]; show 1 + 2 ≤ _; omega
    simp only [go_sem, Int.reduceEq, Int.reduceLE, Int.reduceLT, Int.reduceToNat, s1, z1]
    exact Fin.v rfl
  have e1 : bytesOfRows [[.v (.int .u8 b.toNat)]] = some [b] := bytesOfRows_of [b]
  simp only [go_sem, Int.reduceEq, Int.reduceLE, Int.reduceLT, Int.reduceToNat, e1]
  exact Fin.v rfl

theorem rValue (b : UInt8) : AP Try.prog 114 [.y b] (.i (firstIdx hexS b)) := by
  have hb := b.toNat_lt
  rw [hexVal]
  refine AC.lbody hT hm Try.func114 f114_nm f114_lc f114_res f114_nt ?_
  simp only [go_sem, Int.reduceEq, Int.reduceLE, Int.reduceLT, Int.reduceToNat]
  have out : ¬ (48 ≤ b.toNat ∧ b.toNat ≤ 57) → ¬ (97 ≤ b.toNat ∧ b.toNat ≤ 102) → (if 48 ≤ b.toNat ∧ b.toNat ≤ 57 then (b.toNat : Int) - 48 else if 97 ≤ b.toNat ∧ b.toNat ≤ 102 then (b.toNat : Int) - 87 else -1) = -1 := fun h h' => by rw [if_neg h, if_neg h']
  by_cases h1 : (48 : Int) ≤ b.toNat
  case neg =>
    have h3 : ¬ (97 : Int) ≤ b.toNat := by omega
    simp only [go_sem, Int.reduceEq, Int.reduceLE, Int.reduceLT, Int.reduceToNat, h1, h3]
    rw [out (by omega) (by omega)]
    exact Fin.v rfl
  by_cases h2 : (b.toNat : Int) ≤ 57
  · have w1 : IntKind.u8.wrap ((b.toNat : Int) - 48) = (b.toNat : Int) - 48 := by rw [IntKind.wrap_u8]; omega
    have w2 : IntKind.i64.wrap ((b.toNat : Int) - 48) = (b.toNat : Int) - 48 := wrap_int _ (by omega) (by omega)
    simp only [go_sem, Int.reduceEq, Int.reduceLE, Int.reduceLT, Int.reduceToNat, h1, h2, w1, w2]
    rw [if_pos (by omega)]
    exact Fin.v rfl
  by_cases h3 : (97 : Int) ≤ b.toNat
  case neg =>
    simp only [go_sem, Int.reduceEq, Int.reduceLE, Int.reduceLT, Int.reduceToNat, h1, h2, h3]
    rw [out (by omega) (by omega)]
    exact Fin.v rfl
  by_cases h4 : (b.toNat : Int) ≤ 102
  case neg =>
    simp only [go_sem, Int.reduceEq, Int.reduceLE, Int.reduceLT, Int.reduceToNat, h1, h2, h3, h4]
    rw [out (by omega) (by omega)]
    exact Fin.v rfl
  have w1 : IntKind.u8.wrap ((b.toNat : Int) - 97) = (b.toNat : Int) - 97 := by rw [IntKind.wrap_u8]; omega
  have w2 : IntKind.i64.wrap ((b.toNat : Int) - 97) = (b.toNat : Int) - 97 := wrap_int _ (by omega) (by omega)
  have w3 : IntKind.i64.wrap ((b.toNat : Int) - 97 + 10) = (b.toNat : Int) - 87 := by rw [wrap_int _ (by omega) (by omega)]; omega
  simp only [go_sem, Int.reduceEq, Int.reduceLE, Int.reduceLT, Int.reduceToNat, h1, h2, h3, h4, w1, w2, w3]
  rw [if_neg (by omega), if_pos (by omega)]
  exact Fin.v rfl

theorem rIs (s : ByteArray) (p : Nat) (c : UInt8) : AP Try.prog 75 [.s s, .i p, .y c] (.b (isB s p ⟨#[c]⟩)) := by
  refine AC.lbody hT hm Try.func75 f75_nm f75_lc f75_res f75_nt ?_
  simp only [go_sem, Int.reduceEq, Int.reduceLE, Int.reduceLT, Int.reduceToNat]
  by_cases h : p < s.size
  case neg =>
    simp only [go_sem, Int.reduceEq, Int.reduceLE, Int.reduceLT, Int.reduceToNat, h]
    rw [isB_end h]
    exact Fin.v rfl
  obtain ⟨b, hb⟩ := get_lt h
  simp only [go_sem, Int.reduceEq, Int.reduceLE, Int.reduceLT, Int.reduceToNat, h, hb]
  rw [isB_at hb, one_idx]
  refine Fin.v ?_
  congr 1
  by_cases e : c = b
  · subst e; simp
  · have : ¬ (b.toNat : Int) = c.toNat := fun h => e (UInt8.toNat_inj.1 (by omega))
    rw [AWP.beq_false this, decide_eq_false e]

theorem rBegins (s : ByteArray) (p : Nat) (hs : s.size ≤ 65536) : AP Try.prog 88 [.s s, .i p] (.b (begB s p)) := by
  refine AC.lbody hT hm Try.func88 f88_nm f88_lc f88_res f88_nt ?_
  simp only [go_sem, Int.reduceEq, Int.reduceLE, Int.reduceLT, Int.reduceToNat]
  by_cases h : p < s.size
  case neg =>
    simp only [go_sem, Int.reduceEq, Int.reduceLE, Int.reduceLT, Int.reduceToNat, h]
    rw [begB_end h]
    exact Fin.v rfl
  obtain ⟨b, hb⟩ := get_lt h
  have h1 : p + 1 ≤ s.size := h
  have h2 := wrap_succ p (by omega)
  simp only [go_sem, Int.reduceEq, Int.reduceLE, Int.reduceLT, Int.reduceToNat, h, hb]
  by_cases h92 : b.toNat = 92
  · have e1 : ((b.toNat : Int) == 92) = true := by simp; omega
    simp only [go_sem, Int.reduceEq, Int.reduceLE, Int.reduceLT, Int.reduceToNat, e1]
    have hb92 : (92 : UInt8) = b := UInt8.toNat_inj.1 h92.symm
    have : begB s p = true := by unfold begB; rw [isB_at hb, one_idx, decide_eq_true hb92]; rfl
    rw [this]
    exact Fin.v rfl
  have e1 : ((b.toNat : Int) == 92) = false := AWP.beq_false (by omega)
  simp only [go_sem, Int.reduceEq, Int.reduceLE, Int.reduceLT, Int.reduceToNat, e1, hb]
  refine (rSign b).qv (by simp) ?_
  simp only [go_sem, Int.reduceEq, Int.reduceLE, Int.reduceLT, Int.reduceToNat, h2, h1, Nat.le_succ]
  have hb92 : ¬ (92 : UInt8) = b := fun h => h92 (by rw [← h]; rfl)
  have : begB s p = plain b := by unfold begB; rw [isB_at hb, one_idx, decide_eq_false hb92, hb]; rfl
  rw [this, ext1 hb]
  refine Fin.v ?_
  congr 1
  cases hp : plain b <;> simp [signB, hp, hexB]

/-- What the document's sign hands back. -/
abbrev sgD (x : PB) : D :=
  match x with
  | .ok b q => .tup [.i b.toNat, .i q]
  | .bad e => .tup [.i (-1), .i e]
theorem rSgn (s : ByteArray) (p : Nat) (hs : s.size ≤ 65536) : AP Try.prog 103 [.s s, .i p] (sgD (pSign s p)) := by
  refine AC.lbody hT hm Try.func103 f103_nm f103_lc f103_res f103_nt ?_
  simp only [go_sem, Int.reduceEq, Int.reduceLE, Int.reduceLT, Int.reduceToNat]
  refine (rBegins s p hs).pv (by simp) ?_
  cases h : begB s p
  case false =>
    have e : pSign s p = .bad p := by unfold pSign; rw [h]; rfl
    rw [e]
    simp only [go_sem, Int.reduceEq, Int.reduceLE, Int.reduceLT, Int.reduceToNat]
    exact Fin.ret (.tupL ⟨.v, .v, trivial⟩)
  have hp := begB_lt h
  obtain ⟨b, hb⟩ := get_lt hp
  have h2 := wrap_succ p (by omega)
  simp only [go_sem, Int.reduceEq, Int.reduceLE, Int.reduceLT, Int.reduceToNat, hb]
  by_cases h92 : b.toNat = 92
  case neg =>
    have e : pSign s p = .ok b (p + 1) := by unfold pSign; rw [if_pos h, at_of hb, if_neg h92]
    have n1 : ((b.toNat : Int) != 92) = true := by simp; omega
    have w1 : IntKind.i64.wrap (b.toNat : Int) = b.toNat := wrap_nat _ (by have := b.toNat_lt; omega)
    rw [e]
    simp only [go_sem, Int.reduceEq, Int.reduceLE, Int.reduceLT, Int.reduceToNat, n1, hb, w1, h2]
    exact Fin.ret (.tupL ⟨.v, .v, trivial⟩)
  have n1 : ((b.toNat : Int) != 92) = false := by simp; omega
  simp only [go_sem, Int.reduceEq, Int.reduceLE, Int.reduceLT, Int.reduceToNat, n1]
  have g92 : (s.data.getD p 0).toNat = 92 := by rw [at_of hb]; exact h92
  refine xl_loopM hT hm (fun i : Nat => ⟨f103_i12 (.s s) (.i p) (.i (accN s p i)) (.i (i + 1 : Nat)), []⟩)
    (fun i => i ≤ 2 ∧ (1 ≤ i → isB s (p + 1) hexS = true) ∧ (2 ≤ i → isB s (p + 2) hexS = true)) (fun i => 2 - i) 0 ⟨Nat.zero_le _, by omega, by omega⟩ (Mv.none (by simp [f103_i12, accN])) ?_
  rintro i ⟨hi, hi1, hi2⟩
  have w0 : IntKind.i64.wrap ((p : Int) + ((i + 1 : Nat) : Int)) = ((p + (i + 1) : Nat) : Int) := by
    rw [show ((p : Int) + ((i + 1 : Nat) : Int)) = ((p + (i + 1) : Nat) : Int) by simp, wrap_nat _ (by omega)]
  simp only [go_sem, Int.reduceEq, Int.reduceLE, Int.reduceLT, Int.reduceToNat]
  by_cases h3 : ((i + 1 : Nat) : Int) ≤ 2
  case neg =>
    obtain rfl : i = 2 := by omega
    have w3 : IntKind.i64.wrap ((p : Int) + 3) = ((p + 3 : Nat) : Int) := by
      rw [show ((p : Int) + 3) = ((p + 3 : Nat) : Int) by simp, wrap_nat _ (by omega)]
    have e : pSign s p = .ok (UInt8.ofNat (16 * hexAt s (p + 1) + hexAt s (p + 2))) (p + 3) := by
      unfold pSign
      rw [if_pos h, if_pos g92, if_pos (hi1 (by omega)), if_pos (hi2 (by omega))]
    have e2 : ((UInt8.ofNat (16 * hexAt s (p + 1) + hexAt s (p + 2))).toNat : Int) = (accN s p 2 : Nat) := byte_of _ (by have := accN_le s p 2; show accN s p 2 < 256; omega)
    rw [e]
    simp only [go_sem, Int.reduceEq, Int.reduceLE, Int.reduceLT, Int.reduceToNat, h3, w3]
    refine Fin.ret (.tupL ⟨.eq ?_ (.v _), .v, trivial⟩)
    rw [e2]
  simp only [go_sem, Int.reduceEq, Int.reduceLE, Int.reduceLT, Int.reduceToNat, h3, w0]
  by_cases h4 : s.size ≤ p + (i + 1)
  · have e := pSign_bad h g92 (by omega) hi1 (isB_end (l := hexS) (by omega))
    rw [e]
    simp only [go_sem, Int.reduceEq, Int.reduceLE, Int.reduceLT, Int.reduceToNat, h4, w0]
    exact Fin.ret (.tupL ⟨.v, .v, trivial⟩)
  obtain ⟨c, hc⟩ := get_lt (s := s) (p := p + (i + 1)) (by omega)
  simp only [go_sem, Int.reduceEq, Int.reduceLE, Int.reduceLT, Int.reduceToNat, h4, w0, hc]
  refine (rValue c).pv (by simp) ?_
  by_cases h5 : firstIdx hexS c < 0
  · have e := pSign_bad h g92 (by omega) hi1 (by rw [isB_at hc]; simp; omega)
    rw [e]
    simp only [go_sem, Int.reduceEq, Int.reduceLE, Int.reduceLT, Int.reduceToNat, h5, w0]
    exact Fin.ret (.tupL ⟨.v, .v, trivial⟩)
  simp only [go_sem, Int.reduceEq, Int.reduceLE, Int.reduceLT, Int.reduceToNat, h5, w0, hc]
  refine (rValue c).pv (by simp) ?_
  have hle := hexS_le c
  have hat : (hexAt s (p + (i + 1)) : Int) = firstIdx hexS c := by unfold hexAt; rw [at_of hc]; omega
  have ha := accN_le s p i
  have ha' := accN_le s p (i + 1)
  have hs := accN_succ (s := s) (p := p) (i := i) (by omega)
  have w5 : IntKind.i64.wrap (16 * (accN s p i : Int)) = 16 * (accN s p i : Int) := wrap_int _ (by omega) (by omega)
  have w6 : IntKind.i64.wrap (16 * (accN s p i : Int) + firstIdx hexS c) = (accN s p (i + 1) : Int) := by
    rw [wrap_int _ (by omega) (by omega), hs, ← hat]; simp
  simp only [go_sem, Int.reduceEq, Int.reduceLE, Int.reduceLT, Int.reduceToNat, w5, w6]
  rw [wrap_succ (i + 1) (by omega)]
  refine ⟨i + 1, ⟨by omega, fun h' => ?_, fun h' => ?_⟩, by omega, Mv.none (by simp)⟩
  · by_cases e : i = 0
    · subst e; rw [isB_at hc]; simp; omega
    · exact hi1 (by omega)
  · obtain rfl : i = 1 := by omega
    rw [show p + 2 = p + (1 + 1) from rfl, isB_at hc]; simp; omega

theorem rBad (e : Nat) : AP Try.prog 102 [.i e] (.agg ((Re.mk 0 0 0 0 0 []).c ++ [.i e, .b true])) := by
  refine AC.lbody hT hm Try.func102 f102_nm f102_lc f102_res f102_nt ?_
  simp only [go_sem, Int.reduceEq, Int.reduceLE, Int.reduceLT, Int.reduceToNat]
  exact Fin.ret (.aggL (by simp [CvL, Re.c_mk, Re.cs_eq]))
end Go.Proofs.Yteifkcgokjmcjaa.W

set_option maxRecDepth 100000
/- The document's reader: expressions. -/
namespace Go.Proofs.Yteifkcgokjmcjaa.W
open Go Go.Proofs Go.Proofs.Yteifkcgokjmcjaa.AWP

/-- The cells of what is read. -/
def pC (r : Re) (q : Nat) (f : Bool) : List D := r.c ++ [.i q, .b f]
abbrev prC (x : PR) : List D :=
  match x with
  | .ok r q => pC r q false
  | .bad e => pC (.mk 0 0 0 0 0 []) e true
abbrev pOb (r : Re) (q : Nat) (f : Bool) : Ob := .var 72 (pC r q f)
abbrev zP : Ob := .var 72 (zRe ++ [.i 0, .b false])
@[simp] theorem pC_len (r : Re) (q : Nat) (f : Bool) : (pC r q f).length = 8 := by simp [pC]
theorem pC_take8 (r : Re) (q : Nat) (f : Bool) : (pC r q f).take 8 = pC r q f := List.take_of_length_le (by simp)
theorem pC_take6 (r : Re) (q : Nat) (f : Bool) : (pC r q f).take 6 = r.c := by
  unfold pC
  rw [List.take_append_of_le_length (by simp)]
  exact List.take_of_length_le (by simp)
theorem pC_6 (r : Re) (q : Nat) (f : Bool) : (pC r q f)[6]? = some (.i q) := by
  unfold pC; rw [List.getElem?_append_right (by simp)]; simp
theorem pC_7 (r : Re) (q : Nat) (f : Bool) : (pC r q f)[7]? = some (.b f) := by
  unfold pC; rw [List.getElem?_append_right (by simp)]; simp
theorem pC_drop0 (r : Re) (q : Nat) (f : Bool) : (pC r q f).drop 0 = pC r q f := rfl
theorem pC_bl (r : Re) (q : Nat) (f : Bool) : ∀ d ∈ pC r q f, Bl 0 d := by
  intro d hd
  unfold pC at hd
  rcases List.mem_append.1 hd with h | h
  · exact Re.c_bl r d h
  · simp at h; rcases h with rfl | rfl <;> exact .v _
theorem pC_put (r : Re) (q : Nat) (f : Bool) : obPut zP 0 (pC r q f) = some (pOb r q f) := by
  rw [obPut_var (by simp), splc_all (by simp)]
theorem pC_putR (r r' : Re) (q : Nat) (f : Bool) : obPut (pOb r q f) 0 r'.c = some (pOb r' q f) := by
  rw [obPut_var (by simp)]
  congr 2
  unfold pC splc
  simp

theorem re_take6 (r : Re) (x y : D) : List.take 6 (r.c ++ [x, y]) = r.c := by
  rw [List.take_append_of_le_length (by simp)]; exact List.take_of_length_le (by simp)
theorem re_drop7 (r : Re) (x y : D) : List.drop 7 (r.c ++ [x, y]) = [y] := by
  rw [List.drop_append, List.drop_eq_nil_of_le (by simp)]; simp
theorem pC_fold (r : Re) (q : Nat) (f : Bool) : r.c ++ [D.v (.int .i64 q), D.v (.bool f)] = pC r q f := rfl
theorem FinC {om : List Ob} {x : PR} {d : D} (h : d = .agg (prC x)) : Fin [] om (.ret d) (fun o om' => o = .ret (.agg (prC x)) ∧ om' = []) := by
  subst h
  refine Fin.ret (.same (.agg ?_))
  cases x <;> exact pC_bl _ _ _

theorem rBadP (e : Nat) : AP Try.prog 102 [.i e] (.agg (pC (.mk 0 0 0 0 0 []) e true)) := rBad e
abbrev pzRe : Re := .mk 0 0 0 0 0 []

theorem rCls (s : ByteArray) (p0 : Nat) (hs : s.size ≤ 65536) (hp0 : p0 ≤ s.size) : AP Try.prog 101 [.s s, .i p0] (.agg (prC (clsGo s noneS p0))) := by
  refine AC.lbody hT hm Try.func101 f101_nm f101_lc f101_res f101_nt ?_
  simp only [go_sem, Int.reduceEq, Int.reduceLE, Int.reduceLT, Int.reduceToNat]
  refine xl_loopM hT hm (fun i : List Int × Nat => ⟨f101_i17 (.s s) (.i i.2) (.ref 0 0) (.ref 1 0), [zP, wOb i.1]⟩)
    (fun i => W64 i.1 ∧ i.2 ≤ s.size ∧ clsGo s i.1 i.2 = clsGo s noneS p0) (fun i => s.size - i.2) (noneS, p0) ⟨W64.none, hp0, rfl⟩ (Mv.of [some 0, some 1] rfl ⟨.varS rfl (by simp), .varS rfl (W_bl _), trivial⟩ (by simp [f101_i17])) ?_
  rintro ⟨ws, p⟩ ⟨hw, hp, hc⟩
  dsimp only at hw hp hc
  have h4 := hw.len
  simp only [go_sem, Int.reduceEq, Int.reduceLE, Int.reduceLT, Int.reduceToNat]
  refine (rIs s p 93).pv ⟨.v, .v, .eq rfl (by simp), trivial⟩ ?_
  simp only [go_sem, Int.reduceEq, Int.reduceLE, Int.reduceLT, Int.reduceToNat]
  cases hb : isB s p cRb
  case true =>
    have lt := isB_lt hb
    rw [clsGo, if_pos hb] at hc
    have h2 := wrap_succ p (by omega)
    simp only [go_sem, Int.reduceEq, Int.reduceLE, Int.reduceLT, Int.reduceToNat, h2, h4, W_take h4, W_drop0]
    refine (rReOf ws h4).pd ⟨.same (.agg (W_bl _)), trivial⟩ (Re.d_bl _) ?_
    simp only [go_sem, Int.reduceEq, Int.reduceLE, Int.reduceLT, Int.reduceToNat, h2, re_take6, re_drop7, pC_fold, pC_len, pC_put, pC_take8, pC_drop0]
    rw [← hc]
    exact FinC rfl
  rw [clsGo, if_neg (by rw [hb]; simp)] at hc
  simp only [go_sem, Int.reduceEq, Int.reduceLE, Int.reduceLT, Int.reduceToNat]
  refine (rSgn s p hs).pd ⟨.v, .v, trivial⟩ (by cases pSign s p <;> simp [sgD]) ?_
  cases hsg : pSign s p
  case bad e =>
    simp only [go_sem, Int.reduceEq, Int.reduceLE, Int.reduceLT, Int.reduceToNat]
    refine (rBadP e).pd ⟨.v, trivial⟩ (.agg (pC_bl _ _ _)) ?_
    rw [hsg] at hc
    rw [← hc]
    simp only [go_sem, Int.reduceEq, Int.reduceLE, Int.reduceLT, Int.reduceToNat, pC_len, pC_put, pC_take8, pC_drop0]
    exact FinC rfl
  rename_i lo q
  have hq := pSign_lt hsg
  rw [hsg] at hc
  simp only [hq, and_self, dif_pos] at hc
  have nlo : ¬ (lo.toNat : Int) < 0 := by omega
  simp only [go_sem, Int.reduceEq, Int.reduceLE, Int.reduceLT, Int.reduceToNat]
  simp only [go_sem, Int.reduceEq, Int.reduceLE, Int.reduceLT, Int.reduceToNat, nlo]
  refine (rIs s q 45).pv ⟨.v, .v, .eq rfl (by simp), trivial⟩ ?_
  simp only [go_sem, Int.reduceEq, Int.reduceLE, Int.reduceLT, Int.reduceToNat]
  cases hd : isB s q cDash
  case false =>
    rw [if_neg (by rw [hd]; simp)] at hc
    simp only [go_sem, Int.reduceEq, Int.reduceLE, Int.reduceLT, Int.reduceToNat, h4, W_take h4, W_drop0]
    refine (rRange lo.toNat lo.toNat (by have := lo.toNat_lt; omega) (by have := lo.toNat_lt; omega)).qd ⟨.v, .v, trivial⟩ (.agg (W_bl _)) ?_
    have hr := rangeS_w lo.toNat (lo.toNat + 1 - lo.toNat) (by have := lo.toNat_lt; omega)
    generalize rangeS lo.toNat (lo.toNat + 1 - lo.toNat) = rs at hr hc
    simp only [go_sem, Int.reduceEq, Int.reduceLE, Int.reduceLT, Int.reduceToNat]
    refine (rJoin ws rs hw hr).pd ⟨.same (.agg (W_bl _)), .same (.agg (W_bl _)), trivial⟩ (.agg (W_bl _)) ?_
    have hjw := hw.joinAll2 hr
    have hjl := hjw.len
    have hpt := W_put (ty := 25) h4 hjl
    simp only [go_sem, Int.reduceEq, Int.reduceLE, Int.reduceLT, Int.reduceToNat, hjl, hpt]
    exact ⟨(joinAll [ws, rs], q), ⟨hjw, by dsimp only; omega, hc⟩, by dsimp only; omega, Mv.of [some 0, some 1] rfl ⟨.varS rfl (by simp), .varS rfl (W_bl _), trivial⟩ (by simp [f101_i17])⟩
  have ltq := isB_lt hd
  have hw2 := wrap_succ q (by omega)
  rw [if_pos hd] at hc
  simp only [go_sem, Int.reduceEq, Int.reduceLE, Int.reduceLT, Int.reduceToNat, hw2]
  refine (rSgn s (q + 1) hs).pd ⟨.v, .v, trivial⟩ (by cases pSign s (q + 1) <;> simp [sgD]) ?_
  cases hsg' : pSign s (q + 1)
  case bad e =>
    simp only [go_sem, Int.reduceEq, Int.reduceLE, Int.reduceLT, Int.reduceToNat]
    refine (rBadP e).pd ⟨.v, trivial⟩ (.agg (pC_bl _ _ _)) ?_
    rw [hsg'] at hc
    rw [← hc]
    simp only [go_sem, Int.reduceEq, Int.reduceLE, Int.reduceLT, Int.reduceToNat, pC_len, pC_put, pC_take8, pC_drop0]
    exact FinC rfl
  rename_i hi q'
  have hq' := pSign_lt hsg'
  rw [hsg'] at hc
  have lt' : p < q' ∧ q' ≤ s.size := by omega
  simp only [lt', and_self, dif_pos] at hc
  have nhi : ¬ (hi.toNat : Int) < 0 := by omega
  simp only [go_sem, Int.reduceEq, Int.reduceLE, Int.reduceLT, Int.reduceToNat]
  simp only [go_sem, Int.reduceEq, Int.reduceLE, Int.reduceLT, Int.reduceToNat, nhi]
  by_cases hlo : hi.toNat < lo.toNat
  · rw [if_pos hlo] at hc
    simp only [go_sem, Int.reduceEq, Int.reduceLE, Int.reduceLT, Int.reduceToNat, hlo, hw2]
    refine (rBadP (q + 1)).pd ⟨.v, trivial⟩ (.agg (pC_bl _ _ _)) ?_
    rw [← hc]
    simp only [go_sem, Int.reduceEq, Int.reduceLE, Int.reduceLT, Int.reduceToNat, pC_len, pC_put, pC_take8, pC_drop0]
    exact FinC rfl
  rw [if_neg hlo] at hc
  simp only [go_sem, Int.reduceEq, Int.reduceLE, Int.reduceLT, Int.reduceToNat, hlo, h4, W_take h4, W_drop0]
  refine (rRange lo.toNat hi.toNat (by have := lo.toNat_lt; omega) (by have := hi.toNat_lt; omega)).qd ⟨.v, .v, trivial⟩ (.agg (W_bl _)) ?_
  have hr := rangeS_w lo.toNat (hi.toNat + 1 - lo.toNat) (by have := hi.toNat_lt; omega)
  generalize rangeS lo.toNat (hi.toNat + 1 - lo.toNat) = rs at hr hc
  simp only [go_sem, Int.reduceEq, Int.reduceLE, Int.reduceLT, Int.reduceToNat]
  refine (rJoin ws rs hw hr).pd ⟨.same (.agg (W_bl _)), .same (.agg (W_bl _)), trivial⟩ (.agg (W_bl _)) ?_
  have hjw := hw.joinAll2 hr
  have hjl := hjw.len
  have hpt := W_put (ty := 25) h4 hjl
  simp only [go_sem, Int.reduceEq, Int.reduceLE, Int.reduceLT, Int.reduceToNat, hjl, hpt]
  exact ⟨(joinAll [ws, rs], q'), ⟨hjw, by dsimp only; omega, hc⟩, by dsimp only; omega, Mv.of [some 0, some 1] rfl ⟨.varS rfl (by simp), .varS rfl (W_bl _), trivial⟩ (by simp [f101_i17])⟩
end Go.Proofs.Yteifkcgokjmcjaa.W

set_option maxRecDepth 100000
/- The document's reader: atoms, rows, alternatives. -/
namespace Go.Proofs.Yteifkcgokjmcjaa.W
open Go Go.Proofs Go.Proofs.Yteifkcgokjmcjaa.AWP
attribute [local irreducible] xl hide aop aops aopQ qops guardP condP

theorem prC_bl (x : PR) : Bl 0 (.agg (prC x)) := by cases x <;> exact .agg (pC_bl _ _ _)
theorem rAll : AP Try.prog 100 [.i 0, .i 255] (Ws (rangeS 0 256)) := rRange 0 255 (by omega) (by omega)

theorem rAtom (A : Nat → PR) (s : ByteArray) (p : Nat) (hs : s.size ≤ 65536) (hp : p ≤ s.size) (HA : ∀ q, p < q → q ≤ s.size → AP Try.prog 47 [.s s, .i q] (.agg (prC (A q)))) :
    AP Try.prog 89 [.s s, .i p] (.agg (prC (pAtom A s p))) := by
  unfold pAtom
  refine AC.lbody hT hm Try.func89 f89_nm f89_lc f89_res f89_nt ?_
  simp only [go_sem, Int.reduceEq, Int.reduceLE, Int.reduceLT, Int.reduceToNat]
  refine (rIs s p 46).pv ⟨.v, .v, .eq rfl (by simp), trivial⟩ ?_
  simp only [go_sem, Int.reduceEq, Int.reduceLE, Int.reduceLT, Int.reduceToNat]
  cases h1 : isB s p cDot
  case true =>
    have lt := isB_lt h1
    have hw := wrap_succ p (by omega)
    have hl := rangeS_len 0 256
    simp only [go_sem, Int.reduceEq, Int.reduceLE, Int.reduceLT, Int.reduceToNat, hw]
    refine rAll.pd ⟨.v, .v, trivial⟩ (.agg (W_bl _)) ?_
    generalize rangeS 0 256 = ws at hl
    simp only [go_sem, Int.reduceEq, Int.reduceLE, Int.reduceLT, Int.reduceToNat]
    refine (rReOf ws hl).pd ⟨.same (.agg (W_bl _)), trivial⟩ (Re.d_bl _) ?_
    simp only [go_sem, Int.reduceEq, Int.reduceLE, Int.reduceLT, Int.reduceToNat, hw, re_take6, re_drop7, pC_fold, pC_len, pC_put, pC_take8, pC_drop0]
    exact FinC rfl
  simp only [go_sem, Int.reduceEq, Int.reduceLE, Int.reduceLT, Int.reduceToNat]
  refine (rIs s p 91).pv ⟨.v, .v, .eq rfl (by simp), trivial⟩ ?_
  simp only [go_sem, Int.reduceEq, Int.reduceLE, Int.reduceLT, Int.reduceToNat]
  cases h2 : isB s p cLb
  case true =>
    have lt := isB_lt h2
    have hw := wrap_succ p (by omega)
    simp only [go_sem, Int.reduceEq, Int.reduceLE, Int.reduceLT, Int.reduceToNat, hw]
    refine (rCls s (p + 1) hs lt).pd ⟨.v, .v, trivial⟩ (prC_bl _) ?_
    cases hc : clsGo s noneS (p + 1) <;>
    · simp only [go_sem, Int.reduceEq, Int.reduceLE, Int.reduceLT, Int.reduceToNat, pC_len, pC_put, pC_take8, pC_drop0]
      exact FinC rfl
  simp only [go_sem, Int.reduceEq, Int.reduceLE, Int.reduceLT, Int.reduceToNat]
  refine (rIs s p 40).pv ⟨.v, .v, .eq rfl (by simp), trivial⟩ ?_
  simp only [go_sem, Int.reduceEq, Int.reduceLE, Int.reduceLT, Int.reduceToNat]
  cases h3 : isB s p cLp
  case true =>
    have lt := isB_lt h3
    have hw := wrap_succ p (by omega)
    simp only [go_sem, Int.reduceEq, Int.reduceLE, Int.reduceLT, Int.reduceToNat, hw]
    refine (rIs s (p + 1) 41).pv ⟨.v, .v, .eq rfl (by simp), trivial⟩ ?_
    simp only [go_sem, Int.reduceEq, Int.reduceLE, Int.reduceLT, Int.reduceToNat]
    cases h4 : isB s (p + 1) cRp
    case true =>
      have lt := isB_lt h4
      have hw2 : IntKind.i64.wrap ((p : Int) + 2) = ((p + 2 : Nat) : Int) := by
        rw [show ((p : Int) + 2) = ((p + 2 : Nat) : Int) by simp, wrap_nat _ (by omega)]
      simp only [go_sem, Int.reduceEq, Int.reduceLE, Int.reduceLT, Int.reduceToNat]
      refine (bare 2).pd (by simp) (Re.d_bl _) ?_
      generalize Re.mk 2 0 0 0 0 [] = r
      simp only [go_sem, Int.reduceEq, Int.reduceLE, Int.reduceLT, Int.reduceToNat, hw2, re_take6, re_drop7, pC_fold, pC_len, pC_put, pC_take8, pC_drop0]
      exact FinC rfl
    simp only [go_sem, Int.reduceEq, Int.reduceLE, Int.reduceLT, Int.reduceToNat, hw]
    refine (HA (p + 1) (by omega) (by omega)).pd ⟨.v, .v, trivial⟩ (prC_bl _) ?_
    cases hc : A (p + 1)
    case bad e =>
      simp only [go_sem, Int.reduceEq, Int.reduceLE, Int.reduceLT, Int.reduceToNat, pC_len, pC_put, pC_take8, pC_drop0]
      simp only [go_sem, Int.reduceEq, Int.reduceLE, Int.reduceLT, Int.reduceToNat, pC_7, pC_len, pC_put, pC_take8, pC_drop0]
      exact FinC rfl
    rename_i r q
    simp only [go_sem, Int.reduceEq, Int.reduceLE, Int.reduceLT, Int.reduceToNat, pC_len, pC_put, pC_take8, pC_drop0]
    simp only [go_sem, Int.reduceEq, Int.reduceLE, Int.reduceLT, Int.reduceToNat, pC_7, pC_6, pC_len, pC_put, pC_take8, pC_take6, pC_drop0]
    refine (rIs s q 41).pv ⟨.v, .v, .eq rfl (by simp), trivial⟩ ?_
    simp only [go_sem, Int.reduceEq, Int.reduceLE, Int.reduceLT, Int.reduceToNat]
    cases h5 : isB s q cRp
    case false =>
      simp only [go_sem, Int.reduceEq, Int.reduceLE, Int.reduceLT, Int.reduceToNat, pC_6]
      refine (rBadP q).pd ⟨.v, trivial⟩ (.agg (pC_bl _ _ _)) ?_
      simp only [go_sem, Int.reduceEq, Int.reduceLE, Int.reduceLT, Int.reduceToNat, pC_len, pC_put, pC_take8, pC_drop0]
      exact FinC rfl
    have lt5 := isB_lt h5
    have hw5 := wrap_succ q (by omega)
    simp only [go_sem, Int.reduceEq, Int.reduceLE, Int.reduceLT, Int.reduceToNat, pC_6, pC_len, pC_take6, pC_drop0, hw5, re_take6, re_drop7, pC_fold, pC_put, pC_take8]
    exact FinC rfl
  simp only [go_sem, Int.reduceEq, Int.reduceLE, Int.reduceLT, Int.reduceToNat]
  refine (rSgn s p hs).pd ⟨.v, .v, trivial⟩ (by cases pSign s p <;> simp [sgD]) ?_
  cases hsg : pSign s p
  case bad e =>
    simp only [go_sem, Int.reduceEq, Int.reduceLE, Int.reduceLT, Int.reduceToNat]
    refine (rBadP e).pd ⟨.v, trivial⟩ (.agg (pC_bl _ _ _)) ?_
    simp only [go_sem, Int.reduceEq, Int.reduceLE, Int.reduceLT, Int.reduceToNat, pC_len, pC_put, pC_take8, pC_drop0]
    exact FinC rfl
  rename_i b q
  have nb : ¬ (b.toNat : Int) < 0 := by omega
  have eb : IntKind.u8.wrap (b.toNat : Int) = b.toNat := by rw [IntKind.wrap_u8]; have := b.toNat_lt; omega
  simp only [go_sem, Int.reduceEq, Int.reduceLE, Int.reduceLT, Int.reduceToNat]
  simp only [go_sem, Int.reduceEq, Int.reduceLE, Int.reduceLT, Int.reduceToNat, nb, eb]
  have hl := ofS_len [b]
  refine (rOf [b] (by simp)).pd ⟨.eq rfl (by simp), trivial⟩ (.agg (W_bl _)) ?_
  generalize ofS [b] = ws at hl
  simp only [go_sem, Int.reduceEq, Int.reduceLE, Int.reduceLT, Int.reduceToNat]
  refine (rReOf ws hl).pd ⟨.same (.agg (W_bl _)), trivial⟩ (Re.d_bl _) ?_
  simp only [go_sem, Int.reduceEq, Int.reduceLE, Int.reduceLT, Int.reduceToNat, re_take6, re_drop7, pC_fold, pC_len, pC_put, pC_take8, pC_drop0]
  exact FinC rfl

theorem isB_atom (s : ByteArray) (p : Nat) : isB s p cAtom = (isB s p cDot || isB s p cLb || isB s p cLp) := by
  by_cases h : p < s.size
  · obtain ⟨b, hb⟩ := get_lt h
    rw [isB_at hb, isB_at hb, isB_at hb, isB_at hb]
    exact all_ofNat (p := fun b => decide (0 ≤ firstIdx cAtom b) = (decide (0 ≤ firstIdx cDot b) || decide (0 ≤ firstIdx cLb b) || decide (0 ≤ firstIdx cLp b))) (by decide +kernel) b
  · rw [isB_end h, isB_end h, isB_end h, isB_end h]; rfl

theorem mvRow {l : List Re} {k : Nat} {om : List Ob} {F : Nat → Bool} (h1 : om[0]? = some zP) (h2 : om[k]? = some (lsOb l)) : MvL om F [some 0, some k] [some 0, some k] [zP, lsOb l] :=
  ⟨.varS h1 (by simp), .slcS h2 (Re.map_bl l), trivial⟩
theorem mvStar {l : List Re} {r : Re} {q : Nat} {om : List Ob} {F : Nat → Bool} (h1 : om[0]? = some zP) (h2 : om[1]? = some (lsOb l)) (h3 : om[2]? = some (pOb r q false)) : MvL om F [some 0, some 1, some 2] [some 0, some 1, some 2] [zP, lsOb l, pOb r q false] :=
  ⟨.varS h1 (by simp), .slcS h2 (Re.map_bl l), .varS h3 (pC_bl _ _ _), trivial⟩

set_option maxHeartbeats 2000000 in
theorem rRow (A : Nat → PR) (s : ByteArray) (p : Nat) (hs : s.size ≤ 65536) (hp : p ≤ s.size) (hA : Fwd A s) (HA : ∀ q, p < q → q ≤ s.size → AP Try.prog 47 [.s s, .i q] (.agg (prC (A q)))) :
    AP Try.prog 74 [.s s, .i p] (.agg (prC (pRow A s p))) := by
  refine AC.lbody hT hm Try.func74 f74_nm f74_lc f74_res f74_nt ?_
  simp only [go_sem, Int.reduceEq, Int.reduceLE, Int.reduceLT, Int.reduceToNat]
  refine xl_loopM hT hm (fun i : List Re × Nat => ⟨f74_i12 (.s s) (.i i.2) (.ref 0 0) (.own 1), [zP, lsOb i.1]⟩)
    (fun i => i.2 ≤ s.size ∧ p ≤ i.2 ∧ i.1.length ≤ i.2 ∧ ((i.1 = [] ∧ i.2 = p) ∨ (i.1 ≠ [] ∧ pRow A s p = rowGo A s i.1 i.2))) (fun i => s.size - i.2) ([], p) ⟨hp, Nat.le_refl _, Nat.zero_le _, .inl ⟨rfl, rfl⟩⟩ ?_ ?_
  · exact Mv.of [some 0, some 1] rfl (mvRow rfl rfl) (by simp [f74_i12])
  rintro ⟨l, q⟩ ⟨hq, hpq, hlen, hst⟩
  dsimp only at hq hpq hlen hst
  have HA' : ∀ q', q < q' → q' ≤ s.size → AP Try.prog 47 [.s s, .i q'] (.agg (prC (A q'))) := fun q' h h' => HA q' (by omega) h'
  have go : (l = [] ∨ (isB s q cAtom || begB s q) = true) → pRow A s p = match pPart A s q with
      | .bad e => .bad e
      | .ok r q' => rowGo A s (l ++ [r]) q' := by
    intro h
    rcases hst with ⟨rfl, rfl⟩ | ⟨hl, hst⟩
    · unfold pRow
      cases pPart A s q <;> rfl
    · have h := h.resolve_left hl
      rw [hst, rowGo, if_pos h]
      cases hpp : pPart A s q with
      | bad e => rfl
      | ok r q' =>
        dsimp only
        rw [dif_pos (pPart_lt hA hpp)]
  simp only [go_sem, Int.reduceEq, Int.reduceLE, Int.reduceLT, Int.reduceToNat]
  by_cases hl : l = []
  case' pos =>
    have t0 : ((l.length : Int) == 0) = true := by rw [hl]; rfl
    have go := go (.inl hl)
    simp only [go_sem, Int.reduceEq, Int.reduceLE, Int.reduceLT, Int.reduceToNat, t0]
  case' neg =>
    have n0 : ((l.length : Int) == 0) = false := AWP.beq_false (by have := List.length_pos_iff.2 hl; omega)
    have go := fun h => go (.inr h)
    rw [isB_atom] at go
    simp only [go_sem, Int.reduceEq, Int.reduceLE, Int.reduceLT, Int.reduceToNat, n0]
    refine (rIs s q 46).pv ⟨.v, .v, .eq rfl (by simp), trivial⟩ ?_
    simp only [go_sem, Int.reduceEq, Int.reduceLE, Int.reduceLT, Int.reduceToNat]
    cases h1 : isB s q cDot
  case' neg.true =>
    have go := go (by rw [h1]; rfl)
    simp only [go_sem, Int.reduceEq, Int.reduceLE, Int.reduceLT, Int.reduceToNat]
  case' neg.false =>
    simp only [go_sem, Int.reduceEq, Int.reduceLE, Int.reduceLT, Int.reduceToNat]
    refine (rIs s q 91).pv ⟨.v, .v, .eq rfl (by simp), trivial⟩ ?_
    simp only [go_sem, Int.reduceEq, Int.reduceLE, Int.reduceLT, Int.reduceToNat]
    cases h2 : isB s q cLb
  case' neg.false.true =>
    have go := go (by rw [h1, h2]; rfl)
    simp only [go_sem, Int.reduceEq, Int.reduceLE, Int.reduceLT, Int.reduceToNat]
  case' neg.false.false =>
    simp only [go_sem, Int.reduceEq, Int.reduceLE, Int.reduceLT, Int.reduceToNat]
    refine (rIs s q 40).pv ⟨.v, .v, .eq rfl (by simp), trivial⟩ ?_
    simp only [go_sem, Int.reduceEq, Int.reduceLE, Int.reduceLT, Int.reduceToNat]
    cases h3 : isB s q cLp
  case' neg.false.false.true =>
    have go := go (by rw [h1, h2, h3]; rfl)
    simp only [go_sem, Int.reduceEq, Int.reduceLE, Int.reduceLT, Int.reduceToNat]
  case' neg.false.false.false =>
    simp only [go_sem, Int.reduceEq, Int.reduceLE, Int.reduceLT, Int.reduceToNat]
    refine (rBegins s q hs).pv ⟨.v, .v, trivial⟩ ?_
    simp only [go_sem, Int.reduceEq, Int.reduceLE, Int.reduceLT, Int.reduceToNat]
    cases h4 : begB s q
  case neg.false.false.false.false =>
    have hst := (hst.resolve_left fun h => hl h.1).2
    rw [rowGo, isB_atom, if_neg (by rw [h1, h2, h3, h4]; simp)] at hst
    rw [hst]
    simp only [go_sem, Int.reduceEq, Int.reduceLE, Int.reduceLT, Int.reduceToNat]
    refine (rFold 4 l (by omega)).callF (fun k => k == 1) ⟨.v, cvLs rfl rfl, trivial⟩ (Re.d_bl _) ?_
    have ef : frzL (fun k => k == 1) [zP, lsOb l] = [zP, .frz 6 (l.map Re.c)] := rfl
    rw [show noK 4 = 2 from rfl]
    generalize foldL 4 2 l = r
    simp only [go_sem, Int.reduceEq, Int.reduceLE, Int.reduceLT, Int.reduceToNat, ef, re_take6, re_drop7, pC_fold, pC_len, pC_put, pC_take8, pC_drop0]
    exact FinC rfl
  case' neg.false.false.false.true =>
    have go := go (by rw [h1, h2, h3, h4]; rfl)
    simp only [go_sem, Int.reduceEq, Int.reduceLE, Int.reduceLT, Int.reduceToNat]
  all_goals
    refine (rAtom A s q hs hq HA').pd ⟨.v, .v, trivial⟩ (prC_bl _) ?_
    unfold pPart at go
    cases hc : pAtom A s q
    case bad e =>
      rw [hc] at go
      rw [go]
      simp only [go_sem, Int.reduceEq, Int.reduceLE, Int.reduceLT, Int.reduceToNat, pC_7, pC_len, pC_put, pC_take8, pC_drop0]
      exact FinC rfl
    rename_i r0 q0
    rw [hc] at go
    dsimp only at go
    have hq0 := pAtom_lt hA hc
    simp only [go_sem, Int.reduceEq, Int.reduceLE, Int.reduceLT, Int.reduceToNat, pC_7, pC_6, pC_len, pC_put, pC_take8, pC_drop0]
    refine xl_loopM hT hm (fun i : Re × Nat => ⟨f74_i10 (.s s) (.i i.2) (.ref 0 0) (.own 1) (.ref 2 0), [zP, lsOb l, pOb i.1 q0 false]⟩)
      (fun i => i.2 ≤ s.size ∧ q0 ≤ i.2 ∧ starGo s i.1 i.2 = starGo s r0 q0) (fun i => s.size - i.2) (r0, q0) ⟨hq0.2, Nat.le_refl _, rfl⟩ (Mv.of [some 0, some 1, some 2] rfl (mvStar rfl rfl rfl) (by simp [f74_i10])) ?_
    rintro ⟨r, q2⟩ ⟨hq2, hq02, hstar⟩
    dsimp only at hq2 hq02 hstar
    simp only [go_sem, Int.reduceEq, Int.reduceLE, Int.reduceLT, Int.reduceToNat]
    refine (rIs s q2 42).pv ⟨.v, .v, .eq rfl (by simp), trivial⟩ ?_
    simp only [go_sem, Int.reduceEq, Int.reduceLE, Int.reduceLT, Int.reduceToNat]
    cases h5 : isB s q2 cStar
    case false =>
      rw [starGo, dif_neg (by rw [h5]; simp)] at hstar
      rw [← hstar] at go
      simp only [go_sem, Int.reduceEq, Int.reduceLE, Int.reduceLT, Int.reduceToNat, pC_len, pC_take6, pC_drop0]
      exact ⟨by omega, (l ++ [r], q2), ⟨hq2, by dsimp only; omega, by simp; omega, .inr ⟨by simp, go⟩⟩, by dsimp only; omega, Mv.of [some 0, some 3] rfl (mvRow rfl (by simp)) (by simp [f74_i12])⟩
    have lt := isB_lt h5
    have hw := wrap_succ q2 (by omega)
    rw [starGo, dif_pos h5] at hstar
    simp only [go_sem, Int.reduceEq, Int.reduceLE, Int.reduceLT, Int.reduceToNat, hw, pC_len, pC_take6, pC_drop0]
    refine (many r).pd ⟨.same (Re.d_bl _), trivial⟩ (Re.d_bl _) ?_
    generalize Re.mk 6 0 0 0 0 [r] = r' at hstar
    simp only [go_sem, Int.reduceEq, Int.reduceLE, Int.reduceLT, Int.reduceToNat, hw, pC_putR]
    exact ⟨(r', q2 + 1), ⟨lt, by dsimp only; omega, hstar⟩, by dsimp only; omega, Mv.of [some 0, some 1, some 2] rfl (mvStar rfl rfl rfl) (by simp [f74_i10])⟩

theorem rAlt1 (A : Nat → PR) (s : ByteArray) (p : Nat) (hs : s.size ≤ 65536) (hp : p ≤ s.size) (hA : Fwd A s) (HA : ∀ q, p < q → q ≤ s.size → AP Try.prog 47 [.s s, .i q] (.agg (prC (A q)))) :
    AP Try.prog 47 [.s s, .i p] (.agg (prC (pAlt A s p))) := by
  refine AC.lbody hT hm Try.func47 f47_nm f47_lc f47_res f47_nt ?_
  simp only [go_sem, Int.reduceEq, Int.reduceLE, Int.reduceLT, Int.reduceToNat]
  refine xl_loopM hT hm (fun i : List Re × Nat => ⟨f47_i10 (.s s) (.i i.2) (.ref 0 0) (.own 1), [zP, lsOb i.1]⟩)
    (fun i => i.2 ≤ s.size ∧ p ≤ i.2 ∧ i.1.length ≤ i.2 ∧ pAlt A s p = match pRow A s i.2 with
      | .bad e => .bad e
      | .ok r q' => altGo A s (i.1 ++ [r]) q') (fun i => s.size - i.2) ([], p) ⟨hp, Nat.le_refl _, Nat.zero_le _, by unfold pAlt; cases pRow A s p <;> rfl⟩ (Mv.of [some 0, some 1] rfl (mvRow rfl rfl) (by simp [f47_i10])) ?_
  rintro ⟨l, q⟩ ⟨hq, hpq, hlen, go⟩
  dsimp only at hq hpq hlen go
  have HA' : ∀ q', q < q' → q' ≤ s.size → AP Try.prog 47 [.s s, .i q'] (.agg (prC (A q'))) := fun q' h h' => HA q' (by omega) h'
  simp only [go_sem, Int.reduceEq, Int.reduceLE, Int.reduceLT, Int.reduceToNat]
  refine (rRow A s q hs hq hA HA').pd ⟨.v, .v, trivial⟩ (prC_bl _) ?_
  cases hc : pRow A s q
  case bad e =>
    rw [hc] at go
    rw [go]
    simp only [go_sem, Int.reduceEq, Int.reduceLE, Int.reduceLT, Int.reduceToNat, pC_7, pC_len, pC_put, pC_take8, pC_drop0]
    exact FinC rfl
  rename_i r q'
  rw [hc] at go
  dsimp only at go
  have hq' := pRow_lt hA hc
  simp only [go_sem, Int.reduceEq, Int.reduceLE, Int.reduceLT, Int.reduceToNat, pC_7, pC_6, pC_len, pC_put, pC_take6, pC_take8, pC_drop0]
  refine ⟨by omega, ?_⟩
  refine (rIs s q' 124).pv ⟨.v, .v, .eq rfl (by simp), trivial⟩ ?_
  simp only [go_sem, Int.reduceEq, Int.reduceLE, Int.reduceLT, Int.reduceToNat]
  have el : lsOb (l ++ [r]) = .slc 28 6 (l.map Re.c ++ [r.c]) := by simp
  cases h1 : isB s q' cBar
  case false =>
    rw [altGo, if_neg (by rw [h1]; simp)] at go
    rw [go]
    simp only [go_sem, Int.reduceEq, Int.reduceLE, Int.reduceLT, Int.reduceToNat]
    refine (rFold 5 (l ++ [r]) (by simp; omega)).callF (fun k => k == 3) ⟨.v, cvLs (by rw [el]; rfl) rfl, trivial⟩ (Re.d_bl _) ?_
    have ef : frzL (fun k => k == 3) [zP, Ob.dead, .var 72 (prC (PR.ok r q')), .slc 28 6 (l.map Re.c ++ [r.c])] = [zP, Ob.dead, .var 72 (prC (PR.ok r q')), .frz 6 (l.map Re.c ++ [r.c])] := rfl
    rw [show noK 5 = 1 from rfl]
    generalize foldL 5 1 (l ++ [r]) = z
    simp only [go_sem, Int.reduceEq, Int.reduceLE, Int.reduceLT, Int.reduceToNat, ef, re_take6, re_drop7, pC_fold, pC_len, pC_put, pC_take8, pC_drop0]
    exact FinC rfl
  rw [altGo, if_pos h1] at go
  have lt := isB_lt h1
  have hw := wrap_succ q' (by omega)
  simp only [go_sem, Int.reduceEq, Int.reduceLE, Int.reduceLT, Int.reduceToNat, hw]
  refine ⟨(l ++ [r], q' + 1), ⟨lt, by dsimp only; omega, by simp; omega, ?_⟩, by dsimp only; omega, Mv.of [some 0, some 3] rfl (mvRow rfl (by simp)) (by simp [f47_i10])⟩
  rw [go]
  cases hc' : pRow A s (q' + 1) with
  | bad e => rfl
  | ok r' q'' =>
    dsimp only
    have := pRow_lt hA hc'
    rw [dif_pos (by omega)]

theorem rAlt (s : ByteArray) (hs : s.size ≤ 65536) : ∀ (n p : Nat), s.size - p ≤ n → p ≤ s.size → AP Try.prog 47 [.s s, .i p] (.agg (prC (altF s p))) := by
  intro n
  induction n with
  | zero =>
    intro p hn hp
    rw [altF_eq]
    exact rAlt1 _ s p hs hp (altA_fwd s p) fun q h h' => by omega
  | succ n ih =>
    intro p hn hp
    rw [altF_eq]
    refine rAlt1 _ s p hs hp (altA_fwd s p) fun q h h' => ?_
    unfold altA
    rw [if_pos ⟨h, h'⟩]
    exact ih q (by omega) h'
end Go.Proofs.Yteifkcgokjmcjaa.W

set_option maxRecDepth 100000
/- Which expressions may be: the program's way. -/
namespace Go.Proofs.Yteifkcgokjmcjaa.W
open Go Go.Proofs Go.Proofs.Yteifkcgokjmcjaa.AWP
attribute [local irreducible] xl hide aop aops aopQ qops guardP condP

theorem size1 (l : List Re) (hz : Re.szs l ≤ 1099511627776) (ih : ∀ x ∈ l, AP Try.prog 73 [Res x.kids] (.i (Re.szs x.kids : Nat))) : AP Try.prog 73 [Res l] (.i (Re.szs l : Nat)) := by
  have hl := Re.len_szs l
  refine AC.lbody hT hm Try.func73 f73_nm f73_lc f73_res f73_nt ?_
  simp only [go_sem, Int.reduceEq, Int.reduceLE, Int.reduceLT, Int.reduceToNat]
  refine xl_loopM hT hm (fun i : Nat => ⟨f73_i7 (.i (l.length + Re.szs (l.take i) - i : Nat)) (Res l) (.i l.length) (.i i), []⟩)
    (fun i => i ≤ l.length) (fun i => l.length - i) 0 (Nat.zero_le _) (Mv.none (by simp [f73_i7, Re.szs])) ?_
  intro i hi
  simp only [go_sem, Int.reduceEq, Int.reduceLE, Int.reduceLT, Int.reduceToNat]
  by_cases h : i < l.length
  case neg =>
    have ht : l.take i = l := List.take_of_length_le (by omega)
    simp only [go_sem, Int.reduceEq, Int.reduceLE, Int.reduceLT, Int.reduceToNat, h]
    refine Fin.v ?_
    rw [ht]
    congr 2
    omega
  obtain ⟨x, hx⟩ := get_ex h
  have h1 := Re.szs_take hx
  have h2 := Re.szs_take_le l (i + 1)
  have h3 := Re.len_szs (l.take i)
  have h4 : (l.take i).length = i := by simp; omega
  simp only [go_sem, Int.reduceEq, Int.reduceLE, Int.reduceLT, Int.reduceToNat, h, hx, Re.c_5]
  refine (ih x (List.mem_of_getElem? hx)).pv ⟨.same (by simp), trivial⟩ ?_
  have e : IntKind.i64.wrap (((l.length + Re.szs (l.take i) - i : Nat) : Int) + (Re.szs x.kids : Nat)) = ((l.length + Re.szs (l.take (i + 1)) - (i + 1) : Nat) : Int) := by
    rw [wrap_int _ (by omega) (by omega)]; omega
  simp only [go_sem, Int.reduceEq, Int.reduceLE, Int.reduceLT, Int.reduceToNat, e]
  rw [wrap_succ i (by omega)]
  exact ⟨i + 1, h, by omega, Mv.none (by simp)⟩

theorem sizeK (r : Re) : Re.szs r.kids ≤ 1099511627776 → AP Try.prog 73 [Res r.kids] (.i (Re.szs r.kids : Nat)) := by
  refine Re.ind (p := fun r => Re.szs r.kids ≤ 1099511627776 → AP Try.prog 73 [Res r.kids] (.i (Re.szs r.kids : Nat))) ?_ r
  intro k a b c d ks ih hz
  refine size1 ks hz fun x hx => ih x hx ?_
  have := Re.sz_mem hx
  have h2 := x.sz_kids
  have hz : Re.szs ks ≤ 1099511627776 := hz
  omega
theorem size (l : List Re) (hz : Re.szs l ≤ 1099511627776) : AP Try.prog 73 [Res l] (.i (Re.szs l : Nat)) := sizeK (.mk 0 0 0 0 0 l) hz

/-! ### Is one of some so? -/
def idxI {α : Type} (p : α → Bool) (l : List α) : Int :=
  match l.findIdx? p with
  | some i => i
  | none => -1
theorem idxI_nn {α : Type} (p : α → Bool) (l : List α) : decide (0 ≤ idxI p l) = l.any p := by
  unfold idxI
  cases h : l.findIdx? p with
  | none =>
    rw [List.findIdx?_eq_none_iff] at h
    have : l.any p = false := by rw [List.any_eq_false]; intro x hx; simp [h x hx]
    rw [this]; rfl
  | some i =>
    have := List.findIdx?_eq_some_iff_findIdx_eq.1 h
    have hp : l.any p = true := by
      rw [List.any_eq_true]
      exact ⟨l[i]'this.1, List.getElem_mem _, by have := (List.findIdx?_eq_some_iff_getElem.1 h).2.1; exact this⟩
    rw [hp]; simp

theorem idxRe (G : FuncId) (p : Re → Bool) (l : List Re) (hl : l.length ≤ 9223372036854775807) (H : ∀ x ∈ l, AP Try.prog G [.agg x.c] (.b (p x))) : AP Try.prog 66 [Res l, .fn G []] (.i (idxI p l)) := by
  refine AC.lbody hT hm Try.func66 f66_nm f66_lc f66_res f66_nt ?_
  simp only [go_sem, Int.reduceEq, Int.reduceLE, Int.reduceLT, Int.reduceToNat]
  refine xl_loopM hT hm (fun i : Nat => ⟨f66_i7 (Res l) (.fn G []) (.i l.length) (.i i), []⟩)
    (fun i => i ≤ l.length ∧ ∀ j x, j < i → l[j]? = some x → p x = false) (fun i => l.length - i) 0 ⟨Nat.zero_le _, fun j x h => absurd h (Nat.not_lt_zero _)⟩ (Mv.none (by simp [f66_i7])) ?_
  rintro i ⟨hi, hn⟩
  simp only [go_sem, Int.reduceEq, Int.reduceLE, Int.reduceLT, Int.reduceToNat]
  by_cases h : i < l.length
  case neg =>
    simp only [go_sem, Int.reduceEq, Int.reduceLE, Int.reduceLT, Int.reduceToNat, h]
    refine Fin.v ?_
    have : l.findIdx? p = none := by
      rw [List.findIdx?_eq_none_iff]
      intro x hx
      obtain ⟨j, hj⟩ := List.getElem?_of_mem hx
      exact hn j x (by have := (List.getElem?_eq_some_iff.1 hj).1; omega) hj
    unfold idxI
    rw [this]
  obtain ⟨x, hx⟩ := get_ex h
  simp only [go_sem, Int.reduceEq, Int.reduceLE, Int.reduceLT, Int.reduceToNat, h, hx]
  refine (H x (List.mem_of_getElem? hx)).pv ⟨.same (by simp), trivial⟩ ?_
  cases hp : p x
  case true =>
    simp only [go_sem, Int.reduceEq, Int.reduceLE, Int.reduceLT, Int.reduceToNat]
    refine Fin.v ?_
    have : l.findIdx? p = some i := by
      rw [List.findIdx?_eq_some_iff_getElem]
      obtain ⟨hlt, hxe⟩ := List.getElem?_eq_some_iff.1 hx
      refine ⟨hlt, by rw [hxe]; exact hp, fun j hji => ?_⟩
      have := hn j l[j] hji (List.getElem?_eq_getElem (by omega))
      simp [this]
    unfold idxI
    rw [this]
  simp only [go_sem, Int.reduceEq, Int.reduceLE, Int.reduceLT, Int.reduceToNat]
  rw [wrap_succ i (by omega)]
  refine ⟨i + 1, ⟨h, fun j y hj hy => ?_⟩, by omega, Mv.none (by simp)⟩
  by_cases e : j = i
  · subst e; rw [hx] at hy; cases hy; exact hp
  · exact hn j y (by omega) hy

theorem anyRe (G : FuncId) (p : Re → Bool) (l : List Re) (hl : l.length ≤ 9223372036854775807) (H : ∀ x ∈ l, AP Try.prog G [.agg x.c] (.b (p x))) : AP Try.prog 56 [Res l, .fn G []] (.b (l.any p)) := by
  refine AC.lbody hT hm Try.func56 f56_nm f56_lc f56_res f56_nt ?_
  simp only [go_sem, Int.reduceEq, Int.reduceLE, Int.reduceLT, Int.reduceToNat]
  refine (idxRe G p l hl H).pv ⟨.same (by simp), .same (by simp), trivial⟩ ?_
  simp only [go_sem, Int.reduceEq, Int.reduceLE, Int.reduceLT, Int.reduceToNat]
  exact Fin.v (by rw [idxI_nn])

theorem bareE (a b c d : Int) : (a == 0 && (b == 0 && (c == 0 && (d == 0 && true)))) = decide (a = 0 ∧ b = 0 ∧ c = 0 ∧ d = 0) := by
  simp only [Bool.and_true, Bool.decide_and]
  rfl
theorem lenE (n k : Nat) : ((n : Int) == (k : Int)) = decide (n = k) := by
  by_cases h : n = k
  · subst h; simp
  · rw [AWP.beq_false (by omega), decide_eq_false h]

set_option maxHeartbeats 1000000 in
theorem node (r : Re) : AP Try.prog 86 [.agg r.c] (.b r.nodeOk) := by
  obtain ⟨k, a, b, c, d, ks⟩ := r
  have l0 := lenE ks.length 0
  have l1 := lenE ks.length 1
  have l2 := lenE ks.length 2
  simp only [Int.ofNat_zero, Int.cast_ofNat_Int, Int.ofNat_one] at l0 l1 l2
  have nok : (Re.mk k a b c d ks).nodeOk = if k = 1 ∨ k = 2 then decide (ks.length = 0) && decide (a = 0 ∧ b = 0 ∧ c = 0 ∧ d = 0)
    else if k = 3 then decide (ks.length = 0) && !decide (a = 0 ∧ b = 0 ∧ c = 0 ∧ d = 0)
    else if k = 4 ∨ k = 5 then decide (ks.length = 2) && decide (a = 0 ∧ b = 0 ∧ c = 0 ∧ d = 0)
    else if k = 6 then decide (ks.length = 1) && decide (a = 0 ∧ b = 0 ∧ c = 0 ∧ d = 0)
    else false := rfl
  refine AC.lbody hT hm Try.func86 f86_nm f86_lc f86_res f86_nt ?_
  simp only [go_sem, Int.reduceEq, Int.reduceLE, Int.reduceLT, Int.reduceToNat, intsEq, bareE]
  rw [nok]
  generalize decide (a = 0 ∧ b = 0 ∧ c = 0 ∧ d = 0) = bare
  by_cases h1 : k = 1
  · have e1 : (k == 1) = true := by simp [h1]
    rw [if_pos (.inl h1)]
    simp only [go_sem, Int.reduceEq, Int.reduceLE, Int.reduceLT, Int.reduceToNat, e1, l0]
    cases decide (ks.length = 0) <;> (simp only [go_sem, Int.reduceEq, Int.reduceLE, Int.reduceLT, Int.reduceToNat]; exact Fin.v rfl)
  have e1 : (k == 1) = false := AWP.beq_false h1
  by_cases h2 : k = 2
  · have e2 : (k == 2) = true := by simp [h2]
    rw [if_pos (.inr h2)]
    simp only [go_sem, Int.reduceEq, Int.reduceLE, Int.reduceLT, Int.reduceToNat, e1, e2, l0]
    cases decide (ks.length = 0) <;> (simp only [go_sem, Int.reduceEq, Int.reduceLE, Int.reduceLT, Int.reduceToNat]; exact Fin.v rfl)
  have e2 : (k == 2) = false := AWP.beq_false h2
  rw [if_neg (by omega)]
  by_cases h3 : k = 3
  · have e3 : (k == 3) = true := by simp [h3]
    rw [if_pos h3]
    simp only [go_sem, Int.reduceEq, Int.reduceLE, Int.reduceLT, Int.reduceToNat, e1, e2, e3, l0]
    cases decide (ks.length = 0) <;> (simp only [go_sem, Int.reduceEq, Int.reduceLE, Int.reduceLT, Int.reduceToNat]; exact Fin.v rfl)
  have e3 : (k == 3) = false := AWP.beq_false h3
  rw [if_neg h3]
  by_cases h4 : k = 4
  · have e4 : (k == 4) = true := by simp [h4]
    rw [if_pos (.inl h4)]
    simp only [go_sem, Int.reduceEq, Int.reduceLE, Int.reduceLT, Int.reduceToNat, e1, e2, e3, e4, l2]
    cases decide (ks.length = 2) <;> (simp only [go_sem, Int.reduceEq, Int.reduceLE, Int.reduceLT, Int.reduceToNat]; exact Fin.v rfl)
  have e4 : (k == 4) = false := AWP.beq_false h4
  by_cases h5 : k = 5
  · have e5 : (k == 5) = true := by simp [h5]
    rw [if_pos (.inr h5)]
    simp only [go_sem, Int.reduceEq, Int.reduceLE, Int.reduceLT, Int.reduceToNat, e1, e2, e3, e4, e5, l2]
    cases decide (ks.length = 2) <;> (simp only [go_sem, Int.reduceEq, Int.reduceLE, Int.reduceLT, Int.reduceToNat]; exact Fin.v rfl)
  have e5 : (k == 5) = false := AWP.beq_false h5
  rw [if_neg (by omega)]
  by_cases h6 : k = 6
  · have e6 : (k == 6) = true := by simp [h6]
    rw [if_pos h6]
    simp only [go_sem, Int.reduceEq, Int.reduceLE, Int.reduceLT, Int.reduceToNat, e1, e2, e3, e4, e5, e6, l1]
    cases decide (ks.length = 1) <;> (simp only [go_sem, Int.reduceEq, Int.reduceLE, Int.reduceLT, Int.reduceToNat]; exact Fin.v rfl)
  have e6 : (k == 6) = false := AWP.beq_false h6
  rw [if_neg h6]
  simp only [go_sem, Int.reduceEq, Int.reduceLE, Int.reduceLT, Int.reduceToNat, e1, e2, e3, e4, e5, e6]
  exact Fin.v rfl

theorem nodes (r : Re) : AP Try.prog 72 [.agg r.c] (.b r.nodesOk) := by
  refine Re.ind (p := fun r => AP Try.prog 72 [.agg r.c] (.b r.nodesOk)) ?_ r
  intro k a b c d ks ih
  refine AC.wf rfl fun hw => ?_
  have hlen : ks.length ≤ 9223372036854775807 := by
    have := Re.ok_agg (hw _ (List.mem_cons_self ..))
    rw [Re.Ok] at this
    exact this.2
  have sub : ∀ x ∈ ks, AP Try.prog 87 [.agg x.c] (.b (!x.nodesOk)) := by
    intro x hx
    have h := ih x hx
    refine AC.lbody hT hm Try.func87 f87_nm f87_lc f87_res f87_nt ?_
    simp only [go_sem, Int.reduceEq, Int.reduceLE, Int.reduceLT, Int.reduceToNat]
    refine h.pv ⟨.same (by simp), trivial⟩ ?_
    simp only [go_sem, Int.reduceEq, Int.reduceLE, Int.reduceLT, Int.reduceToNat]
    exact Fin.v rfl
  rw [Re.nodesOk, Re.nodesOks_any]
  refine AC.lbody hT hm Try.func72 f72_nm f72_lc f72_res f72_nt ?_
  simp only [go_sem, Int.reduceEq, Int.reduceLE, Int.reduceLT, Int.reduceToNat]
  refine (node (.mk k a b c d ks)).pv (by simp [Re.c_mk, Re.cs_eq]) ?_
  simp only [go_sem, Int.reduceEq, Int.reduceLE, Int.reduceLT, Int.reduceToNat]
  cases (Re.mk k a b c d ks).nodeOk
  · simp only [go_sem, Int.reduceEq, Int.reduceLE, Int.reduceLT, Int.reduceToNat]
    exact Fin.v rfl
  simp only [go_sem, Int.reduceEq, Int.reduceLE, Int.reduceLT, Int.reduceToNat]
  refine (anyRe 87 (fun x => !x.nodesOk) ks hlen sub).pv ⟨.eq (by show _ = D.sl 6 (Re.cs ks); rw [Re.cs_eq]) (by simp), .same (by simp), trivial⟩ ?_
  simp only [go_sem, Int.reduceEq, Int.reduceLE, Int.reduceLT, Int.reduceToNat]
  exact Fin.v rfl

theorem may1 (r : Re) (hz : r.sz ≤ 1099511627776) : AP Try.prog 71 [.agg r.c] (.b (!mayB r)) := by
  refine AC.lbody hT hm Try.func71 f71_nm f71_lc f71_res f71_nt ?_
  simp only [go_sem, Int.reduceEq, Int.reduceLE, Int.reduceLT, Int.reduceToNat]
  refine (nodes r).pv ⟨.same (by simp), trivial⟩ ?_
  unfold mayB
  simp only [go_sem, Int.reduceEq, Int.reduceLE, Int.reduceLT, Int.reduceToNat]
  cases r.nodesOk
  · simp only [go_sem, Int.reduceEq, Int.reduceLE, Int.reduceLT, Int.reduceToNat]
    exact Fin.v rfl
  simp only [go_sem, Int.reduceEq, Int.reduceLE, Int.reduceLT, Int.reduceToNat]
  have e1 : Re.szs [r] = r.sz := by simp [Re.szs]
  refine (size [r] (by rw [e1]; exact hz)).pv ⟨.eq (by show _ = D.sl 6 (Re.cs [r]); rw [Re.cs_eq]; rfl) (by simp), trivial⟩ ?_
  simp only [go_sem, Int.reduceEq, Int.reduceLE, Int.reduceLT, Int.reduceToNat]
  refine Fin.v ?_
  rw [e1]
  by_cases h : r.sz ≤ 2000
  · simp [h]; omega
  · simp [h]; omega

theorem may (r : Re) (hz : r.sz ≤ 1099511627776) : AP Try.prog 46 [Res [r]] (.b (mayB r)) := by
  refine AC.lbody hT hm Try.func46 f46_nm f46_lc f46_res f46_nt ?_
  simp only [go_sem, Int.reduceEq, Int.reduceLE, Int.reduceLT, Int.reduceToNat]
  refine (anyRe 71 (fun x => !mayB x) [r] (by simp) (by intro x hx; rw [List.mem_singleton.1 hx]; exact may1 r hz)).pv (by simp [Re.cs_eq]) ?_
  simp only [go_sem, Int.reduceEq, Int.reduceLE, Int.reduceLT, Int.reduceToNat]
  exact Fin.v (by simp)

/-! ### Read -/
theorem wholeS (s : ByteArray) (hs : s.size ≤ 65536) (fr : List Ob) (hf : fr.length = 1) : AC Try.prog 45 [.ref 1 0] (fr ++ [rdOb s 0]) (fun o om => ∃ om', (o = .ret (wdD (pWhole s)) ∧ ∃ k, om' = [rdOb s k]) ∧ om = fr ++ om') := by
  refine (wholeC s hs).shift rfl ?_ ?_ ?_
  · intro j d d' h1 h2
    match j with
    | 0 =>
      cases h1; cases h2
      rw [hf]
      exact .inr ⟨0, 0, rfl, rfl⟩
    | j + 1 => cases h1
  · intro o ho
    rw [List.mem_singleton.1 ho]
    simp [ObAll]
  · rintro o om' ⟨rfl, k, rfl⟩
    refine ⟨rfl, .tup ?_, fun x hx => ?_⟩
    · simp
    · rw [List.mem_singleton.1 hx]
      simp [ObAll]

theorem readN (s : ByteArray) : AP Try.prog 15 [.s s] (wdD (pRead s)) := by
  unfold pRead
  by_cases hs : s.size ≤ 65536
  case neg =>
    have h1 : (65536 : Int) < s.size := by omega
    rw [if_pos (by omega)]
    refine AC.lbody hT hm Try.func15 f15_nm f15_lc f15_res f15_nt ?_
    simp only [go_sem, Int.reduceEq, Int.reduceLE, Int.reduceLT, Int.reduceToNat, h1]
    exact Fin.ret (.tupL ⟨.aggL (by simp [CvL, Re.c_mk, Re.cs_eq]), .v, .v, trivial⟩)
  rw [if_neg (by omega)]
  have h1 : ¬ (65536 : Int) < s.size := by omega
  have hsz := pWhole_sz s
  refine AC.lbody hT hm Try.func15 f15_nm f15_lc f15_res f15_nt ?_
  simp only [go_sem, Int.reduceEq, Int.reduceLE, Int.reduceLT, Int.reduceToNat, h1]
  refine ⟨_, wholeS s hs [_] rfl, ?_⟩
  rintro _ _ ⟨_, ⟨rfl, k, rfl⟩, rfl⟩
  simp only [go_sem, Int.reduceEq, Int.reduceLE, Int.reduceLT, Int.reduceToNat]
  generalize pWhole s = x at hsz ⊢
  obtain ⟨r, p, e⟩ := x
  dsimp only at hsz ⊢
  by_cases he : e = 0
  case neg =>
    have e1 : ((e : Int) == 0) = false := AWP.beq_false (by omega)
    rw [if_neg (fun h => he h.1)]
    simp only [go_sem, Int.reduceEq, Int.reduceLE, Int.reduceLT, Int.reduceToNat, e1]
    exact Fin.ret (.tupL ⟨.same (Re.d_bl _), .v, .v, trivial⟩)
  have e1 : ((e : Int) == 0) = true := by simp [he]
  simp only [go_sem, Int.reduceEq, Int.reduceLE, Int.reduceLT, Int.reduceToNat, e1]
  refine (may r (by omega)).pv ⟨.eq (by show _ = D.sl 6 (Re.cs [r]); rw [Re.cs_eq]; rfl) (by simp), trivial⟩ ?_
  cases hmy : mayB r
  · rw [if_pos ⟨he, rfl⟩]
    simp only [go_sem, Int.reduceEq, Int.reduceLE, Int.reduceLT, Int.reduceToNat]
    exact Fin.ret (.tupL ⟨.aggL (by simp [CvL, Re.c_mk, Re.cs_eq]), .v, .v, trivial⟩)
  · rw [if_neg (by simp)]
    simp only [go_sem, Int.reduceEq, Int.reduceLE, Int.reduceLT, Int.reduceToNat]
    exact Fin.ret (.tupL ⟨.same (Re.d_bl _), .v, .v, trivial⟩)
end Go.Proofs.Yteifkcgokjmcjaa.W

set_option maxRecDepth 100000
/- The document's reader: which expressions may be, and what a text is read as. -/
namespace Go.Proofs.Yteifkcgokjmcjaa.W
open Go Go.Proofs Go.Proofs.Yteifkcgokjmcjaa.AWP
attribute [local irreducible] xl hide aop aops aopQ qops guardP condP

theorem rAllN (r : Re) : r.sz ≤ 1099511627776 → AP Try.prog 61 [.agg r.c] (Res r.pre) := by
  refine Re.ind (p := fun r => r.sz ≤ 1099511627776 → AP Try.prog 61 [.agg r.c] (Res r.pre)) ?_ r
  intro k a b c d ks ih hz
  rw [Re.sz] at hz
  have hlen := Re.len_szs ks
  have hh : (Re.mk k a b c d ks).pre = Re.mk k a b c d ks :: Re.pres ks := by rw [Re.pre]
  refine AC.lbody hT hm Try.func61 f61_nm f61_lc f61_res f61_nt ?_
  simp only [go_sem, Int.reduceEq, Int.reduceLE, Int.reduceLT, Int.reduceToNat]
  refine xl_loopM hT hm (fun i : Nat => ⟨f61_i7 (.pel (Re.mk k a b c d ks).c) (.own 0) (.i ks.length) (.i i), [lsOb (Re.mk k a b c d ks :: Re.pres (ks.take i))]⟩)
    (fun i => i ≤ ks.length) (fun i => ks.length - i) 0 (Nat.zero_le _) ?_ ?_
  · refine Mv.of [some 0] rfl ⟨?_, trivial⟩ (by simp [f61_i7, Re.c_mk, Re.cs_eq])
    exact .slcS (by simp [Re.c_mk, Re.cs_eq, Re.pres]) (Re.map_bl _)
  intro i hi
  simp only [go_sem, Int.reduceEq, Int.reduceLE, Int.reduceLT, Int.reduceToNat]
  by_cases h : i < ks.length
  case neg =>
    have ht : ks.take i = ks := List.take_of_length_le (by omega)
    simp only [go_sem, Int.reduceEq, Int.reduceLE, Int.reduceLT, Int.reduceToNat, h]
    rw [ht, hh]
    exact Fin.ret (cvLs rfl rfl)
  obtain ⟨x, hx⟩ := get_ex h
  have hxm := List.mem_of_getElem? hx
  have h1 := Re.pres_take hx
  have h2 := Re.szs_take hx
  have h3 := Re.szs_take_le ks (i + 1)
  have h4 := Re.sz_mem hxm
  have h5 := x.sz_kids
  have h6 := Re.pres_len (ks.take i)
  have h7 := x.pre_len
  simp only [go_sem, Int.reduceEq, Int.reduceLE, Int.reduceLT, Int.reduceToNat, h, hx, Re.c_5]
  refine (ih x hxm (by omega)).pd (by simp) (by simp) ?_
  simp only [go_sem, Int.reduceEq, Int.reduceLE, Int.reduceLT, Int.reduceToNat]
  refine ⟨by omega, i + 1, by omega, by omega, ?_⟩
  rw [wrap_succ i (by omega), h1]
  refine Mv.of [some 1] rfl ⟨.slcS (by simp [Re.c_mk, Re.cs_eq]) (Re.map_bl _), trivial⟩ (by simp [f61_i7, Re.c_mk, Re.cs_eq])

theorem rMay (r : Re) (hz : r.sz ≤ 1099511627776) : AP Try.prog 30 [.agg r.c] (.b (mayB r)) := by
  have hlen := r.pre_len
  have hmb : mayB r = (r.pre.all Re.nodeOk && decide (r.sz ≤ 2000)) := by unfold mayB; rw [r.nodesOk_pre]
  rw [hmb]
  refine AC.lbody hT hm Try.func30 f30_nm f30_lc f30_res f30_nt ?_
  simp only [go_sem, Int.reduceEq, Int.reduceLE, Int.reduceLT, Int.reduceToNat]
  refine (rAllN r hz).pd (by simp) (by simp) ?_
  simp only [go_sem, Int.reduceEq, Int.reduceLE, Int.reduceLT, Int.reduceToNat]
  refine xl_loopM hT hm (fun i : Nat => ⟨f30_i11 (Res r.pre) (.i r.pre.length) (.i i), []⟩)
    (fun i => i ≤ r.pre.length ∧ ∀ j x, j < i → r.pre[j]? = some x → x.nodeOk = true) (fun i => r.pre.length - i) 0 ⟨Nat.zero_le _, fun j x h => absurd h (Nat.not_lt_zero _)⟩ (Mv.none (by simp [f30_i11])) ?_
  rintro i ⟨hi, hn⟩
  simp only [go_sem, Int.reduceEq, Int.reduceLE, Int.reduceLT, Int.reduceToNat]
  by_cases h : i < r.pre.length
  case neg =>
    simp only [go_sem, Int.reduceEq, Int.reduceLE, Int.reduceLT, Int.reduceToNat, h]
    refine Fin.v ?_
    have : r.pre.all Re.nodeOk = true := by
      rw [List.all_eq_true]
      intro x hx
      obtain ⟨j, hj⟩ := List.getElem?_of_mem hx
      exact hn j x (by have := (List.getElem?_eq_some_iff.1 hj).1; omega) hj
    rw [this, hlen, Bool.true_and]
    congr 1
    exact decide_eq_decide.2 (by omega)
  obtain ⟨x, hx⟩ := get_ex h
  have bad : x.nodeOk = false → (r.pre.all Re.nodeOk && decide (r.sz ≤ 2000)) = false := by
    intro h0
    have : r.pre.all Re.nodeOk = false := by
      rw [List.all_eq_false]
      exact ⟨x, List.mem_of_getElem? hx, by rw [h0]; simp⟩
    rw [this]; rfl
  have good : x.nodeOk = true → (i < r.pre.length ∧ ∀ j y, j < i + 1 → r.pre[j]? = some y → y.nodeOk = true) := by
    intro h0
    refine ⟨h, fun j y hj hy => ?_⟩
    by_cases e : j = i
    · subst e; rw [hx] at hy; cases hy; exact h0
    · exact hn j y (by omega) hy
  obtain ⟨k, a, b, c, d, ks⟩ := x
  have nok : (Re.mk k a b c d ks).nodeOk = if k = 1 ∨ k = 2 then decide (ks.length = 0) && decide (a = 0 ∧ b = 0 ∧ c = 0 ∧ d = 0)
    else if k = 3 then decide (ks.length = 0) && !decide (a = 0 ∧ b = 0 ∧ c = 0 ∧ d = 0)
    else if k = 4 ∨ k = 5 then decide (ks.length = 2) && decide (a = 0 ∧ b = 0 ∧ c = 0 ∧ d = 0)
    else if k = 6 then decide (ks.length = 1) && decide (a = 0 ∧ b = 0 ∧ c = 0 ∧ d = 0)
    else false := rfl
  simp only [go_sem, Int.reduceEq, Int.reduceLE, Int.reduceLT, Int.reduceToNat, h, hx, Re.c_mk, intsEq, bareE]
  rw [nok] at bad good
  generalize decide (a = 0 ∧ b = 0 ∧ c = 0 ∧ d = 0) = bare at bad good ⊢
  by_cases k1 : k < 1
  · simp only [go_sem, Int.reduceEq, Int.reduceLE, Int.reduceLT, Int.reduceToNat, h, hx, Re.c_mk, k1]
    refine Fin.v ?_
    rw [bad (by rw [if_neg (by omega), if_neg (by omega), if_neg (by omega), if_neg (by omega)])]
  by_cases k6 : 6 < k
  · simp only [go_sem, Int.reduceEq, Int.reduceLE, Int.reduceLT, Int.reduceToNat, h, hx, Re.c_mk, k1, k6]
    refine Fin.v ?_
    rw [bad (by rw [if_neg (by omega), if_neg (by omega), if_neg (by omega), if_neg (by omega)])]
  have hk : k = 1 ∨ k = 2 ∨ k = 3 ∨ k = 4 ∨ k = 5 ∨ k = 6 := by omega
  have w0 : IntKind.u8.wrap 0 = 0 := rfl
  have w1 : IntKind.u8.wrap 1 = 1 := rfl
  have w2 : IntKind.u8.wrap 2 = 2 := rfl
  have w3 : IntKind.u8.wrap 3 = 3 := rfl
  have w4 : IntKind.u8.wrap 4 = 4 := rfl
  have w5 : IntKind.u8.wrap 5 = 5 := rfl
  have b0 : ((ks.length : Int) != 0) = !decide (ks.length = 0) := by rw [bne, ← lenE]; rfl
  have b1 : ((ks.length : Int) != 1) = !decide (ks.length = 1) := by rw [bne, ← lenE]; rfl
  have b2 : ((ks.length : Int) != 2) = !decide (ks.length = 2) := by rw [bne, ← lenE]; rfl
  clear nok
  rcases hk with rfl | rfl | rfl | rfl | rfl | rfl
  all_goals
    simp only [go_sem, Int.reduceEq, Int.reduceLE, Int.reduceLT, Int.reduceToNat, h, hx, Re.c_mk, k1, k6, Int.reduceBEq, Bool.true_beq, Bool.false_beq]
    cases bare
  all_goals simp only [go_sem, Int.reduceEq, Int.reduceLE, Int.reduceLT, Int.reduceToNat, h, hx, Re.c_mk, k1, k6, Bool.not_true, Bool.not_false, Int.reduceSub, w0, w1, w2, w3, w4, w5, b0, b1, b2]
  case neg.inl.false => exact Fin.v (by rw [bad (by simp)])
  case neg.inr.inl.false => exact Fin.v (by rw [bad (by simp)])
  case neg.inr.inr.inl.true => exact Fin.v (by rw [bad (by simp)])
  case neg.inr.inr.inr.inl.false => exact Fin.v (by rw [bad (by simp)])
  case neg.inr.inr.inr.inr.inl.false => exact Fin.v (by rw [bad (by simp)])
  case neg.inr.inr.inr.inr.inr.false => exact Fin.v (by rw [bad (by simp)])
  case neg.inl.true =>
    cases hl : decide (ks.length = 0)
    · simp only [go_sem, Int.reduceEq, Int.reduceLE, Int.reduceLT, Int.reduceToNat, Bool.not_false]
      exact Fin.v (by rw [bad (by rw [hl]; simp)])
    · simp only [go_sem, Int.reduceEq, Int.reduceLE, Int.reduceLT, Int.reduceToNat, Bool.not_true]
      rw [wrap_succ i (by omega)]
      exact ⟨i + 1, good (by rw [hl]; simp), by omega, Mv.none (by simp)⟩
  case neg.inr.inl.true =>
    cases hl : decide (ks.length = 0)
    · simp only [go_sem, Int.reduceEq, Int.reduceLE, Int.reduceLT, Int.reduceToNat, Bool.not_false]
      exact Fin.v (by rw [bad (by rw [hl]; simp)])
    · simp only [go_sem, Int.reduceEq, Int.reduceLE, Int.reduceLT, Int.reduceToNat, Bool.not_true]
      rw [wrap_succ i (by omega)]
      exact ⟨i + 1, good (by rw [hl]; simp), by omega, Mv.none (by simp)⟩
  case neg.inr.inr.inl.false =>
    cases hl : decide (ks.length = 0)
    · simp only [go_sem, Int.reduceEq, Int.reduceLE, Int.reduceLT, Int.reduceToNat, Bool.not_false]
      exact Fin.v (by rw [bad (by rw [hl]; simp)])
    · simp only [go_sem, Int.reduceEq, Int.reduceLE, Int.reduceLT, Int.reduceToNat, Bool.not_true]
      rw [wrap_succ i (by omega)]
      exact ⟨i + 1, good (by rw [hl]; simp), by omega, Mv.none (by simp)⟩
  case neg.inr.inr.inr.inl.true =>
    cases hl : decide (ks.length = 2)
    · simp only [go_sem, Int.reduceEq, Int.reduceLE, Int.reduceLT, Int.reduceToNat, Bool.not_false]
      exact Fin.v (by rw [bad (by rw [hl]; simp)])
    · simp only [go_sem, Int.reduceEq, Int.reduceLE, Int.reduceLT, Int.reduceToNat, Bool.not_true]
      rw [wrap_succ i (by omega)]
      exact ⟨i + 1, good (by rw [hl]; simp), by omega, Mv.none (by simp)⟩
  case neg.inr.inr.inr.inr.inl.true =>
    cases hl : decide (ks.length = 2)
    · simp only [go_sem, Int.reduceEq, Int.reduceLE, Int.reduceLT, Int.reduceToNat, Bool.not_false]
      exact Fin.v (by rw [bad (by rw [hl]; simp)])
    · simp only [go_sem, Int.reduceEq, Int.reduceLE, Int.reduceLT, Int.reduceToNat, Bool.not_true]
      rw [wrap_succ i (by omega)]
      exact ⟨i + 1, good (by rw [hl]; simp), by omega, Mv.none (by simp)⟩
  case neg.inr.inr.inr.inr.inr.true =>
    cases hl : decide (ks.length = 1)
    · simp only [go_sem, Int.reduceEq, Int.reduceLE, Int.reduceLT, Int.reduceToNat, Bool.not_false]
      exact Fin.v (by rw [bad (by rw [hl]; simp)])
    · simp only [go_sem, Int.reduceEq, Int.reduceLE, Int.reduceLT, Int.reduceToNat, Bool.not_true]
      rw [wrap_succ i (by omega)]
      exact ⟨i + 1, good (by rw [hl]; simp), by omega, Mv.none (by simp)⟩
end Go.Proofs.Yteifkcgokjmcjaa.W

set_option maxRecDepth 100000
/- The document's reader: what a text is read as. -/
namespace Go.Proofs.Yteifkcgokjmcjaa.W
open Go Go.Proofs Go.Proofs.Yteifkcgokjmcjaa.AWP
attribute [local irreducible] xl hide aop aops aopQ qops guardP condP

theorem rRead (s : ByteArray) : AP Try.prog 16 [.s s] (wdD (pRead s)) := by
  unfold pRead
  by_cases hs : s.size ≤ 65536
  case neg =>
    have h1 : (65536 : Int) < s.size := by omega
    rw [if_pos (by omega)]
    refine AC.lbody hT hm Try.func16 f16_nm f16_lc f16_res f16_nt ?_
    simp only [go_sem, Int.reduceEq, Int.reduceLE, Int.reduceLT, Int.reduceToNat, h1]
    exact Fin.ret (.tupL ⟨.aggL (by simp [CvL, Re.c_mk, Re.cs_eq]), .v, .v, trivial⟩)
  rw [if_neg (by omega)]
  have h1 : ¬ (65536 : Int) < s.size := by omega
  have hsz := pWhole_sz s
  have ha := rAlt s hs _ 0 (Nat.le_refl _) (Nat.zero_le _)
  unfold pWhole at hsz ⊢
  refine AC.lbody hT hm Try.func16 f16_nm f16_lc f16_res f16_nt ?_
  simp only [go_sem, Int.reduceEq, Int.reduceLE, Int.reduceLT, Int.reduceToNat, h1]
  refine ha.pd ⟨.v, .v, trivial⟩ (.agg (by cases altF s 0 <;> exact pC_bl _ _ _)) ?_
  cases hc : altF s 0 with
  | bad e =>
    simp only [go_sem, Int.reduceEq, Int.reduceLE, Int.reduceLT, Int.reduceToNat, pC_len, pC_put, pC_take8, pC_drop0, pC_7, pC_6, and_self]
    exact Fin.ret (.tupL ⟨.aggL (by simp [CvL, Re.c_mk, Re.cs_eq]), .v, .v, trivial⟩)
  | ok r q =>
    rw [hc] at hsz
    dsimp only at hsz ⊢
    simp only [go_sem, Int.reduceEq, Int.reduceLE, Int.reduceLT, Int.reduceToNat, pC_len, pC_put, pC_take8, pC_drop0, pC_7, pC_6]
    by_cases hq : q < s.size
    · simp only [go_sem, Int.reduceEq, Int.reduceLE, Int.reduceLT, Int.reduceToNat, hq, pC_len, pC_put, pC_take8, pC_drop0, pC_7, pC_6, and_self]
      exact Fin.ret (.tupL ⟨.aggL (by simp [CvL, Re.c_mk, Re.cs_eq]), .v, .v, trivial⟩)
    rw [if_neg hq] at hsz
    simp only [go_sem, Int.reduceEq, Int.reduceLE, Int.reduceLT, Int.reduceToNat, hq, pC_len, pC_put, pC_take8, pC_drop0, pC_7, pC_6, pC_take6]
    refine (rMay r (by dsimp only at hsz; omega)).pv ⟨.same (Re.d_bl _), trivial⟩ ?_
    cases hm : mayB r
    · simp only [go_sem, Int.reduceEq, Int.reduceLE, Int.reduceLT, Int.reduceToNat]
      exact Fin.ret (.tupL ⟨.aggL (by simp [CvL, Re.c_mk, Re.cs_eq]), .v, .v, trivial⟩)
    · simp only [go_sem, Int.reduceEq, Int.reduceLE, Int.reduceLT, Int.reduceToNat, pC_len, pC_put, pC_take8, pC_drop0, pC_7, pC_6, pC_take6, Re.put1]
      exact Fin.ret (.tupL ⟨.same (Re.d_bl _), .v, .v, trivial⟩)

theorem same (x : Re) : ∀ y : Re, AP Try.prog 17 [.agg x.c, .agg y.c] (.b (x.same y)) := by
  refine Re.ind (p := fun x => ∀ y : Re, AP Try.prog 17 [.agg x.c, .agg y.c] (.b (x.same y))) ?_ x
  rintro k a b c d ks ih ⟨k', a', b', c', d', ks'⟩
  refine AC.wf rfl fun hw => ?_
  have hlen : ks.length ≤ 9223372036854775807 := by
    have := Re.ok_agg (hw _ (List.mem_cons_self ..))
    rw [Re.Ok] at this
    exact this.2
  refine AC.lbody hT hm Try.func17 f17_nm f17_lc f17_res f17_nt ?_
  simp only [go_sem, Int.reduceEq, Int.reduceLE, Int.reduceLT, Int.reduceToNat]
  by_cases h1 : k = k'
  case neg =>
    simp only [go_sem, Int.reduceEq, Int.reduceLE, Int.reduceLT, Int.reduceToNat, bne_true h1]
    refine Fin.v ?_
    simp [Re.same, h1]
  subst h1
  simp only [go_sem, Int.reduceEq, Int.reduceLE, Int.reduceLT, Int.reduceToNat, intsEq]
  by_cases h2 : a = a' ∧ b = b' ∧ c = c' ∧ d = d'
  case neg =>
    have e : (a == a' && (b == b' && (c == c' && (d == d' && true)))) = false := by
      rw [Bool.eq_false_iff]
      simpa using h2
    simp only [go_sem, Int.reduceEq, Int.reduceLE, Int.reduceLT, Int.reduceToNat, e, Bool.not_false]
    refine Fin.v ?_
    rw [Re.same]
    simp [h2]
  obtain ⟨rfl, rfl, rfl, rfl⟩ := h2
  simp only [go_sem, Int.reduceEq, Int.reduceLE, Int.reduceLT, Int.reduceToNat, Bool.and_self, Bool.not_true]
  have es : (Re.mk k a b c d ks).same (Re.mk k a b c d ks') = Re.sames ks ks' := by simp [Re.same]
  rw [es]
  by_cases h3 : (ks.length : Int) = ks'.length
  case neg =>
    simp only [go_sem, Int.reduceEq, Int.reduceLE, Int.reduceLT, Int.reduceToNat, bne_true h3]
    refine Fin.v ?_
    rw [Re.sames_len _ _ (by omega)]
  simp only [go_sem, Int.reduceEq, Int.reduceLE, Int.reduceLT, Int.reduceToNat, h3]
  refine xl_loopM hT hm (fun i : Nat => ⟨f17_i9 (.pel (Re.mk k a b c d ks).c) (.pel (Re.mk k a b c d ks').c) (.i ks'.length) (.i i), []⟩)
    (fun i : Nat => i ≤ ks.length ∧ Re.sames ks ks' = Re.sames (ks.drop i) (ks'.drop i)) (fun i => ks.length - i) 0 ⟨Nat.zero_le _, rfl⟩ (Mv.none (by simp [f17_i9, Re.c_mk, Re.cs_eq])) ?_
  rintro i ⟨q1, q3⟩
  simp only [go_sem, Int.reduceEq, Int.reduceLE, Int.reduceLT, Int.reduceToNat]
  by_cases hi : i < ks'.length
  · obtain ⟨x, hxi⟩ := get_ex (l := ks) (show i < ks.length by omega)
    obtain ⟨y, hyi⟩ := get_ex hi
    simp only [go_sem, Int.reduceEq, Int.reduceLE, Int.reduceLT, Int.reduceToNat, hi, hxi, hyi]
    refine (ih x (List.mem_of_getElem? hxi) y).pv (by simp) ?_
    simp only [go_sem, Int.reduceEq, Int.reduceLE, Int.reduceLT, Int.reduceToNat]
    cases hs : x.same y with
    | true =>
      simp only [go_sem, Int.reduceEq, Int.reduceLE, Int.reduceLT, Int.reduceToNat, Bool.not_true]
      refine ⟨i + 1, ⟨by omega, ?_⟩, by omega, ?_⟩
      · rw [q3, drop_get hxi, drop_get hyi, Re.sames, hs, Bool.true_and]
      · rw [wrap_succ i (by omega)]
        exact Mv.none (by simp)
    | false =>
      simp only [go_sem, Int.reduceEq, Int.reduceLE, Int.reduceLT, Int.reduceToNat, Bool.not_false]
      refine Fin.v ?_
      rw [q3, drop_get hxi, drop_get hyi, Re.sames, hs, Bool.false_and]
  · simp only [go_sem, Int.reduceEq, Int.reduceLE, Int.reduceLT, Int.reduceToNat, hi]
    refine Fin.v ?_
    rw [q3, drop_end hi, drop_end (show ¬ i < ks.length by omega), Re.sames]


/-! ### Texts: is one of some so? -/
theorem idxSt (G : FuncId) (p : ByteArray → Bool) (l : List ByteArray) (hl : l.length ≤ 9223372036854775807) (H : ∀ x ∈ l, AP Try.prog G [.s x] (.b (p x))) : AP Try.prog 77 [.sl 1 (l.map fun x => [.s x]), .fn G []] (.i (idxI p l)) := by
  refine AC.lbody hT hm Try.func77 f77_nm f77_lc f77_res f77_nt ?_
  simp only [go_sem, Int.reduceEq, Int.reduceLE, Int.reduceLT, Int.reduceToNat]
  refine xl_loopM hT hm (fun i : Nat => ⟨f77_i7 (.sl 1 (l.map fun x => [.s x])) (.fn G []) (.i l.length) (.i i), []⟩)
    (fun i => i ≤ l.length ∧ ∀ j x, j < i → l[j]? = some x → p x = false) (fun i => l.length - i) 0 ⟨Nat.zero_le _, fun j x h => absurd h (Nat.not_lt_zero _)⟩ (Mv.none (by simp [f77_i7])) ?_
  rintro i ⟨hi, hn⟩
  simp only [go_sem, Int.reduceEq, Int.reduceLE, Int.reduceLT, Int.reduceToNat]
  by_cases h : i < l.length
  case neg =>
    simp only [go_sem, Int.reduceEq, Int.reduceLE, Int.reduceLT, Int.reduceToNat, h]
    refine Fin.v ?_
    have : l.findIdx? p = none := by
      rw [List.findIdx?_eq_none_iff]
      intro x hx
      obtain ⟨j, hj⟩ := List.getElem?_of_mem hx
      exact hn j x (by have := (List.getElem?_eq_some_iff.1 hj).1; omega) hj
    unfold idxI
    rw [this]
  obtain ⟨x, hx⟩ := get_ex h
  simp only [go_sem, Int.reduceEq, Int.reduceLE, Int.reduceLT, Int.reduceToNat, h, hx]
  refine (H x (List.mem_of_getElem? hx)).pv ⟨.same (by simp), trivial⟩ ?_
  cases hp : p x
  case true =>
    simp only [go_sem, Int.reduceEq, Int.reduceLE, Int.reduceLT, Int.reduceToNat]
    refine Fin.v ?_
    have : l.findIdx? p = some i := by
      rw [List.findIdx?_eq_some_iff_getElem]
      obtain ⟨hlt, hxe⟩ := List.getElem?_eq_some_iff.1 hx
      refine ⟨hlt, by rw [hxe]; exact hp, fun j hji => ?_⟩
      have := hn j l[j] hji (List.getElem?_eq_getElem (by omega))
      simp [this]
    unfold idxI
    rw [this]
  simp only [go_sem, Int.reduceEq, Int.reduceLE, Int.reduceLT, Int.reduceToNat]
  rw [wrap_succ i (by omega)]
  refine ⟨i + 1, ⟨h, fun j y hj hy => ?_⟩, by omega, Mv.none (by simp)⟩
  by_cases e : j = i
  · subst e; rw [hx] at hy; cases hy; exact hp
  · exact hn j y (by omega) hy
theorem anySt (G : FuncId) (p : ByteArray → Bool) (l : List ByteArray) (hl : l.length ≤ 9223372036854775807) (H : ∀ x ∈ l, AP Try.prog G [.s x] (.b (p x))) : AP Try.prog 48 [.sl 1 (l.map fun x => [.s x]), .fn G []] (.b (l.any p)) := by
  refine AC.lbody hT hm Try.func48 f48_nm f48_lc f48_res f48_nt ?_
  simp only [go_sem, Int.reduceEq, Int.reduceLE, Int.reduceLT, Int.reduceToNat]
  refine (idxSt G p l hl H).pv ⟨.same (by simp), .same (by simp), trivial⟩ ?_
  simp only [go_sem, Int.reduceEq, Int.reduceLE, Int.reduceLT, Int.reduceToNat]
  exact Fin.v (by rw [idxI_nn])
end Go.Proofs.Yteifkcgokjmcjaa.W

set_option maxRecDepth 100000
/- Whether texts are read; the document's example; the expression of any text is the document's. -/
namespace Go.Proofs.Yteifkcgokjmcjaa.W
open Go Go.Proofs Go.Proofs.Yteifkcgokjmcjaa.AWP
attribute [local irreducible] xl hide aop aops aopQ qops guardP condP

abbrev Strs (l : List ByteArray) : D := .sl 1 (l.map fun x => [.s x])
theorem wdD_bl (x : Re × Nat × Nat) : Bl 0 (wdD x) := by
  refine .tup ?_
  simp
theorem form1 (s : ByteArray) : AP Try.prog 49 [.s s] (.b (decide ((pRead s).2.2 ≠ 0))) := by
  refine AC.lbody hT hm Try.func49 f49_nm f49_lc f49_res f49_nt ?_
  simp only [go_sem, Int.reduceEq, Int.reduceLE, Int.reduceLT, Int.reduceToNat]
  refine (readN s).pd ⟨.v, trivial⟩ (wdD_bl _) ?_
  generalize pRead s = x
  obtain ⟨r, p, e⟩ := x
  simp only [go_sem, Int.reduceEq, Int.reduceLE, Int.reduceLT, Int.reduceToNat]
  refine Fin.v ?_
  by_cases he : e = 0
  · subst he; rfl
  · rw [bne_true (by omega)]; simp [he]
theorem form (l : List ByteArray) (hl : l.length ≤ 9223372036854775807) : AP Try.prog 18 [Strs l] (.b (l.all fun s => decide ((pRead s).2.2 = 0))) := by
  have e : (l.all fun s => decide ((pRead s).2.2 = 0)) = !(l.any fun s => decide ((pRead s).2.2 ≠ 0)) := by
    induction l with
    | nil => rfl
    | cons x l ih => rw [List.all_cons, List.any_cons, ih (by simp only [List.length_cons] at hl; omega)]; simp
  rw [e]
  refine AC.lbody hT hm Try.func18 f18_nm f18_lc f18_res f18_nt ?_
  simp only [go_sem, Int.reduceEq, Int.reduceLE, Int.reduceLT, Int.reduceToNat]
  refine (anySt 49 (fun s => decide ((pRead s).2.2 ≠ 0)) l hl fun x _ => form1 x).pv ⟨.same (by simp), .same (by simp), trivial⟩ ?_
  simp only [go_sem, Int.reduceEq, Int.reduceLE, Int.reduceLT, Int.reduceToNat]
  exact Fin.v rfl
theorem form_1 (s : ByteArray) : AP Try.prog 18 [.sl 1 [[.s s]]] (.b (decide ((pRead s).2.2 = 0))) := by
  have e : ([s].all fun s => decide ((pRead s).2.2 = 0)) = decide ((pRead s).2.2 = 0) := by simp
  rw [← e]
  exact form [s] (by simp)

theorem awake : AP Try.prog 14 [] (.b true) := by
  have e1 : (pRead ⟨#[97, 40, 98, 124]⟩).2 = (4, 2) := by decide +kernel
  have e2 : (pRead ⟨#[97, 40, 98, 124, 99, 41, 97, 42]⟩).2.2 = 0 := by decide +kernel
  have f2 := form_1 ⟨#[97, 40, 98, 124, 99, 41, 97, 42]⟩
  rw [e2] at f2
  refine AC.lbody hT hm Try.func14 f14_nm f14_lc f14_res f14_nt ?_
  simp only [go_sem, Int.reduceEq, Int.reduceLE, Int.reduceLT, Int.reduceToNat]
  refine (readN ⟨#[97, 40, 98, 124]⟩).pd ⟨.v, trivial⟩ (wdD_bl _) ?_
  generalize pRead ⟨#[97, 40, 98, 124]⟩ = x at e1
  obtain ⟨r, p⟩ := x
  cases e1
  have c2 : (((2 : Nat) : Int) == 2) = true := rfl
  have c4 : (((4 : Nat) : Int) == 4) = true := rfl
  simp only [go_sem, Int.reduceEq, Int.reduceLE, Int.reduceLT, Int.reduceToNat, c2, c4]
  refine f2.pv ⟨.same (by simp), trivial⟩ ?_
  simp only [go_sem, Int.reduceEq, Int.reduceLE, Int.reduceLT, Int.reduceToNat]
  exact Fin.v rfl

theorem sames_self : ∀ (l : List Re), (∀ x ∈ l, x.same x = true) → Re.sames l l = true
  | [], _ => by rw [Re.sames]
  | x :: l, h => by rw [Re.sames, h x (by simp), sames_self l fun y hy => h y (by simp [hy])]; rfl
theorem same_self (r : Re) : r.same r = true := by
  refine Re.ind (p := fun r => r.same r = true) ?_ r
  intro k a b c d ks ih
  rw [Re.same, sames_self ks ih]
  simp
theorem readIs (s : ByteArray) : AP Try.prog 3 [.s s] (.b true) := by
  refine AC.lbody hT hm Try.func3 f3_nm f3_lc f3_res f3_nt ?_
  simp only [go_sem, Int.reduceEq, Int.reduceLE, Int.reduceLT, Int.reduceToNat]
  by_cases hs : (1000 : Int) < s.size
  · simp only [go_sem, Int.reduceEq, Int.reduceLE, Int.reduceLT, Int.reduceToNat, hs]
    refine awake.pv trivial ?_
    simp only [go_sem, Int.reduceEq, Int.reduceLE, Int.reduceLT, Int.reduceToNat]
    exact Fin.v rfl
  simp only [go_sem, Int.reduceEq, Int.reduceLE, Int.reduceLT, Int.reduceToNat, hs]
  have f1 := form_1 s
  refine (readN s).pd ⟨.v, trivial⟩ (wdD_bl _) ?_
  simp only [go_sem, Int.reduceEq, Int.reduceLE, Int.reduceLT, Int.reduceToNat]
  refine (rRead s).pd ⟨.v, trivial⟩ (wdD_bl _) ?_
  generalize pRead s = x at f1
  obtain ⟨r, p, e⟩ := x
  dsimp only at f1
  simp only [go_sem, Int.reduceEq, Int.reduceLE, Int.reduceLT, Int.reduceToNat, beq_self_eq_true]
  refine (same r r).pv ⟨.same (Re.d_bl _), .same (Re.d_bl _), trivial⟩ ?_
  simp only [go_sem, Int.reduceEq, Int.reduceLE, Int.reduceLT, Int.reduceToNat, same_self]
  refine f1.pv ⟨.same (by simp), trivial⟩ ?_
  have e1 : (decide (e = 0) == ((e : Int) == 0)) = true := by
    by_cases he : e = 0
    · subst he; rfl
    · rw [AWP.beq_false (by omega)]; simp [he]
  simp only [go_sem, Int.reduceEq, Int.reduceLE, Int.reduceLT, Int.reduceToNat, e1]
  refine awake.pv trivial ?_
  simp only [go_sem, Int.reduceEq, Int.reduceLE, Int.reduceLT, Int.reduceToNat]
  exact Fin.v rfl
end Go.Proofs.Yteifkcgokjmcjaa.W
