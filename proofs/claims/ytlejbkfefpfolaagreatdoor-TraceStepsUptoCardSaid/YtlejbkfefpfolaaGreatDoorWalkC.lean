/- The document's reader: which expressions may be, and what a text is read as. -/
import Derived.Test.YtlejbkfefpfolaaGreatDoorWalkB
import Derived.Test.YtlejbkfefpfolaaGreatDoorMath
import Derived.Test.YtlejbkfefpfolaaGreatDoorAwpX
set_option linter.unusedVariables false
set_option linter.unusedSimpArgs false
set_option linter.unusedSectionVars false
set_option maxRecDepth 100000
namespace Go.Proofs.YtlejbkfefpfolaaGreatDoor.W
open Go Go.Proofs Go.Proofs.YtlejbkfefpfolaaGreatDoor.AWP
theorem nq64 (n : Nat) (h : n < 256) : IntKind.i64.wrap ((n : Int).tdiv 64) = ((n / 64 : Nat) : Int) := by
 have := q64i (UInt8.ofNat n)
 rwa [byteNat h] at this
theorem nr64 (n : Nat) (h : n < 256) : (n : Int).tmod 64 = ((n % 64 : Nat) : Int) := by
 have := r64 (UInt8.ofNat n)
 rwa [byteNat h] at this
theorem half (m : Nat) (h : m < 2 ^ 64) : IntKind.u64.wrap ((m : Int).tdiv 2) = ((m / 2 : Nat) : Int) := by
 rw [show ((m : Int).tdiv 2) = ((m / 2 : Nat) : Int) from rfl]
 exact u64_wrap _ (by omega)
theorem rHas (ws : List Int) (hw : W64 ws) (n : Nat) (hn : n < 256) : AP Tryz.prog 55 [Ws ws, .i n] (.b (hasB ws n)) := by
 have h4 := hw.len
 have hq : n / 64 < 4 := by omega
 have hg := ws_get (ws := ws) (i := n / 64) (by omega)
 obtain ⟨m, em, hm'⟩ := hw.getD hq
 rw [em] at hg
 refine AC.lbody hT hm Tryz.func55 f55_nm f55_lc f55_res f55_nt ?_
 have hd : (ws.map wD).drop (n / 64) = .v (.int .u64 m) :: (ws.map wD).drop (n / 64 + 1) := by
  rw [List.drop_eq_getElem_cons (by simp; omega)]
  congr 1
  have := wD_get (ws := ws) (i := n / 64) (by omega)
  rw [em, List.getElem?_eq_getElem (by simp; omega)] at this
  simpa [wD_eq] using this
 simp only [go_sem, Int.reduceEq, Int.reduceLE, Int.reduceLT, Int.reduceToNat, nq64 n hn]
 simp only [go_sem, Int.reduceEq, Int.reduceLE, Int.reduceLT, Int.reduceToNat, hq, hd]
 refine xl_loopM hT hm (fun i : Nat => ⟨f55_i6 (.i n) (.v (.int .u64 (m / 2 ^ i : Nat))) (.i i), []⟩)
  (fun i => i ≤ n % 64) (fun i => n % 64 - i) 0 (Nat.zero_le _) (Mv.none (by simp [f55_i6])) ?_
 intro i hi
 simp only [go_sem, Int.reduceEq, Int.reduceLE, Int.reduceLT, Int.reduceToNat, nr64 n hn]
 by_cases h : i < n % 64
 ·simp only [go_sem, Int.reduceEq, Int.reduceLE, Int.reduceLT, Int.reduceToNat, h]
  have hb : m / 2 ^ i < 2 ^ 64 := Nat.lt_of_le_of_lt (Nat.div_le_self _ _) hm'
  simp only [go_sem, Int.reduceEq, Int.reduceLE, Int.reduceLT, Int.reduceToNat, half _ hb]
  rw [wrap_succ i (by omega)]
  refine ⟨i + 1, h, by omega, Mv.none ?_⟩
  simp [Nat.pow_succ, Nat.div_div_eq_div_mul]
 ·have e : i = n % 64 := by omega
  subst e
  simp only [go_sem, Int.reduceEq, Int.reduceLE, Int.reduceLT, Int.reduceToNat, h]
  refine Fin.v ?_
  congr 1
  unfold hasB
  rw [em]
  show _ = m.testBit (n % 64)
  rw [Nat.testBit_eq_decide_div_mod_eq, show (((m / 2 ^ (n % 64) : Nat) : Int).tmod 2) = ((m / 2 ^ (n % 64) % 2 : Nat) : Int) from rfl]
  by_cases h1 : m / 2 ^ (n % 64) % 2 = 1
  ·simp [h1]
  ·rw [decide_eq_false h1, AWP.beq_false (by omega)]
theorem rWith (ws : List Int) (hw : W64 ws) (n : Nat) (hn : n < 256) : AP Tryz.prog 102 [Ws ws, .i n] (Ws (setBit ws n)) := by
 have h4 := hw.len
 have hq : n / 64 < 4 := by omega
 have hg := ws_get (ws := ws) (i := n / 64) (by omega)
 have h4' := (hw.setBit hn).len
 refine AC.lbody hT hm Tryz.func102 f102_nm f102_lc f102_res f102_nt ?_
 simp only [go_sem, Int.reduceEq, Int.reduceLE, Int.reduceLT, Int.reduceToNat]
 simp only [go_sem, Int.reduceEq, Int.reduceLE, Int.reduceLT, Int.reduceToNat, h4, W_take h4, W_drop0]
 refine (rHas ws hw n hn).pv ⟨.same (.agg (W_bl _)), .v, trivial⟩ ?_
 cases hh : hasB ws n
 case true =>
  simp only [go_sem, Int.reduceEq, Int.reduceLE, Int.reduceLT, Int.reduceToNat]
  simp only [go_sem, Int.reduceEq, Int.reduceLE, Int.reduceLT, Int.reduceToNat, h4, W_take h4, W_drop0]
  rw [setBit_has hw hn hh]
  exact Fin.ret (.same (.agg (W_bl _)))
 simp only [go_sem, Int.reduceEq, Int.reduceLE, Int.reduceLT, Int.reduceToNat]
 refine xl_loopM hT hm (fun i : Nat => ⟨f102_i8 (.i n) (.ref 0 0) (.ref 1 0) (.v (.int .u64 (2 ^ i : Nat))) (.i i), [wOb ws, wOb noneS]⟩)
  (fun i => i ≤ n % 64) (fun i => n % 64 - i) 0 (Nat.zero_le _) (Mv.of [some 0, some 1] rfl (mvW rfl rfl) (by simp [f102_i8])) ?_
 intro i hi
 simp only [go_sem, Int.reduceEq, Int.reduceLE, Int.reduceLT, Int.reduceToNat, nr64 n hn]
 by_cases h : i < n % 64
 ·have hb : 2 ^ (i + 1) < 2 ^ 64 := Nat.pow_lt_pow_right (by omega) (by omega)
  have h2 : IntKind.u64.wrap (2 * ((2 ^ i : Nat) : Int)) = ((2 ^ (i + 1) : Nat) : Int) := by
   rw [← u64_wrap _ hb]; congr 1; rw [Nat.pow_succ]; simp; omega
  simp only [go_sem, Int.reduceEq, Int.reduceLE, Int.reduceLT, Int.reduceToNat, h, h2]
  rw [wrap_succ i (by omega)]
  exact ⟨i + 1, h, by omega, Mv.of [some 0, some 1] rfl (mvW rfl rfl) (by simp)⟩
 ·have e : i = n % 64 := by omega
  subst e
  have hq' : n / 64 < ws.length := by omega
  have e1 := setBit_add hw hn hh
  simp only [go_sem, Int.reduceEq, Int.reduceLE, Int.reduceLT, Int.reduceToNat, h, nq64 n hn, hg, hq, hq', wD_eq]
  have p0 := W_put (ty := 24) (a := noneS) rfl h4'
  have e2 : (ws.map wD).set (n / 64) (.v (.int .u64 (IntKind.u64.wrap (ws.getD (n / 64) 0 + ((2 ^ (n % 64) : Nat) : Int))))) = (setBit ws n).map wD := by rw [e1, List.map_set]; rfl
  have l4 : 4 ≤ ws.length := by omega
  simp only [go_sem, Int.reduceEq, Int.reduceLE, Int.reduceLT, Int.reduceToNat, e2, l4, h4', W_take h4', p0, W_drop0]
  exact Fin.ret (.same (.agg (W_bl _)))
theorem rJoin (a b : List Int) (ha : W64 a) (hb : W64 b) : AP Tryz.prog 78 [Ws a, Ws b] (Ws (joinAll [a, b])) := by
 have h4 := ha.len
 have h4b := hb.len
 refine AC.lbody hT hm Tryz.func78 f78_nm f78_lc f78_res f78_nt ?_
 simp only [go_sem, Int.reduceEq, Int.reduceLE, Int.reduceLT, Int.reduceToNat]
 simp only [go_sem, Int.reduceEq, Int.reduceLE, Int.reduceLT, Int.reduceToNat, h4, W_take h4, W_drop0]
 refine xl_loopM hT hm (fun i : Nat × List Int => ⟨f78_i7 (.pel (b.map wD)) (.ref 0 0) (.ref 1 0) (.i i.1), [wOb noneS, wOb i.2]⟩)
  (fun i => i.1 ≤ 256 ∧ W64 i.2 ∧ ∀ n, n < 256 → hasB i.2 n = (hasB a n || (hasB b n && decide (n < i.1)))) (fun i => 256 - i.1) (0, a) ⟨by simp, ha, fun n _ => by simp⟩ (Mv.of [some 0, some 1] rfl (mvW rfl rfl) (by simp [f78_i7, W_bl])) ?_
 rintro ⟨k, ws⟩ ⟨hk, hw, hi⟩
 dsimp only at hk hw hi
 have h5 := hw.len
 simp only [go_sem, Int.reduceEq, Int.reduceLE, Int.reduceLT, Int.reduceToNat]
 by_cases h : (k : Int) < 256
 case neg =>
  have e : ws = joinAll [a, b] := hw.ext (ha.joinAll2 hb) fun n hn => by
   rw [hi n hn, hasB_joinAll2 ha hb hn, decide_eq_true (by omega), Bool.and_true]
  have p0 := W_put (ty := 24) (a := noneS) rfl h5
  simp only [go_sem, Int.reduceEq, Int.reduceLE, Int.reduceLT, Int.reduceToNat, h, h5, W_take h5, p0, W_drop0]
  rw [← e]
  exact Fin.ret (.same (.agg (W_bl _)))
 simp only [go_sem, Int.reduceEq, Int.reduceLE, Int.reduceLT, Int.reduceToNat, h, h4b, W_take h4b, W_drop0]
 refine (rHas b hb k (by omega)).pv ⟨.same (.agg (W_bl _)), .v, trivial⟩ ?_
 simp only [go_sem, Int.reduceEq, Int.reduceLE, Int.reduceLT, Int.reduceToNat]
 have w1 := wrap_succ k (by omega)
 cases hh : hasB b k
 case false =>
  simp only [go_sem, Int.reduceEq, Int.reduceLE, Int.reduceLT, Int.reduceToNat, w1]
  refine ⟨(k + 1, ws), ⟨by dsimp only; omega, hw, fun n hn => ?_⟩, by dsimp only; omega, Mv.of [some 0, some 1] rfl (mvW rfl rfl) (by simp [W_bl])⟩
  rw [hi n hn]
  congr 1
  by_cases e : n = k
  ·subst e; rw [hh]; rfl
  ·congr 1; rw [decide_eq_decide]; dsimp only; omega
 have h6 := (hw.setBit (n := k) (by omega)).len
 have p0 := W_put (ty := 24) h5 h6
 simp only [go_sem, Int.reduceEq, Int.reduceLE, Int.reduceLT, Int.reduceToNat, h5, W_take h5, W_drop0]
 refine (rWith ws hw k (by omega)).pd ⟨.same (.agg (W_bl _)), .v, trivial⟩ (.agg (W_bl _)) ?_
 simp only [go_sem, Int.reduceEq, Int.reduceLE, Int.reduceLT, Int.reduceToNat, h6, p0, w1]
 refine ⟨(k + 1, setBit ws k), ⟨by dsimp only; omega, hw.setBit (by omega), fun n hn => ?_⟩, by dsimp only; omega, Mv.of [some 0, some 1] rfl (mvW rfl rfl) (by simp [W_bl])⟩
 rw [hasB_setBit hw (by omega) hn, hi n hn, Bool.or_assoc]
 congr 1
 by_cases e : n = k
 ·subst e; simp [hh]
 ·simp only [e, decide_false, Bool.or_false]; congr 1; rw [decide_eq_decide]; omega
end Go.Proofs.YtlejbkfefpfolaaGreatDoor.W
set_option maxRecDepth 100000
namespace Go.Proofs.YtlejbkfefpfolaaGreatDoor.W
open Go Go.Proofs Go.Proofs.YtlejbkfefpfolaaGreatDoor.AWP
theorem mkTwo (k : Int) (x y : Re) : AP Tryz.prog 57 [.v (.int .u8 k), .agg x.c, .agg y.c] (.agg (Re.mk k 0 0 0 0 [x, y]).c) := by
 refine AC.lbody hT hm Tryz.func57 f57_nm f57_lc f57_res f57_nt ?_
 simp only [go_sem]
 refine Fin.ret (.aggL ?_)
 simp [CvL, Re.c_mk, Re.cs_eq]
theorem rReOf (ws : List Int) (h4 : ws.length = 4) : AP Tryz.prog 79 [Ws ws] (.agg (reS ws).c) := by
 obtain ⟨a, b, c, d, rfl⟩ := four h4
 refine AC.lbody hT hm Tryz.func79 f79_nm f79_lc f79_res f79_nt ?_
 simp only [go_sem, Int.reduceEq, Int.reduceLE, Int.reduceLT, Int.reduceToNat, wD_eq, intsEq]
 by_cases h : a = 0 ∧ b = 0 ∧ c = 0 ∧ d = 0
 ·have e : (a == 0 && (b == 0 && (c == 0 && (d == 0 && true)))) = true := by simpa using h
  simp only [go_sem, Int.reduceEq, Int.reduceLE, Int.reduceLT, Int.reduceToNat, e]
  obtain ⟨rfl, rfl, rfl, rfl⟩ := h
  have e3 : reS [0, 0, 0, 0] = .mk 1 0 0 0 0 [] := if_pos rfl
  refine (bare 1).pd (by simp) (by simp) ?_
  rw [e3]
  generalize Re.mk 1 0 0 0 0 [] = r
  simp only [go_sem, Int.reduceEq, Int.reduceLE, Int.reduceLT, Int.reduceToNat, Re.put1]
  exact Fin.ret (.same (Re.d_bl _))
 ·have e : (a == 0 && (b == 0 && (c == 0 && (d == 0 && true)))) = false := by
   rw [Bool.eq_false_iff]; simpa using h
  simp only [go_sem, Int.reduceEq, Int.reduceLE, Int.reduceLT, Int.reduceToNat, e]
  refine Fin.ret ?_
  have e3 : reS [a, b, c, d] = .mk 3 a b c d [] := if_neg (by unfold noneS; simpa using h)
  rw [e3]
  exact .aggL (by simp [CvL, Re.c_mk, Re.cs_eq])
theorem foldL_cons (kind none : Int) (x y : Re) (l : List Re) : foldL kind none (x :: y :: l) = .mk kind 0 0 0 0 [x, foldL kind none (y :: l)] := by
 unfold foldL
 simp [List.getLast?_cons, foldR]
def noK (kind : Int) : Int := if kind = 4 then 2 else 1
theorem rFold (kind : Int) : ∀ (l : List Re), l.length ≤ 100000 → AP Tryz.prog 80 [.v (.int .u8 kind), Res l] (.agg (foldL kind (noK kind) l).c) := by
 intro l
 induction l with
 | nil =>
  intro _
  refine AC.lbody hT hm Tryz.func80 f80_nm f80_lc f80_res f80_nt ?_
  simp only [go_sem, Int.reduceEq, Int.reduceLE, Int.reduceLT, Int.reduceToNat]
  have t0 : (((0 : Nat) : Int) == 0) = true := rfl
  simp only [go_sem, Int.reduceEq, Int.reduceLE, Int.reduceLT, Int.reduceToNat, List.length_nil, t0]
  have e0 : foldL kind (noK kind) [] = .mk (noK kind) 0 0 0 0 [] := rfl
  rw [e0]
  by_cases h : kind = 4
  ·subst h
   simp only [go_sem, Int.reduceEq, Int.reduceLE, Int.reduceLT, Int.reduceToNat]
   refine (bare 2).pd (by simp) (by simp) ?_
   rw [show noK 4 = 2 from rfl]
   generalize Re.mk 2 0 0 0 0 [] = r
   simp only [go_sem, Int.reduceEq, Int.reduceLE, Int.reduceLT, Int.reduceToNat, Re.put1]
   exact Fin.ret (.same (Re.d_bl _))
  ·have hf : (kind == 4) = false := AWP.beq_false h
   simp only [go_sem, Int.reduceEq, Int.reduceLE, Int.reduceLT, Int.reduceToNat, hf]
   refine (bare 1).pd (by simp) (by simp) ?_
   rw [show noK kind = 1 from if_neg h]
   generalize Re.mk 1 0 0 0 0 [] = r
   simp only [go_sem, Int.reduceEq, Int.reduceLE, Int.reduceLT, Int.reduceToNat, Re.put1]
   exact Fin.ret (.same (Re.d_bl _))
 | cons x l ih =>
  intro hl
  simp only [List.length_cons] at hl
  cases l with
  | nil =>
   have n0 : (((0 + 1 : Nat) : Int) == 0) = false := rfl
   have n1 : (((0 + 1 : Nat) : Int) == 1) = true := rfl
   have e0 : foldL kind (noK kind) [x] = x := rfl
   rw [e0]
   refine AC.lbody hT hm Tryz.func80 f80_nm f80_lc f80_res f80_nt ?_
   simp only [go_sem, Int.reduceEq, Int.reduceLE, Int.reduceLT, Int.reduceToNat]
   simp only [go_sem, Int.reduceEq, Int.reduceLE, Int.reduceLT, Int.reduceToNat, List.length_cons, List.length_nil, n0, n1, Re.put1]
   exact Fin.ret (.same (Re.d_bl _))
  | cons y l =>
   have n0 : (((l.length + 1 + 1 : Nat) : Int) == 0) = false := AWP.beq_false (by omega)
   have n1 : (((l.length + 1 + 1 : Nat) : Int) == 1) = false := AWP.beq_false (by omega)
   have ih := ih (by omega)
   simp only [List.length_cons] at hl
   rw [foldL_cons]
   refine AC.lbody hT hm Tryz.func80 f80_nm f80_lc f80_res f80_nt ?_
   simp only [go_sem, Int.reduceEq, Int.reduceLE, Int.reduceLT, Int.reduceToNat]
   simp only [go_sem, Int.reduceEq, Int.reduceLE, Int.reduceLT, Int.reduceToNat, List.length_cons, n0, n1]
   simp only [go_sem, Int.reduceEq, Int.reduceLE, Int.reduceLT, Int.reduceToNat, Nat.le_refl, List.take_of_length_le, List.length_map]
   have er : D.sl 6 (y.c :: l.map Re.c) = Res (y :: l) := by rw [← Re.cs_eq]; rfl
   rw [er]
   refine ih.qd ⟨.v, .same (by simp), trivial⟩ (Re.d_bl _) ?_
   simp only [go_sem, Int.reduceEq, Int.reduceLE, Int.reduceLT, Int.reduceToNat]
   generalize foldL kind (noK kind) (y :: l) = z
   refine (mkTwo kind x z).pd ⟨.v, .same (Re.d_bl _), .same (Re.d_bl _), trivial⟩ (Re.d_bl _) ?_
   simp only [go_sem, Int.reduceEq, Int.reduceLE, Int.reduceLT, Int.reduceToNat]
   exact Fin.ret (.aggL (by simp [CvL, Re.c_mk, Re.cs_eq]))
theorem special (b : UInt8) : AP Tryz.prog 105 [.y b] (.b (!plain b)) := by
  refine AC.lbody hT hm Tryz.func105 f105_nm f105_lc f105_res f105_nt ?_
  simp only [go_sem, Int.reduceEq, Int.reduceLE, Int.reduceLT, Int.reduceToNat]
  refine xl_loopM hT hm (fun i : Nat => ⟨f105_i7 (.y b) (.s spec1) (.i i), []⟩)
    (fun i => i ≤ 9 ∧ ∀ j, j < i → spec1.data[j]? ≠ some b) (fun i => 9 - i) 0 ⟨Nat.zero_le _, fun j h => absurd h (Nat.not_lt_zero _)⟩ (Mv.none (by simp [f105_i7, spec1])) ?_
  rintro i ⟨hi, hn⟩
  have hsz : spec1.size = 9 := rfl
  simp only [go_sem, Int.reduceEq, Int.reduceLE, Int.reduceLT, Int.reduceToNat, hsz]
  by_cases h : i < 9
  case neg =>
    have e := plain_of b fun j hj => hn j (by omega)
    simp only [go_sem, Int.reduceEq, Int.reduceLE, Int.reduceLT, Int.reduceToNat, h]
    rw [e]
    by_cases h1 : (b.toNat : Int) < 33
    · simp only [go_sem, Int.reduceEq, Int.reduceLE, Int.reduceLT, Int.reduceToNat, h1]
      exact Fin.v (by have : b.toNat < 33 := by omega
                      simp [this])
    · simp only [go_sem, Int.reduceEq, Int.reduceLE, Int.reduceLT, Int.reduceToNat, h1]
      exact Fin.v (by have : ¬ b.toNat < 33 := by omega
                      have e2 : ((126 : Int) < b.toNat) = (126 < b.toNat) := by apply propext; omega
                      simp [this, e2])
  obtain ⟨c, hc⟩ := get_lt (s := spec1) (p := i) h
  simp only [go_sem, Int.reduceEq, Int.reduceLE, Int.reduceLT, Int.reduceToNat, h, hc]
  by_cases hcb : c = b
  · subst hcb
    have e1 : ((c.toNat : Int) == c.toNat) = true := by simp
    simp only [go_sem, Int.reduceEq, Int.reduceLE, Int.reduceLT, Int.reduceToNat, e1]
    exact Fin.v (by rw [plain_not c h hc]; rfl)
  · have e1 : ((c.toNat : Int) == b.toNat) = false := by
      refine AWP.beq_false fun e => hcb ?_
      have : c.toNat = b.toNat := by omega
      exact UInt8.toNat_inj.1 this
    simp only [go_sem, Int.reduceEq, Int.reduceLE, Int.reduceLT, Int.reduceToNat, e1]
    rw [wrap_succ i (by omega)]
    refine ⟨i + 1, ⟨h, fun j hj => ?_⟩, by omega, Mv.none (by simp)⟩
    by_cases e : j = i
    · subst e; rw [hc]; simpa using hcb
    · exact hn j (by omega)
theorem rDigit (n : Nat) (h : n < 16) : AP Tryz.prog 119 [.i n] (.s ⟨#[hexD n]⟩) := by
 refine AC.lbody hT hm Tryz.func119 f119_nm f119_lc f119_res f119_nt ?_
 have h1 := wrap_succ n (by omega)
 have h2 : n ≤ n + 1 ∧ n + 1 ≤ 16 := by omega
 have e := hexD_ext n h
 unfold hexS at e
 simp only [go_sem, Int.reduceEq, Int.reduceLE, Int.reduceLT, Int.reduceToNat, h1]
 have h3 : n ≤ 15 := by omega
 simp only [go_sem, Int.reduceEq, Int.reduceLE, Int.reduceLT, Int.reduceToNat, h1, h2, h3, and_self, e]
 exact Fin.v rfl
theorem rHex (b : UInt8) : AP Tryz.prog 106 [Bys [b]] (.s ⟨(hexB b).toArray⟩) := by
 have hb := b.toNat_lt
 have ec : IntKind.i64.wrap (b.toNat : Int) = (b.toNat : Int) := wrap_nat _ (by omega)
 have eq : IntKind.i64.wrap ((b.toNat : Int).tdiv 16) = ((b.toNat / 16 : Nat) : Int) := by
  rw [show ((b.toNat : Int).tdiv 16) = ((b.toNat / 16 : Nat) : Int) from rfl, wrap_nat _ (by omega)]
 have er : ((b.toNat : Int).tmod 16) = ((b.toNat % 16 : Nat) : Int) := rfl
 have hg : (byteRows [b])[0]? = some [.y b] := rfl
 refine AC.lbody hT hm Tryz.func106 f106_nm f106_lc f106_res f106_nt ?_
 simp only [go_sem, Int.reduceEq, Int.reduceLE, Int.reduceLT, Int.reduceToNat]
 refine xl_loopM hT hm (fun i : Nat => ⟨f106_i7 (Bys [b]) (.s ⟨(if i = 0 then [] else hexB b).toArray⟩) (.i 1) (.i i), []⟩)
  (fun i => i ≤ 1) (fun i => 1 - i) 0 (Nat.zero_le _) (Mv.none (by simp [f106_i7])) ?_
 intro i hi
 simp only [go_sem, Int.reduceEq, Int.reduceLE, Int.reduceLT, Int.reduceToNat]
 cases i with
 | zero =>
  have t0 : decide (((0 : Nat) : Int) < 1) = true := rfl
  simp only [go_sem, Int.reduceEq, Int.reduceLE, Int.reduceLT, Int.reduceToNat, t0, hg, ec, eq, eq_self]
  refine (rDigit (b.toNat / 16) (by omega)).qv (by simp) ?_
  have s1 : (⟨([] : List UInt8).toArray⟩ : ByteArray) ++ ⟨#[hexD (b.toNat / 16)]⟩ = ⟨[hexD (b.toNat / 16)].toArray⟩ := ba_app [] [hexD (b.toNat / 16)]
  have s2 : (⟨[hexD (b.toNat / 16)].toArray⟩ : ByteArray) ++ ⟨#[hexD (b.toNat % 16)]⟩ = ⟨(hexB b).toArray⟩ := by
   have e1 : hexD (b.toNat % 16) = hexD b.toNat := by unfold hexD; rw [Nat.mod_mod]
   rw [e1]
   exact ba_app [hexD (b.toNat / 16)] [hexD b.toNat]
  have z1 : (⟨([] : List UInt8).toArray⟩ : ByteArray).size + (⟨#[hexD (b.toNat / 16)]⟩ : ByteArray).size ≤ 9223372036854775807 := by show (_ : Nat) + 1 ≤ _; simp [ByteArray.size]
  have z2 : (⟨[hexD (b.toNat / 16)].toArray⟩ : ByteArray).size + (⟨#[hexD (b.toNat % 16)]⟩ : ByteArray).size ≤ 9223372036854775807 := by show (_ : Nat) + 1 ≤ _; simp [ByteArray.size]
  simp only [go_sem, Int.reduceEq, Int.reduceLE, Int.reduceLT, Int.reduceToNat, hg, ec, er, s1, z1]
  refine (rDigit (b.toNat % 16) (by omega)).qv ⟨.v, trivial⟩ ?_
  simp only [go_sem, Int.reduceEq, Int.reduceLE, Int.reduceLT, Int.reduceToNat, s2, z2]
  exact ⟨1, by omega, by omega, Mv.none (by simp [f106_i7, show IntKind.i64.wrap 1 = 1 from rfl])⟩
 | succ i =>
  obtain rfl : i = 0 := by omega
  have t0 : decide (((0 + 1 : Nat) : Int) < 1) = false := rfl
  simp only [go_sem, Int.reduceEq, Int.reduceLE, Int.reduceLT, Int.reduceToNat, t0]
  exact Fin.v rfl
end Go.Proofs.YtlejbkfefpfolaaGreatDoor.W
set_option maxRecDepth 100000
namespace Go.Proofs.YtlejbkfefpfolaaGreatDoor.W
open Go Go.Proofs Go.Proofs.YtlejbkfefpfolaaGreatDoor.AWP
theorem rSign (b : UInt8) : AP Tryz.prog 85 [.y b] (.s ⟨(signB b).toArray⟩) := by
 refine AC.lbody hT hm Tryz.func85 f85_nm f85_lc f85_res f85_nt ?_
 simp only [go_sem, Int.reduceEq, Int.reduceLE, Int.reduceLT, Int.reduceToNat]
 refine (special b).pv (by simp) ?_
 unfold signB
 cases h : plain b
 case false =>
  simp only [go_sem, Int.reduceEq, Int.reduceLE, Int.reduceLT, Int.reduceToNat]
  refine (rHex b).pv ⟨.eq rfl (by simp), trivial⟩ ?_
  have s1 : (⟨#[92]⟩ : ByteArray) ++ ⟨(hexB b).toArray⟩ = ⟨(92 :: hexB b).toArray⟩ := ba_app [92] (hexB b)
  have z1 : (⟨#[92]⟩ : ByteArray).size + (⟨(hexB b).toArray⟩ : ByteArray).size ≤ 9223372036854775807 := by
   rw [ba_size]; show 1 + 2 ≤ _; omega
  simp only [go_sem, Int.reduceEq, Int.reduceLE, Int.reduceLT, Int.reduceToNat, s1, z1]
  exact Fin.v rfl
 have e1 : bytesOfRows [[.v (.int .u8 b.toNat)]] = some [b] := bytesOfRows_of [b]
 simp only [go_sem, Int.reduceEq, Int.reduceLE, Int.reduceLT, Int.reduceToNat, e1]
 exact Fin.v rfl
end Go.Proofs.YtlejbkfefpfolaaGreatDoor.W
set_option maxRecDepth 100000
namespace Go.Proofs.YtlejbkfefpfolaaGreatDoor.W
open Go Go.Proofs Go.Proofs.YtlejbkfefpfolaaGreatDoor.AWP
def pC (r : Re) (q : Nat) (f : Bool) : List D := r.c ++ [.i q, .b f]
@[simp] theorem pC_len (r : Re) (q : Nat) (f : Bool) : (pC r q f).length = 8 := by simp [pC]
theorem pC_take8 (r : Re) (q : Nat) (f : Bool) : (pC r q f).take 8 = pC r q f := List.take_of_length_le (by simp)
end Go.Proofs.YtlejbkfefpfolaaGreatDoor.W
set_option maxRecDepth 100000
namespace Go.Proofs.YtlejbkfefpfolaaGreatDoor.W
open Go Go.Proofs Go.Proofs.YtlejbkfefpfolaaGreatDoor.AWP
attribute [local irreducible] xl hide aop aops aopQ qops guardP condP
theorem size1 (l : List Re) (hz : Re.szs l ≤ 1099511627776) (ih : ∀ x ∈ l, AP Tryz.prog 50 [Res x.kids] (.i (Re.szs x.kids : Nat))) : AP Tryz.prog 50 [Res l] (.i (Re.szs l : Nat)) := by
 have hl := Re.len_szs l
 refine AC.lbody hT hm Tryz.func50 f50_nm f50_lc f50_res f50_nt ?_
 simp only [go_sem, Int.reduceEq, Int.reduceLE, Int.reduceLT, Int.reduceToNat]
 refine xl_loopM hT hm (fun i : Nat => ⟨f50_i7 (.i (l.length + Re.szs (l.take i) - i : Nat)) (Res l) (.i l.length) (.i i), []⟩)
  (fun i => i ≤ l.length) (fun i => l.length - i) 0 (Nat.zero_le _) (Mv.none (by simp [f50_i7, Re.szs])) ?_
 intro i hi
 simp only [go_sem, Int.reduceEq, Int.reduceLE, Int.reduceLT, Int.reduceToNat]
 by_cases h : i < l.length
 case neg =>
  have ht : l.take i = l := List.take_of_length_le (by omega)
  simp only [go_sem, Int.reduceEq, Int.reduceLE, Int.reduceLT, Int.reduceToNat, h]
  refine Fin.v ?_
  rw [ht]
  congr 2
  omega
 obtain ⟨x, hx⟩ := get_ex h
 have h1 := Re.szs_take hx
 have h2 := Re.szs_take_le l (i + 1)
 have h3 := Re.len_szs (l.take i)
 have h4 : (l.take i).length = i := by simp; omega
 simp only [go_sem, Int.reduceEq, Int.reduceLE, Int.reduceLT, Int.reduceToNat, h, hx, Re.c_5]
 refine (ih x (List.mem_of_getElem? hx)).pv ⟨.same (by simp), trivial⟩ ?_
 have e : IntKind.i64.wrap (((l.length + Re.szs (l.take i) - i : Nat) : Int) + (Re.szs x.kids : Nat)) = ((l.length + Re.szs (l.take (i + 1)) - (i + 1) : Nat) : Int) := by
  rw [wrap_int _ (by omega) (by omega)]; omega
 simp only [go_sem, Int.reduceEq, Int.reduceLE, Int.reduceLT, Int.reduceToNat, e]
 rw [wrap_succ i (by omega)]
 exact ⟨i + 1, h, by omega, Mv.none (by simp)⟩
theorem sizeK (r : Re) : Re.szs r.kids ≤ 1099511627776 → AP Tryz.prog 50 [Res r.kids] (.i (Re.szs r.kids : Nat)) := by
 refine Re.ind (p := fun r => Re.szs r.kids ≤ 1099511627776 → AP Tryz.prog 50 [Res r.kids] (.i (Re.szs r.kids : Nat))) ?_ r
 intro k a b c d ks ih hz
 refine size1 ks hz fun x hx => ih x hx ?_
 have := Re.sz_mem hx
 have h2 := x.sz_kids
 have hz : Re.szs ks ≤ 1099511627776 := hz
 omega
theorem size (l : List Re) (hz : Re.szs l ≤ 1099511627776) : AP Tryz.prog 50 [Res l] (.i (Re.szs l : Nat)) := sizeK (.mk 0 0 0 0 0 l) hz
def idxI {α : Type} (p : α → Bool) (l : List α) : Int :=
 match l.findIdx? p with
 | some i => i
 | none => -1
theorem idxI_nn {α : Type} (p : α → Bool) (l : List α) : decide (0 ≤ idxI p l) = l.any p := by
 unfold idxI
 cases h : l.findIdx? p with
 | none =>
  rw [List.findIdx?_eq_none_iff] at h
  have : l.any p = false := by rw [List.any_eq_false]; intro x hx; simp [h x hx]
  rw [this]; rfl
 | some i =>
  have := List.findIdx?_eq_some_iff_findIdx_eq.1 h
  have hp : l.any p = true := by
   rw [List.any_eq_true]
   exact ⟨l[i]'this.1, List.getElem_mem _, by have := (List.findIdx?_eq_some_iff_getElem.1 h).2.1; exact this⟩
  rw [hp]; simp
theorem idxRe (G : FuncId) (p : Re → Bool) (l : List Re) (hl : l.length ≤ 9223372036854775807) (H : ∀ x ∈ l, AP Tryz.prog G [.agg x.c] (.b (p x))) : AP Tryz.prog 62 [Res l, .fn G []] (.i (idxI p l)) := by
 refine AC.lbody hT hm Tryz.func62 f62_nm f62_lc f62_res f62_nt ?_
 simp only [go_sem, Int.reduceEq, Int.reduceLE, Int.reduceLT, Int.reduceToNat]
 refine xl_loopM hT hm (fun i : Nat => ⟨f62_i7 (Res l) (.fn G []) (.i l.length) (.i i), []⟩)
  (fun i => i ≤ l.length ∧ ∀ j x, j < i → l[j]? = some x → p x = false) (fun i => l.length - i) 0 ⟨Nat.zero_le _, fun j x h => absurd h (Nat.not_lt_zero _)⟩ (Mv.none (by simp [f62_i7])) ?_
 rintro i ⟨hi, hn⟩
 simp only [go_sem, Int.reduceEq, Int.reduceLE, Int.reduceLT, Int.reduceToNat]
 by_cases h : i < l.length
 case neg =>
  simp only [go_sem, Int.reduceEq, Int.reduceLE, Int.reduceLT, Int.reduceToNat, h]
  refine Fin.v ?_
  have : l.findIdx? p = none := by
   rw [List.findIdx?_eq_none_iff]
   intro x hx
   obtain ⟨j, hj⟩ := List.getElem?_of_mem hx
   exact hn j x (by have := (List.getElem?_eq_some_iff.1 hj).1; omega) hj
  unfold idxI
  rw [this]
 obtain ⟨x, hx⟩ := get_ex h
 simp only [go_sem, Int.reduceEq, Int.reduceLE, Int.reduceLT, Int.reduceToNat, h, hx]
 refine (H x (List.mem_of_getElem? hx)).pv ⟨.same (by simp), trivial⟩ ?_
 cases hp : p x
 case true =>
  simp only [go_sem, Int.reduceEq, Int.reduceLE, Int.reduceLT, Int.reduceToNat]
  refine Fin.v ?_
  have : l.findIdx? p = some i := by
   rw [List.findIdx?_eq_some_iff_getElem]
   obtain ⟨hlt, hxe⟩ := List.getElem?_eq_some_iff.1 hx
   refine ⟨hlt, by rw [hxe]; exact hp, fun j hji => ?_⟩
   have := hn j l[j] hji (List.getElem?_eq_getElem (by omega))
   simp [this]
  unfold idxI
  rw [this]
 simp only [go_sem, Int.reduceEq, Int.reduceLE, Int.reduceLT, Int.reduceToNat]
 rw [wrap_succ i (by omega)]
 refine ⟨i + 1, ⟨h, fun j y hj hy => ?_⟩, by omega, Mv.none (by simp)⟩
 by_cases e : j = i
 ·subst e; rw [hx] at hy; cases hy; exact hp
 ·exact hn j y (by omega) hy
theorem anyRe (G : FuncId) (p : Re → Bool) (l : List Re) (hl : l.length ≤ 9223372036854775807) (H : ∀ x ∈ l, AP Tryz.prog G [.agg x.c] (.b (p x))) : AP Tryz.prog 38 [Res l, .fn G []] (.b (l.any p)) := by
 refine AC.lbody hT hm Tryz.func38 f38_nm f38_lc f38_res f38_nt ?_
 simp only [go_sem, Int.reduceEq, Int.reduceLE, Int.reduceLT, Int.reduceToNat]
 refine (idxRe G p l hl H).pv ⟨.same (by simp), .same (by simp), trivial⟩ ?_
 simp only [go_sem, Int.reduceEq, Int.reduceLE, Int.reduceLT, Int.reduceToNat]
 exact Fin.v (by rw [idxI_nn])
theorem bareE (a b c d : Int) : (a == 0 && (b == 0 && (c == 0 && (d == 0 && true)))) = decide (a = 0 ∧ b = 0 ∧ c = 0 ∧ d = 0) := by
 simp only [Bool.and_true, Bool.decide_and]
 rfl
theorem lenE (n k : Nat) : ((n : Int) == (k : Int)) = decide (n = k) := by
 by_cases h : n = k
 ·subst h; simp
 ·rw [AWP.beq_false (by omega), decide_eq_false h]
set_option maxHeartbeats 1000000 in
theorem node (r : Re) : AP Tryz.prog 71 [.agg r.c] (.b r.nodeOk) := by
 obtain ⟨k, a, b, c, d, ks⟩ := r
 have l0 := lenE ks.length 0
 have l1 := lenE ks.length 1
 have l2 := lenE ks.length 2
 simp only [Int.ofNat_zero, Int.cast_ofNat_Int, Int.ofNat_one] at l0 l1 l2
 have nok : (Re.mk k a b c d ks).nodeOk = if k = 1 ∨ k = 2 then decide (ks.length = 0) && decide (a = 0 ∧ b = 0 ∧ c = 0 ∧ d = 0)
  else if k = 3 then decide (ks.length = 0) && !decide (a = 0 ∧ b = 0 ∧ c = 0 ∧ d = 0)
  else if k = 4 ∨ k = 5 then decide (ks.length = 2) && decide (a = 0 ∧ b = 0 ∧ c = 0 ∧ d = 0)
  else if k = 6 then decide (ks.length = 1) && decide (a = 0 ∧ b = 0 ∧ c = 0 ∧ d = 0)
  else false := rfl
 refine AC.lbody hT hm Tryz.func71 f71_nm f71_lc f71_res f71_nt ?_
 simp only [go_sem, Int.reduceEq, Int.reduceLE, Int.reduceLT, Int.reduceToNat, intsEq, bareE]
 rw [nok]
 generalize decide (a = 0 ∧ b = 0 ∧ c = 0 ∧ d = 0) = bare
 by_cases h1 : k = 1
 ·have e1 : (k == 1) = true := by simp [h1]
  rw [if_pos (.inl h1)]
  simp only [go_sem, Int.reduceEq, Int.reduceLE, Int.reduceLT, Int.reduceToNat, e1, l0]
  cases decide (ks.length = 0) <;> (simp only [go_sem, Int.reduceEq, Int.reduceLE, Int.reduceLT, Int.reduceToNat]; exact Fin.v rfl)
 have e1 : (k == 1) = false := AWP.beq_false h1
 by_cases h2 : k = 2
 ·have e2 : (k == 2) = true := by simp [h2]
  rw [if_pos (.inr h2)]
  simp only [go_sem, Int.reduceEq, Int.reduceLE, Int.reduceLT, Int.reduceToNat, e1, e2, l0]
  cases decide (ks.length = 0) <;> (simp only [go_sem, Int.reduceEq, Int.reduceLE, Int.reduceLT, Int.reduceToNat]; exact Fin.v rfl)
 have e2 : (k == 2) = false := AWP.beq_false h2
 rw [if_neg (by omega)]
 by_cases h3 : k = 3
 ·have e3 : (k == 3) = true := by simp [h3]
  rw [if_pos h3]
  simp only [go_sem, Int.reduceEq, Int.reduceLE, Int.reduceLT, Int.reduceToNat, e1, e2, e3, l0]
  cases decide (ks.length = 0) <;> (simp only [go_sem, Int.reduceEq, Int.reduceLE, Int.reduceLT, Int.reduceToNat]; exact Fin.v rfl)
 have e3 : (k == 3) = false := AWP.beq_false h3
 rw [if_neg h3]
 by_cases h4 : k = 4
 ·have e4 : (k == 4) = true := by simp [h4]
  rw [if_pos (.inl h4)]
  simp only [go_sem, Int.reduceEq, Int.reduceLE, Int.reduceLT, Int.reduceToNat, e1, e2, e3, e4, l2]
  cases decide (ks.length = 2) <;> (simp only [go_sem, Int.reduceEq, Int.reduceLE, Int.reduceLT, Int.reduceToNat]; exact Fin.v rfl)
 have e4 : (k == 4) = false := AWP.beq_false h4
 by_cases h5 : k = 5
 ·have e5 : (k == 5) = true := by simp [h5]
  rw [if_pos (.inr h5)]
  simp only [go_sem, Int.reduceEq, Int.reduceLE, Int.reduceLT, Int.reduceToNat, e1, e2, e3, e4, e5, l2]
  cases decide (ks.length = 2) <;> (simp only [go_sem, Int.reduceEq, Int.reduceLE, Int.reduceLT, Int.reduceToNat]; exact Fin.v rfl)
 have e5 : (k == 5) = false := AWP.beq_false h5
 rw [if_neg (by omega)]
 by_cases h6 : k = 6
 ·have e6 : (k == 6) = true := by simp [h6]
  rw [if_pos h6]
  simp only [go_sem, Int.reduceEq, Int.reduceLE, Int.reduceLT, Int.reduceToNat, e1, e2, e3, e4, e5, e6, l1]
  cases decide (ks.length = 1) <;> (simp only [go_sem, Int.reduceEq, Int.reduceLE, Int.reduceLT, Int.reduceToNat]; exact Fin.v rfl)
 have e6 : (k == 6) = false := AWP.beq_false h6
 rw [if_neg h6]
 simp only [go_sem, Int.reduceEq, Int.reduceLE, Int.reduceLT, Int.reduceToNat, e1, e2, e3, e4, e5, e6]
 exact Fin.v rfl
theorem nodes (r : Re) : AP Tryz.prog 49 [.agg r.c] (.b r.nodesOk) := by
 refine Re.ind (p := fun r => AP Tryz.prog 49 [.agg r.c] (.b r.nodesOk)) ?_ r
 intro k a b c d ks ih
 refine AC.wf rfl fun hw => ?_
 have hlen : ks.length ≤ 9223372036854775807 := by
  have := Re.ok_agg (hw _ (List.mem_cons_self ..))
  rw [Re.Ok] at this
  exact this.2
 have sub : ∀ x ∈ ks, AP Tryz.prog 72 [.agg x.c] (.b (!x.nodesOk)) := by
  intro x hx
  have h := ih x hx
  refine AC.lbody hT hm Tryz.func72 f72_nm f72_lc f72_res f72_nt ?_
  simp only [go_sem, Int.reduceEq, Int.reduceLE, Int.reduceLT, Int.reduceToNat]
  refine h.pv ⟨.same (by simp), trivial⟩ ?_
  simp only [go_sem, Int.reduceEq, Int.reduceLE, Int.reduceLT, Int.reduceToNat]
  exact Fin.v rfl
 rw [Re.nodesOk, Re.nodesOks_any]
 refine AC.lbody hT hm Tryz.func49 f49_nm f49_lc f49_res f49_nt ?_
 simp only [go_sem, Int.reduceEq, Int.reduceLE, Int.reduceLT, Int.reduceToNat]
 refine (node (.mk k a b c d ks)).pv (by simp [Re.c_mk, Re.cs_eq]) ?_
 simp only [go_sem, Int.reduceEq, Int.reduceLE, Int.reduceLT, Int.reduceToNat]
 cases (Re.mk k a b c d ks).nodeOk
 ·simp only [go_sem, Int.reduceEq, Int.reduceLE, Int.reduceLT, Int.reduceToNat]
  exact Fin.v rfl
 simp only [go_sem, Int.reduceEq, Int.reduceLE, Int.reduceLT, Int.reduceToNat]
 refine (anyRe 72 (fun x => !x.nodesOk) ks hlen sub).pv ⟨.eq (by show _ = D.sl 6 (Re.cs ks); rw [Re.cs_eq]) (by simp), .same (by simp), trivial⟩ ?_
 simp only [go_sem, Int.reduceEq, Int.reduceLE, Int.reduceLT, Int.reduceToNat]
 exact Fin.v rfl
theorem may1 (r : Re) (hz : r.sz ≤ 1099511627776) : AP Tryz.prog 48 [.agg r.c] (.b (!mayB r)) := by
 refine AC.lbody hT hm Tryz.func48 f48_nm f48_lc f48_res f48_nt ?_
 simp only [go_sem, Int.reduceEq, Int.reduceLE, Int.reduceLT, Int.reduceToNat]
 refine (nodes r).pv ⟨.same (by simp), trivial⟩ ?_
 unfold mayB
 simp only [go_sem, Int.reduceEq, Int.reduceLE, Int.reduceLT, Int.reduceToNat]
 cases r.nodesOk
 ·simp only [go_sem, Int.reduceEq, Int.reduceLE, Int.reduceLT, Int.reduceToNat]
  exact Fin.v rfl
 simp only [go_sem, Int.reduceEq, Int.reduceLE, Int.reduceLT, Int.reduceToNat]
 have e1 : Re.szs [r] = r.sz := by simp [Re.szs]
 refine (size [r] (by rw [e1]; exact hz)).pv ⟨.eq (by show _ = D.sl 6 (Re.cs [r]); rw [Re.cs_eq]; rfl) (by simp), trivial⟩ ?_
 simp only [go_sem, Int.reduceEq, Int.reduceLE, Int.reduceLT, Int.reduceToNat]
 refine Fin.v ?_
 rw [e1]
 by_cases h : r.sz ≤ 2000
 ·simp [h]; omega
 ·simp [h]; omega
theorem may (r : Re) (hz : r.sz ≤ 1099511627776) : AP Tryz.prog 29 [Res [r]] (.b (mayB r)) := by
 refine AC.lbody hT hm Tryz.func29 f29_nm f29_lc f29_res f29_nt ?_
 simp only [go_sem, Int.reduceEq, Int.reduceLE, Int.reduceLT, Int.reduceToNat]
 refine (anyRe 48 (fun x => !mayB x) [r] (by simp) (by intro x hx; rw [List.mem_singleton.1 hx]; exact may1 r hz)).pv (by simp [Re.cs_eq]) ?_
 simp only [go_sem, Int.reduceEq, Int.reduceLE, Int.reduceLT, Int.reduceToNat]
 exact Fin.v (by simp)
theorem wholeS (s : ByteArray) (hs : s.size ≤ 65536) (fr : List Ob) (hf : fr.length = 1) : AC Tryz.prog 45 [.ref 1 0] (fr ++ [rdOb s 0]) (fun o om => ∃ om', (o = .ret (wdD (pWhole s)) ∧ ∃ k, om' = [rdOb s k]) ∧ om = fr ++ om') := by
 refine (wholeC s hs).shift rfl ?_ ?_ ?_
 ·intro j d d' h1 h2
  match j with
  | 0 =>
   cases h1; cases h2
   rw [hf]
   exact .inr ⟨0, 0, rfl, rfl⟩
  | j + 1 => cases h1
 ·intro o ho
  rw [List.mem_singleton.1 ho]
  simp [ObAll]
 ·rintro o om' ⟨rfl, k, rfl⟩
  refine ⟨rfl, .tup ?_, fun x hx => ?_⟩
  ·simp
  ·rw [List.mem_singleton.1 hx]
   simp [ObAll]
theorem readN (s : ByteArray) : AP Tryz.prog 27 [.s s] (wdD (pRead s)) := by
 unfold pRead
 by_cases hs : s.size ≤ 65536
 case neg =>
  have h1 : (65536 : Int) < s.size := by omega
  rw [if_pos (by omega)]
  refine AC.lbody hT hm Tryz.func27 f27_nm f27_lc f27_res f27_nt ?_
  simp only [go_sem, Int.reduceEq, Int.reduceLE, Int.reduceLT, Int.reduceToNat, h1]
  exact Fin.ret (.tupL ⟨.aggL (by simp [CvL, Re.c_mk, Re.cs_eq]), .v, .v, trivial⟩)
 rw [if_neg (by omega)]
 have h1 : ¬ (65536 : Int) < s.size := by omega
 have hsz := pWhole_sz s
 refine AC.lbody hT hm Tryz.func27 f27_nm f27_lc f27_res f27_nt ?_
 simp only [go_sem, Int.reduceEq, Int.reduceLE, Int.reduceLT, Int.reduceToNat, h1]
 refine ⟨_, wholeS s hs [_] rfl, ?_⟩
 rintro _ _ ⟨_, ⟨rfl, k, rfl⟩, rfl⟩
 simp only [go_sem, Int.reduceEq, Int.reduceLE, Int.reduceLT, Int.reduceToNat]
 generalize pWhole s = x at hsz ⊢
 obtain ⟨r, p, e⟩ := x
 dsimp only at hsz ⊢
 by_cases he : e = 0
 case neg =>
  have e1 : ((e : Int) == 0) = false := AWP.beq_false (by omega)
  rw [if_neg (fun h => he h.1)]
  simp only [go_sem, Int.reduceEq, Int.reduceLE, Int.reduceLT, Int.reduceToNat, e1]
  exact Fin.ret (.tupL ⟨.same (Re.d_bl _), .v, .v, trivial⟩)
 have e1 : ((e : Int) == 0) = true := by simp [he]
 simp only [go_sem, Int.reduceEq, Int.reduceLE, Int.reduceLT, Int.reduceToNat, e1]
 refine (may r (by omega)).pv ⟨.eq (by show _ = D.sl 6 (Re.cs [r]); rw [Re.cs_eq]; rfl) (by simp), trivial⟩ ?_
 cases hmy : mayB r
 ·rw [if_pos ⟨he, rfl⟩]
  simp only [go_sem, Int.reduceEq, Int.reduceLE, Int.reduceLT, Int.reduceToNat]
  exact Fin.ret (.tupL ⟨.aggL (by simp [CvL, Re.c_mk, Re.cs_eq]), .v, .v, trivial⟩)
 ·rw [if_neg (by simp)]
  simp only [go_sem, Int.reduceEq, Int.reduceLE, Int.reduceLT, Int.reduceToNat]
  exact Fin.ret (.tupL ⟨.same (Re.d_bl _), .v, .v, trivial⟩)
end Go.Proofs.YtlejbkfefpfolaaGreatDoor.W
set_option maxRecDepth 100000
namespace Go.Proofs.YtlejbkfefpfolaaGreatDoor.W
open Go Go.Proofs Go.Proofs.YtlejbkfefpfolaaGreatDoor.AWP
attribute [local irreducible] xl hide aop aops aopQ qops guardP condP
theorem rAllN (r : Re) : r.sz ≤ 1099511627776 → AP Tryz.prog 54 [.agg r.c] (Res r.pre) := by
 refine Re.ind (p := fun r => r.sz ≤ 1099511627776 → AP Tryz.prog 54 [.agg r.c] (Res r.pre)) ?_ r
 intro k a b c d ks ih hz
 rw [Re.sz] at hz
 have hlen := Re.len_szs ks
 have hh : (Re.mk k a b c d ks).pre = Re.mk k a b c d ks :: Re.pres ks := by rw [Re.pre]
 refine AC.lbody hT hm Tryz.func54 f54_nm f54_lc f54_res f54_nt ?_
 simp only [go_sem, Int.reduceEq, Int.reduceLE, Int.reduceLT, Int.reduceToNat]
 refine xl_loopM hT hm (fun i : Nat => ⟨f54_i7 (.pel (Re.mk k a b c d ks).c) (.own 0) (.i ks.length) (.i i), [lsOb (Re.mk k a b c d ks :: Re.pres (ks.take i))]⟩)
  (fun i => i ≤ ks.length) (fun i => ks.length - i) 0 (Nat.zero_le _) ?_ ?_
 ·refine Mv.of [some 0] rfl ⟨?_, trivial⟩ (by simp [f54_i7, Re.c_mk, Re.cs_eq])
  exact .slcS (by simp [Re.c_mk, Re.cs_eq, Re.pres]) (Re.map_bl _)
 intro i hi
 simp only [go_sem, Int.reduceEq, Int.reduceLE, Int.reduceLT, Int.reduceToNat]
 by_cases h : i < ks.length
 case neg =>
  have ht : ks.take i = ks := List.take_of_length_le (by omega)
  simp only [go_sem, Int.reduceEq, Int.reduceLE, Int.reduceLT, Int.reduceToNat, h]
  rw [ht, hh]
  exact Fin.ret (cvLs rfl rfl)
 obtain ⟨x, hx⟩ := get_ex h
 have hxm := List.mem_of_getElem? hx
 have h1 := Re.pres_take hx
 have h2 := Re.szs_take hx
 have h3 := Re.szs_take_le ks (i + 1)
 have h4 := Re.sz_mem hxm
 have h5 := x.sz_kids
 have h6 := Re.pres_len (ks.take i)
 have h7 := x.pre_len
 simp only [go_sem, Int.reduceEq, Int.reduceLE, Int.reduceLT, Int.reduceToNat, h, hx, Re.c_5]
 refine (ih x hxm (by omega)).pd (by simp) (by simp) ?_
 simp only [go_sem, Int.reduceEq, Int.reduceLE, Int.reduceLT, Int.reduceToNat]
 refine ⟨by omega, i + 1, by omega, by omega, ?_⟩
 rw [wrap_succ i (by omega), h1]
 refine Mv.of [some 1] rfl ⟨.slcS (by simp [Re.c_mk, Re.cs_eq]) (Re.map_bl _), trivial⟩ (by simp [f54_i7, Re.c_mk, Re.cs_eq])
theorem rMay (r : Re) (hz : r.sz ≤ 1099511627776) : AP Tryz.prog 31 [.agg r.c] (.b (mayB r)) := by
 have hlen := r.pre_len
 have hmb : mayB r = (r.pre.all Re.nodeOk && decide (r.sz ≤ 2000)) := by unfold mayB; rw [r.nodesOk_pre]
 rw [hmb]
 refine AC.lbody hT hm Tryz.func31 f31_nm f31_lc f31_res f31_nt ?_
 simp only [go_sem, Int.reduceEq, Int.reduceLE, Int.reduceLT, Int.reduceToNat]
 refine (rAllN r hz).pd (by simp) (by simp) ?_
 simp only [go_sem, Int.reduceEq, Int.reduceLE, Int.reduceLT, Int.reduceToNat]
 refine xl_loopM hT hm (fun i : Nat => ⟨f31_i11 (Res r.pre) (.i r.pre.length) (.i i), []⟩)
  (fun i => i ≤ r.pre.length ∧ ∀ j x, j < i → r.pre[j]? = some x → x.nodeOk = true) (fun i => r.pre.length - i) 0 ⟨Nat.zero_le _, fun j x h => absurd h (Nat.not_lt_zero _)⟩ (Mv.none (by simp [f31_i11])) ?_
 rintro i ⟨hi, hn⟩
 simp only [go_sem, Int.reduceEq, Int.reduceLE, Int.reduceLT, Int.reduceToNat]
 by_cases h : i < r.pre.length
 case neg =>
  simp only [go_sem, Int.reduceEq, Int.reduceLE, Int.reduceLT, Int.reduceToNat, h]
  refine Fin.v ?_
  have : r.pre.all Re.nodeOk = true := by
   rw [List.all_eq_true]
   intro x hx
   obtain ⟨j, hj⟩ := List.getElem?_of_mem hx
   exact hn j x (by have := (List.getElem?_eq_some_iff.1 hj).1; omega) hj
  rw [this, hlen, Bool.true_and]
  congr 1
  exact decide_eq_decide.2 (by omega)
 obtain ⟨x, hx⟩ := get_ex h
 have bad : x.nodeOk = false → (r.pre.all Re.nodeOk && decide (r.sz ≤ 2000)) = false := by
  intro h0
  have : r.pre.all Re.nodeOk = false := by
   rw [List.all_eq_false]
   exact ⟨x, List.mem_of_getElem? hx, by rw [h0]; simp⟩
  rw [this]; rfl
 have good : x.nodeOk = true → (i < r.pre.length ∧ ∀ j y, j < i + 1 → r.pre[j]? = some y → y.nodeOk = true) := by
  intro h0
  refine ⟨h, fun j y hj hy => ?_⟩
  by_cases e : j = i
  ·subst e; rw [hx] at hy; cases hy; exact h0
  ·exact hn j y (by omega) hy
 obtain ⟨k, a, b, c, d, ks⟩ := x
 have nok : (Re.mk k a b c d ks).nodeOk = if k = 1 ∨ k = 2 then decide (ks.length = 0) && decide (a = 0 ∧ b = 0 ∧ c = 0 ∧ d = 0)
  else if k = 3 then decide (ks.length = 0) && !decide (a = 0 ∧ b = 0 ∧ c = 0 ∧ d = 0)
  else if k = 4 ∨ k = 5 then decide (ks.length = 2) && decide (a = 0 ∧ b = 0 ∧ c = 0 ∧ d = 0)
  else if k = 6 then decide (ks.length = 1) && decide (a = 0 ∧ b = 0 ∧ c = 0 ∧ d = 0)
  else false := rfl
 simp only [go_sem, Int.reduceEq, Int.reduceLE, Int.reduceLT, Int.reduceToNat, h, hx, Re.c_mk, intsEq, bareE]
 rw [nok] at bad good
 generalize decide (a = 0 ∧ b = 0 ∧ c = 0 ∧ d = 0) = bare at bad good ⊢
 by_cases k1 : k < 1
 ·simp only [go_sem, Int.reduceEq, Int.reduceLE, Int.reduceLT, Int.reduceToNat, h, hx, Re.c_mk, k1]
  refine Fin.v ?_
  rw [bad (by rw [if_neg (by omega), if_neg (by omega), if_neg (by omega), if_neg (by omega)])]
 by_cases k6 : 6 < k
 ·simp only [go_sem, Int.reduceEq, Int.reduceLE, Int.reduceLT, Int.reduceToNat, h, hx, Re.c_mk, k1, k6]
  refine Fin.v ?_
  rw [bad (by rw [if_neg (by omega), if_neg (by omega), if_neg (by omega), if_neg (by omega)])]
 have hk : k = 1 ∨ k = 2 ∨ k = 3 ∨ k = 4 ∨ k = 5 ∨ k = 6 := by omega
 have w0 : IntKind.u8.wrap 0 = 0 := rfl
 have w1 : IntKind.u8.wrap 1 = 1 := rfl
 have w2 : IntKind.u8.wrap 2 = 2 := rfl
 have w3 : IntKind.u8.wrap 3 = 3 := rfl
 have w4 : IntKind.u8.wrap 4 = 4 := rfl
 have w5 : IntKind.u8.wrap 5 = 5 := rfl
 have b0 : ((ks.length : Int) != 0) = !decide (ks.length = 0) := by rw [bne, ← lenE]; rfl
 have b1 : ((ks.length : Int) != 1) = !decide (ks.length = 1) := by rw [bne, ← lenE]; rfl
 have b2 : ((ks.length : Int) != 2) = !decide (ks.length = 2) := by rw [bne, ← lenE]; rfl
 clear nok
 rcases hk with rfl | rfl | rfl | rfl | rfl | rfl
 all_goals
  simp only [go_sem, Int.reduceEq, Int.reduceLE, Int.reduceLT, Int.reduceToNat, h, hx, Re.c_mk, k1, k6, Int.reduceBEq, Bool.true_beq, Bool.false_beq]
  cases bare
 all_goals simp only [go_sem, Int.reduceEq, Int.reduceLE, Int.reduceLT, Int.reduceToNat, h, hx, Re.c_mk, k1, k6, Bool.not_true, Bool.not_false, Int.reduceSub, w0, w1, w2, w3, w4, w5, b0, b1, b2]
 case neg.inl.false => exact Fin.v (by rw [bad (by simp)])
 case neg.inr.inl.false => exact Fin.v (by rw [bad (by simp)])
 case neg.inr.inr.inl.true => exact Fin.v (by rw [bad (by simp)])
 case neg.inr.inr.inr.inl.false => exact Fin.v (by rw [bad (by simp)])
 case neg.inr.inr.inr.inr.inl.false => exact Fin.v (by rw [bad (by simp)])
 case neg.inr.inr.inr.inr.inr.false => exact Fin.v (by rw [bad (by simp)])
 case neg.inl.true =>
  cases hl : decide (ks.length = 0)
  ·simp only [go_sem, Int.reduceEq, Int.reduceLE, Int.reduceLT, Int.reduceToNat, Bool.not_false]
   exact Fin.v (by rw [bad (by rw [hl]; simp)])
  ·simp only [go_sem, Int.reduceEq, Int.reduceLE, Int.reduceLT, Int.reduceToNat, Bool.not_true]
   rw [wrap_succ i (by omega)]
   exact ⟨i + 1, good (by rw [hl]; simp), by omega, Mv.none (by simp)⟩
 case neg.inr.inl.true =>
  cases hl : decide (ks.length = 0)
  ·simp only [go_sem, Int.reduceEq, Int.reduceLE, Int.reduceLT, Int.reduceToNat, Bool.not_false]
   exact Fin.v (by rw [bad (by rw [hl]; simp)])
  ·simp only [go_sem, Int.reduceEq, Int.reduceLE, Int.reduceLT, Int.reduceToNat, Bool.not_true]
   rw [wrap_succ i (by omega)]
   exact ⟨i + 1, good (by rw [hl]; simp), by omega, Mv.none (by simp)⟩
 case neg.inr.inr.inl.false =>
  cases hl : decide (ks.length = 0)
  ·simp only [go_sem, Int.reduceEq, Int.reduceLE, Int.reduceLT, Int.reduceToNat, Bool.not_false]
   exact Fin.v (by rw [bad (by rw [hl]; simp)])
  ·simp only [go_sem, Int.reduceEq, Int.reduceLE, Int.reduceLT, Int.reduceToNat, Bool.not_true]
   rw [wrap_succ i (by omega)]
   exact ⟨i + 1, good (by rw [hl]; simp), by omega, Mv.none (by simp)⟩
 case neg.inr.inr.inr.inl.true =>
  cases hl : decide (ks.length = 2)
  ·simp only [go_sem, Int.reduceEq, Int.reduceLE, Int.reduceLT, Int.reduceToNat, Bool.not_false]
   exact Fin.v (by rw [bad (by rw [hl]; simp)])
  ·simp only [go_sem, Int.reduceEq, Int.reduceLE, Int.reduceLT, Int.reduceToNat, Bool.not_true]
   rw [wrap_succ i (by omega)]
   exact ⟨i + 1, good (by rw [hl]; simp), by omega, Mv.none (by simp)⟩
 case neg.inr.inr.inr.inr.inl.true =>
  cases hl : decide (ks.length = 2)
  ·simp only [go_sem, Int.reduceEq, Int.reduceLE, Int.reduceLT, Int.reduceToNat, Bool.not_false]
   exact Fin.v (by rw [bad (by rw [hl]; simp)])
  ·simp only [go_sem, Int.reduceEq, Int.reduceLE, Int.reduceLT, Int.reduceToNat, Bool.not_true]
   rw [wrap_succ i (by omega)]
   exact ⟨i + 1, good (by rw [hl]; simp), by omega, Mv.none (by simp)⟩
 case neg.inr.inr.inr.inr.inr.true =>
  cases hl : decide (ks.length = 1)
  ·simp only [go_sem, Int.reduceEq, Int.reduceLE, Int.reduceLT, Int.reduceToNat, Bool.not_false]
   exact Fin.v (by rw [bad (by rw [hl]; simp)])
  ·simp only [go_sem, Int.reduceEq, Int.reduceLE, Int.reduceLT, Int.reduceToNat, Bool.not_true]
   rw [wrap_succ i (by omega)]
   exact ⟨i + 1, good (by rw [hl]; simp), by omega, Mv.none (by simp)⟩
end Go.Proofs.YtlejbkfefpfolaaGreatDoor.W
