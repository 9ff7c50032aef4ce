/- The document's bytes of a set. -/
import Derived.Test.YtlejbkfefpfolaaGreatDoorNull
import Derived.Test.YtlejbkfefpfolaaGreatDoorMath
import Derived.Test.YtlejbkfefpfolaaGreatDoorMathB
set_option linter.unusedVariables false
set_option linter.unusedSimpArgs false
set_option linter.unusedSectionVars false
set_option maxRecDepth 100000
namespace Go.Proofs.YtlejbkfefpfolaaGreatDoor.W
open Go Go.Proofs Go.Proofs.YtlejbkfefpfolaaGreatDoor.AWP
attribute [local irreducible] xl hide aop aops aopQ qops guardP condP
theorem gt0 : gtD 0 = .pel gtbl := _root_.id rfl
theorem gt_get (k : Nat) (h : k < 64) : gtbl[2 ^ k * 285870213051353865 % 2 ^ 64 / 2 ^ 58]? = some (.v (.int .u8 (k : Int))) := by
 have key : ∀ n : _root_.Fin 64, gbytes[2 ^ n.val * 285870213051353865 % 2 ^ 64 / 2 ^ 58]? = some (n.val : Int) := by decide +kernel
 have := key ⟨k, h⟩
 unfold gtbl
 rw [List.getElem?_map, this]; rfl
theorem neg64 (w : Nat) (h : 0 < w) (h' : w < 2 ^ 64) : IntKind.wrap .u64 (0 - (w : Int)) = ((2 ^ 64 - w : Nat) : Int) := by
 rw [IntKind.wrap_u64]; omega
theorem and64 (m n : Nat) (hm : m < 2 ^ 64) (hn : n < 2 ^ 64) : bits .and .u64 (m : Int) (n : Int) = ((m &&& n : Nat) : Int) := by
 have h : m &&& n < 2 ^ 64 := Nat.and_lt_two_pow m hn
 show IntKind.wrap .u64 ((BitVec.ofInt 64 (m : Int) &&& BitVec.ofInt 64 (n : Int)).toNat : Int) = _
 have e1 : (BitVec.ofInt 64 (m : Int)).toNat = m := by simp [BitVec.toNat_ofInt]; omega
 have e2 : (BitVec.ofInt 64 (n : Int)).toNat = n := by simp [BitVec.toNat_ofInt]; omega
 rw [BitVec.toNat_and, e1, e2, u64_wrap _ h]
theorem mul64 (a : Nat) : IntKind.wrap .u64 ((a : Int) * 285870213051353865) = ((a * 285870213051353865 % 2 ^ 64 : Nat) : Int) := by
 rw [IntKind.wrap_u64]; omega
theorem tz_k {k q : Nat} (h : 2 ^ k * (2 * q + 1) < 2 ^ 64) : k < 64 := by
 rcases Nat.lt_or_ge k 64 with hk | hk
 ·exact hk
 ·have h1 : 2 ^ 64 ≤ 2 ^ k := Nat.pow_le_pow_right (by omega) hk
  have h2 : 2 ^ k ≤ 2 ^ k * (2 * q + 1) := Nat.le_mul_of_pos_right _ (by omega)
  omega
theorem tz_lt (x : Nat) : x % 2 ^ 64 / 2 ^ 58 < 64 := by
 have := Nat.mod_lt x (show 0 < 2 ^ 64 by decide)
 omega
theorem tzWalk (w v A M N k : Nat) (hne : ¬ (w : Int) = 0) (e1 : IntKind.wrap .u64 (0 - (w : Int)) = (v : Int)) (e2 : bits .and .u64 (w : Int) (v : Int) = (A : Int)) (e3 : IntKind.wrap .u64 ((A : Int) * 285870213051353865) = (M : Int))
  (e4 : (M : Int).fdiv (2 ^ 58) = (N : Int)) (hlt : N < 64) (hd : (gtbl.drop N)[0]? = some (.v (.int .u8 (k : Int)))) (hk : k < 64) : AP Tryz.prog 111 [.v (.int .u64 (w : Int))] (.i k) := by
 have hmin : min 58 64 = 58 := by decide
 have hif : (0 ≤ (N : Int) ∧ (N : Int) < ((64 : Nat) : Int)) := by omega
 have hw : IntKind.wrap .i64 (k : Int) = (k : Int) := wrap_nat _ (by omega)
 refine AC.lbody hT hm Tryz.func111 f111_nm f111_lc f111_res f111_nt ?_
 simp only [go_sem, Int.reduceEq, Int.reduceLE, Int.reduceLT, Int.reduceToNat, beq_false hne, e1, e2, e3, hmin, e4, if_pos hif, Int.toNat_natCast, gt0, hlt, hd, hw]
 exact Fin.v rfl
theorem tz64 (k q : Nat) (h : 2 ^ k * (2 * q + 1) < 2 ^ 64) : AP Tryz.prog 111 [.v (.int .u64 ((2 ^ k * (2 * q + 1) : Nat) : Int))] (.i k) := by
 have hk := tz_k h
 have hpos : 0 < 2 ^ k * (2 * q + 1) := Nat.mul_pos (Nat.two_pow_pos k) (by omega)
 have e2 := and64 _ _ h (Nat.sub_lt (Nat.two_pow_pos 64) hpos)
 rw [and_neg k q h] at e2
 exact tzWalk _ _ _ _ _ k (by omega) (neg64 _ hpos h) e2 (mul64 (2 ^ k)) (shrN _ 58) (tz_lt _) (by rw [List.getElem?_drop, Nat.add_zero, gt_get k hk]) hk
end Go.Proofs.YtlejbkfefpfolaaGreatDoor.W
set_option maxRecDepth 100000
namespace Go.Proofs.YtlejbkfefpfolaaGreatDoor.W
open Go Go.Proofs Go.Proofs.YtlejbkfefpfolaaGreatDoor.AWP
attribute [local irreducible] xl hide aop aops aopQ qops guardP condP
def rowsN (l : List Nat) : List (List D) := l.map fun n : Nat => [.v (.int .u8 (n : Int))]
abbrev nbOb (l : List Nat) : Ob := .slc 5 1 (rowsN l)
abbrev ByN (l : List Nat) : D := .sl 1 (rowsN l)
theorem rowsN_bl (l : List Nat) : ∀ r ∈ rowsN l, ∀ d ∈ r, Bl 0 d := by
 intro r hr d hd
 obtain ⟨n, _, rfl⟩ := List.mem_map.1 hr
 rw [List.mem_singleton.1 hd]; exact .v _
theorem rowsN_len (l : List Nat) : (rowsN l).length = l.length := by simp [rowsN]
def bytesN (ms : List Nat) (i : Nat) : List Nat := (List.range i).flatMap fun j => (bitsL (ms.getD j 0)).map (64 * j + ·)
theorem bytesN_succ (ms : List Nat) (i : Nat) : bytesN ms (i + 1) = bytesN ms i ++ (bitsL (ms.getD i 0)).map (64 * i + ·) := by
 unfold bytesN; rw [List.range_succ, List.flatMap_append]; simp
theorem bitsL_len (w : Nat) : (bitsL w).length ≤ 64 := by
 have := List.length_filter_le (fun n => w.testBit n) (List.range 64)
 simpa [bitsL] using this
theorem bytesN_len (ms : List Nat) : ∀ i, (bytesN ms i).length ≤ 64 * i
 | 0 => by simp [bytesN]
 | i + 1 => by
  have h1 := bytesN_len ms i
  have h2 := bitsL_len (ms.getD i 0)
  rw [bytesN_succ, List.length_append, List.length_map]; omega
theorem frzB {l : List Nat} {k : Nat} {om : List Ob} (h : om[k]? = some (nbOb l)) : Cv om (fun _ => true) [] (.own k) (ByN l) := Cv.frzS h rfl (rowsN_bl l)
theorem sub64 (w : Nat) (h : 0 < w) (h' : w < 2 ^ 64) : IntKind.wrap .u64 ((w : Int) - 1) = ((w - 1 : Nat) : Int) := by
 rw [IntKind.wrap_u64]; omega
theorem u8_wrap (n : Nat) (h : n < 256) : IntKind.wrap .u8 (n : Int) = (n : Int) := by
 rw [IntKind.wrap_u8]; omega
abbrev msD (ms : List Nat) : D := .agg (ms.map fun m : Nat => .v (.int .u64 (m : Int)))
@[simp] theorem ms_bl (ms : List Nat) : Bl 0 (msD ms) := .agg fun d hd => by
 obtain ⟨n, _, rfl⟩ := List.mem_map.1 hd
 exact .v _
theorem ms_get {ms : List Nat} {i w : Nat} (h : ms[i]? = some w) : (ms.map fun m : Nat => D.v (.int .u64 (m : Int)))[i]? = some (.v (.int .u64 (w : Int))) := by
 rw [List.getElem?_map, h]; rfl
theorem mvN1 {l : List Nat} {k : Nat} {om : List Ob} {F : Nat → Bool} (h : om[k]? = some (nbOb l)) : MvL om F [some k] [some k] [nbOb l] := ⟨.slcS h (rowsN_bl l), trivial⟩
theorem setBytes (ms : List Nat) (h4 : ms.length = 4) (hlt : ∀ m ∈ ms, m < 2 ^ 64) : AP Tryz.prog 90 [.agg (ms.map fun m : Nat => .v (.int .u64 (m : Int)))] (ByN (bytesN ms 4)) := by
 refine AC.lbody hT hm Tryz.func90 f90_nm f90_lc f90_res f90_nt ?_
 have htk : List.take 4 (ms.map fun m : Nat => D.v (.int .u64 (m : Int))) = ms.map fun m : Nat => D.v (.int .u64 (m : Int)) := List.take_of_length_le (by simp [h4])
 have h44 : 4 ≤ ms.length := by omega
 simp only [go_sem, Int.reduceEq, Int.reduceLE, Int.reduceLT, Int.reduceToNat]
 rw [if_pos h44, htk]
 simp only [go_sem, Int.reduceEq, Int.reduceLE, Int.reduceLT, Int.reduceToNat]
 refine xl_loopM hT hm (fun i : Nat => ⟨f90_i10 (.own 0) (msD ms) (.i i), [nbOb (bytesN ms i)]⟩)
  (fun i => i ≤ 4) (fun i => 4 - i) 0 (Nat.zero_le _) (Mv.of [none] rfl ⟨.nil (by simp), trivial⟩ (by simp [f90_i10])) ?_
 intro i hi
 simp only [go_sem, Int.reduceEq, Int.reduceLE, Int.reduceLT, Int.reduceToNat]
 by_cases h : i < 4
 case neg =>
  obtain rfl : i = 4 := by omega
  have hf : decide (((4 : Nat) : Int) < 4) = false := rfl
  simp only [go_sem, Int.reduceEq, Int.reduceLE, Int.reduceLT, Int.reduceToNat, hf]
  exact Fin.ret (frzB rfl)
 have ht : decide ((i : Int) < 4) = true := by simp; omega
 obtain ⟨w0, hw0⟩ := get_ex (l := ms) (show i < ms.length by omega)
 have hg := ms_get hw0
 have hwl := hlt w0 (List.mem_of_getElem? hw0)
 have hsu := bytesN_succ ms i
 have hgd : ms.getD i 0 = w0 := by rw [List.getD_eq_getElem?_getD, hw0]; rfl
 rw [hgd] at hsu
 have hlen1 := bytesN_len ms i
 have hlen2 := bitsL_len w0
 simp only [go_sem, Int.reduceEq, Int.reduceLE, Int.reduceLT, Int.reduceToNat, ht, hg]
 rw [if_pos h]
 simp only [go_sem, Int.reduceEq, Int.reduceLE, Int.reduceLT, Int.reduceToNat]
 refine xl_loopM hT hm (fun p : Nat × List Nat => ⟨f90_i8 (.own 0) (.i i) (.v (.int .u64 (p.1 : Int))) (msD ms) (.i i), [nbOb p.2]⟩)
  (fun p => p.1 < 2 ^ 64 ∧ p.2 ++ (bitsL p.1).map (64 * i + ·) = bytesN ms (i + 1)) (fun p => p.1) (w0, bytesN ms i) ⟨hwl, hsu.symm⟩ (Mv.of [some 0] rfl (mvN1 rfl) (by simp [f90_i8])) ?_
 rintro ⟨w, L⟩ ⟨hw, hL⟩
 simp only at hw hL ⊢
 by_cases hz : w = 0
 ·subst hz
  have hf : (((0 : Nat) : Int) != 0) = false := rfl
  rw [bitsL_zero, List.map_nil, List.append_nil] at hL
  simp only [go_sem, Int.reduceEq, Int.reduceLE, Int.reduceLT, Int.reduceToNat, hf]
  refine ⟨i + 1, h, by omega, ?_⟩
  rw [wrap_succ i (by omega), ← hL]
  exact Mv.of [some 0] rfl (mvN1 rfl) (by simp)
 have hne : ¬ (w : Int) = 0 := by omega
 obtain ⟨k, q, hkq⟩ := low_bit w hz
 have hk : k < 64 := tz_k (q := q) (by rw [← hkq]; exact hw)
 have hcl := clear_low k q
 have hst := bitsL_step k q hk
 have htz := tz64 k q (by rw [← hkq]; exact hw)
 rw [← hkq] at hcl hst htz
 have hlt2 : 2 ^ k * (2 * q) < w := by rw [hkq]; exact Nat.mul_lt_mul_of_pos_left (by omega) (Nat.two_pow_pos k)
 have g1 := sub64 w (by omega) hw
 have g2 := and64 w (w - 1) hw (by omega)
 rw [hcl] at g2
 have g3 : IntKind.wrap .i64 (64 * (i : Int)) = ((64 * i : Nat) : Int) := by rw [wrap_int _ (by omega) (by omega)]; omega
 have g4 : IntKind.wrap .i64 (((64 * i : Nat) : Int) + (k : Int)) = ((64 * i + k : Nat) : Int) := by rw [wrap_int _ (by omega) (by omega)]; omega
 have g5 := u8_wrap (64 * i + k) (by omega)
 rw [hst, List.map_cons] at hL
 have hLl : L.length ≤ 256 := by
  have := congrArg List.length hL
  have h5 := bytesN_len ms (i + 1)
  rw [List.length_append] at this; omega
 have hLr := rowsN_len L
 generalize 2 ^ k * (2 * q) = w' at *
 simp only [go_sem, Int.reduceEq, Int.reduceLE, Int.reduceLT, Int.reduceToNat, bne_true hne, g3]
 refine htz.pv ⟨.v, trivial⟩ ?_
 simp only [go_sem, Int.reduceEq, Int.reduceLE, Int.reduceLT, Int.reduceToNat, g3, g4, g5]
 refine ⟨by omega, (w', L ++ [64 * i + k]), ⟨by simp only; omega, by simp only; rw [List.append_assoc]; exact hL⟩, hlt2, ?_⟩
 simp only [g1, g2]
 exact Mv.of [some 1] rfl (mvN1 (by simp [rowsN])) (by simp [f90_i8])
end Go.Proofs.YtlejbkfefpfolaaGreatDoor.W
set_option maxRecDepth 100000
namespace Go.Proofs.YtlejbkfefpfolaaGreatDoor.W
open Go Go.Proofs Go.Proofs.YtlejbkfefpfolaaGreatDoor.AWP
attribute [local irreducible] xl hide aop aops aopQ qops guardP condP
theorem hasL_bytes (ms : List Nat) (h4 : ms.length = 4) : ∀ i, i ≤ 4 → hasL (ms.map fun m : Nat => (m : Int)) (64 * i) = bytesN ms i := by
 intro i
 induction i with
 | zero => intro _; rfl
 | succ i ih =>
  intro hi
  have e : hasL (ms.map fun m : Nat => (m : Int)) (64 * (i + 1)) = hasL (ms.map fun m : Nat => (m : Int)) (64 * i) ++ ((List.range 64).map (64 * i + ·)).filter (fun b => hasB (ms.map fun m : Nat => (m : Int)) b) := by
   unfold hasL
   rw [Nat.mul_add, Nat.mul_one, List.range_add, List.filter_append]
  rw [e, ih (by omega), bytesN_succ, List.filter_map]
  congr 2
  unfold bitsL
  refine List.filter_congr fun n hn => ?_
  have hn' : n < 64 := List.mem_range.1 hn
  show hasB (ms.map fun m : Nat => (m : Int)) (64 * i + n) = _
  unfold hasB
  have h1 : (64 * i + n) / 64 = i := by omega
  have h2 : (64 * i + n) % 64 = n := by omega
  rw [h1, h2]
  congr 1
  have hil : i < ms.length := by omega
  simp [List.getD_eq_getElem?_getD, List.getElem?_eq_getElem hil]
theorem rBytes (ws : List Int) (hw : W64 ws) : AP Tryz.prog 84 [Ws ws] (ByN (hasL ws 256)) := by
 have h4 := hw.len
 obtain ⟨a, b, c, d, rfl⟩ := four h4
 refine AC.lbody hT hm Tryz.func84 f84_nm f84_lc f84_res f84_nt ?_
 simp only [go_sem, Int.reduceEq, Int.reduceLE, Int.reduceLT, Int.reduceToNat]
 refine xl_loopM hT hm (fun i : Nat => ⟨f84_i7 (.pel [wD a, wD b, wD c, wD d]) (.own 0) (.i i), [nbOb (hasL [a, b, c, d] i)]⟩)
  (fun i => i ≤ 256) (fun i => 256 - i) 0 (Nat.zero_le _) (Mv.of [some 0] rfl (mvN1 rfl) (by simp [f84_i7, wD])) ?_
 intro i hi
 simp only [go_sem, Int.reduceEq, Int.reduceLE, Int.reduceLT, Int.reduceToNat]
 by_cases h : i < 256
 case neg =>
  obtain rfl : i = 256 := by omega
  have hf : decide (((256 : Nat) : Int) < 256) = false := rfl
  simp only [go_sem, Int.reduceEq, Int.reduceLE, Int.reduceLT, Int.reduceToNat, hf]
  exact Fin.ret (frzB rfl)
 have ht : decide ((i : Int) < 256) = true := by simp; omega
 have hsu := hasL_succ [a, b, c, d] i
 have hl := hasL_len [a, b, c, d] i
 have hr := rHas [a, b, c, d] hw i h
 have g5 := u8_wrap i h
 generalize hasL [a, b, c, d] i = L at *
 have hLr := rowsN_len L
 simp only [go_sem, Int.reduceEq, Int.reduceLE, Int.reduceLT, Int.reduceToNat, ht]
 refine hr.pv ⟨.same (.agg (W_bl [a, b, c, d])), .v, trivial⟩ ?_
 cases hb : hasB [a, b, c, d] i with
 | false =>
  rw [hb] at hsu
  simp only [go_sem, Int.reduceEq, Int.reduceLE, Int.reduceLT, Int.reduceToNat]
  refine ⟨i + 1, h, by omega, ?_⟩
  rw [wrap_succ i (by omega), hsu]
  exact Mv.of [some 0] rfl (mvN1 (by simp)) (by simp [wD])
 | true =>
  rw [hb] at hsu
  simp only [go_sem, Int.reduceEq, Int.reduceLE, Int.reduceLT, Int.reduceToNat, g5]
  refine ⟨by omega, i + 1, h, by omega, ?_⟩
  rw [wrap_succ i (by omega), hsu]
  exact Mv.of [some 1] rfl (mvN1 (by simp [rowsN])) (by simp [wD])
end Go.Proofs.YtlejbkfefpfolaaGreatDoor.W
