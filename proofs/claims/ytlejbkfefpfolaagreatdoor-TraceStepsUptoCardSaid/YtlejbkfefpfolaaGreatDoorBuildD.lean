/- An expression's text: both. -/
import Derived.Test.YtlejbkfefpfolaaGreatDoorBuildA
set_option linter.unusedVariables false
set_option linter.unusedSimpArgs false
set_option linter.unusedSectionVars false
set_option maxRecDepth 100000
namespace Go.Proofs.YtlejbkfefpfolaaGreatDoor.W
open Go Go.Proofs Go.Proofs.YtlejbkfefpfolaaGreatDoor.AWP
attribute [local irreducible] xl hide aop aops aopQ qops guardP condP
def WkL : List D → List D → Prop
 | [], [] => True
 | d :: l, d' :: l' => (d' = d ∨ d' = .any) ∧ WkL l l'
 | _, _ => False
theorem WkL.len : ∀ {l l' : List D}, WkL l l' → l'.length = l.length
 | [], [], _ => rfl
 | d :: l, d' :: l', h => by simp [h.2.len]
 | [], _ :: _, h => h.elim
 | _ :: _, [], h => h.elim
theorem WkL.get : ∀ {l l' : List D}, WkL l l' → ∀ t, l'.getD t .any = l.getD t .any ∨ l'.getD t .any = .any
 | [], [], _, t => .inl rfl
 | d :: l, d' :: l', h, 0 => by simpa using h.1
 | d :: l, d' :: l', h, t + 1 => by simpa using h.2.get t
 | [], _ :: _, h, _ => h.elim
 | _ :: _, [], h, _ => h.elim
theorem mvKeep {base : Nat} {env env' : List D} {om om' : List Ob} (h : WkL env env') (ho : om = om') : Mv base ⟨env, om⟩ ⟨env', om'⟩ := by
 subst ho
 intro lo E a hb hs
 refine ⟨E, rfl, (Ext.refl _ _).toB hb, hs.rel, hs.defs, by rw [hs.size]; exact h.len.symm, fun t => ?_⟩
 show Rd E (env'.getD t .any) _
 rcases h.get t with e | e
 ·rw [e]; exact hs.rd t
 ·rw [e]; exact .any _
def allS : List Int := [18446744073709551615, 18446744073709551615, 18446744073709551615, 18446744073709551615]
theorem allS_w : W64 allS := ⟨[18446744073709551615, 18446744073709551615, 18446744073709551615, 18446744073709551615], rfl, rfl, by simp⟩
theorem hasB_all {n : Nat} (h : n < 256) : hasB allS n = true := by
 have : ∀ n : _root_.Fin 256, hasB allS n.val = true := by decide +kernel
 exact this ⟨n, h⟩
theorem allS_iff {ws : List Int} (hw : W64 ws) : ws = allS ↔ (hasL ws 256).length = 256 := by
 constructor
 ·rintro rfl
  have : hasL allS 256 = List.range 256 := List.filter_eq_self.2 fun n hn => hasB_all (List.mem_range.1 hn)
  rw [this, List.length_range]
 ·intro h
  exact hw.ext allS_w fun k hk => by rw [hasL_full h hk, hasB_all hk]
theorem sAll : AP Tryz.prog 91 [] (.agg [wD 18446744073709551615, wD 18446744073709551615, wD 18446744073709551615, wD 18446744073709551615]) := by
 refine AC.lbody hT hm Tryz.func91 f91_nm f91_lc f91_res f91_nt ?_
 simp only [go_sem, Int.reduceEq, Int.reduceLE, Int.reduceLT, Int.reduceToNat]
 exact Fin.ret (.same (.agg (by simp [wD])))
theorem sBytes (ws : List Int) (hw : W64 ws) : AP Tryz.prog 90 [Ws ws] (ByN (hasL ws 256)) := by
 obtain ⟨ms, rfl, h4, hlt⟩ := hw
 have := setBytes ms h4 hlt
 rw [← hasL_bytes ms h4 4 (Nat.le_refl _)] at this
 have e : (ms.map fun m : Nat => (m : Int)).map wD = ms.map fun m : Nat => D.v (.int .u64 (m : Int)) := by rw [List.map_map]; rfl
 show AP _ _ [.agg ((ms.map fun m : Nat => (m : Int)).map wD)] _
 rw [e]
 exact this
theorem rowsN_get {l : List Nat} {i x : Nat} (h : l[i]? = some x) : (rowsN l)[i]? = some [.v (.int .u8 (x : Int))] := by simp [rowsN, h]
theorem drop_cons {l : List Nat} {i x : Nat} (h : l[i]? = some x) : l.drop i = x :: l.drop (i + 1) := drop_get h
theorem wrB {T : Nat} (hT' : BldT T) (n : Nat) (l : List UInt8) (c : UInt8) (hl : l.length ≤ 1000000000) : AC Tryz.prog 68 [.ref 0 0, .y c] (bst T (some (n, l))) (bR T (.v .nilIface) (l ++ [c])) := wrByte hT' (some (n, l)) c hl
theorem wrS {T : Nat} (hT' : BldT T) (n : Nat) (l m : List UInt8) (hl : l.length ≤ 1000000000) (hml : m.length ≤ 1000000000) : AC Tryz.prog 69 [.ref 0 0, .s ⟨m.toArray⟩] (bst T (some (n, l))) (bR T (.tup [.i m.length, .v .nilIface]) (l ++ m)) := wrStr hT' (some (n, l)) m hl hml
theorem byteE {n : Nat} (h : n < 256) : D.v (.int .u8 (n : Int)) = .y (ub n) := by show _ = D.v (.int .u8 ((ub n).toNat : Int)); rw [ub_nat h]
set_option maxHeartbeats 1000000 in
theorem sText (ws : List Int) (hw : W64 ws) : AP Tryz.prog 70 [Ws ws] (txD (setT ws)) := by
 have h4 := hw.len
 have hB := sBytes ws hw
 have hlen := hasL_len ws 256
 have hrl := rowsN_len (hasL ws 256)
 have hall := allS_iff hw
 have hlt256 : ∀ x ∈ hasL ws 256, x < 256 := fun x hx => (hasL_mem.1 hx).1
 have hsrt := hasL_sorted ws 256
 have hT1 := @setT_256 ws
 have hT2 := @setT_1 ws
 have hT3 := @setT_n ws
 obtain ⟨a, b, c, d, rfl⟩ := four h4
 have heq : intsEq [wD a, wD b, wD c, wD d] [wD 18446744073709551615, wD 18446744073709551615, wD 18446744073709551615, wD 18446744073709551615] = some (decide ([a, b, c, d] = allS)) := intsEq_W [a, b, c, d] allS rfl
 refine AC.lbody hT hm Tryz.func70 f70_nm f70_lc f70_res f70_nt ?_
 simp only [go_sem, Int.reduceEq, Int.reduceLE, Int.reduceLT, Int.reduceToNat]
 refine hB.pd ⟨.same (.agg (W_bl [a, b, c, d])), trivial⟩ (.sl (rowsN_bl _)) ?_
 simp only [go_sem, Int.reduceEq, Int.reduceLE, Int.reduceLT, Int.reduceToNat, hrl]
 refine sAll.qd trivial (.agg (by simp [wD])) ?_
 simp only [go_sem, Int.reduceEq, Int.reduceLE, Int.reduceLT, Int.reduceToNat, heq]
 by_cases h256 : (hasL [a, b, c, d] 256).length = 256
 ·rw [hT1 h256]
  simp only [go_sem, Int.reduceEq, Int.reduceLE, Int.reduceLT, Int.reduceToNat, hall.2 h256, decide_true]
  exact Fin.v rfl
 have hne : ¬ [a, b, c, d] = allS := fun h => h256 (hall.1 h)
 simp only [go_sem, Int.reduceEq, Int.reduceLE, Int.reduceLT, Int.reduceToNat, hne, hrl]
 by_cases h1 : (hasL [a, b, c, d] 256).length = 1
 ·obtain ⟨x, hx⟩ := List.length_eq_one_iff.1 h1
  have hx256 : x < 256 := hlt256 x (by rw [hx]; simp)
  have e2 : ((1 : Nat) : Int) = 1 := rfl
  have ex : D.v (.int .u8 (x : Int)) = .y (ub x) := by show _ = D.v (.int .u8 ((ub x).toNat : Int)); rw [ub_nat hx256]
  rw [hT2 hx, hx]
  simp only [go_sem, Int.reduceEq, Int.reduceLE, Int.reduceLT, Int.reduceToNat, List.length_singleton, e2, beq_self_eq_true, rowsN, List.map_cons, List.map_nil]
  refine (signN (ub x)).pv ⟨.eq ex (.v _), trivial⟩ ?_
  simp only [go_sem, Int.reduceEq, Int.reduceLE, Int.reduceLT, Int.reduceToNat]
  exact Fin.v rfl
 have e2 : (((hasL [a, b, c, d] 256).length : Int) == 1) = false := beq_false (by omega)
 rw [hT3 h256 h1]
 have hrun := runs_len _ (hasL [a, b, c, d] 256) 0 (Nat.le_refl _) hsrt (fun x hx => ⟨by omega, hlt256 x hx⟩) (by omega)
 simp only [go_sem, Int.reduceEq, Int.reduceLE, Int.reduceLT, Int.reduceToNat, e2]
 generalize hasL [a, b, c, d] 256 = L at *
 refine ⟨_, wrByte bldT none 91 (by simp), ?_⟩
 rintro _ _ ⟨rfl, n0, rfl⟩
 simp only [go_sem, Int.reduceEq, Int.reduceLE, Int.reduceLT, Int.reduceToNat]
 refine xl_loopM hT hm (fun p : Nat × List UInt8 × Nat => ⟨f70_i20 (ByN L) (.ref 0 0) (.i p.1), bst 74 (some (p.2.2, p.2.1))⟩)
  (fun p => p.1 ≤ L.length ∧ p.2.1 ++ runsL (L.drop p.1) = 91 :: runsL L ∧ p.2.1.length ≤ 10 * p.1 + 1) (fun p => L.length - p.1) (0, [91], n0) ⟨Nat.zero_le _, rfl, by simp⟩ (mvKeep (by simp [f70_i20, WkL]) rfl) ?_
 rintro ⟨i, acc, n⟩ ⟨hi, hacc, hal⟩
 simp only at hi hacc hal ⊢
 simp only [go_sem, Int.reduceEq, Int.reduceLE, Int.reduceLT, Int.reduceToNat, hrl]
 by_cases h : i < L.length
 case neg =>
  obtain rfl : i = L.length := by omega
  rw [List.drop_length, runsL, List.append_nil] at hacc
  simp only [go_sem, Int.reduceEq, Int.reduceLE, Int.reduceLT, Int.reduceToNat, h]
  refine ⟨_, wrB bldT n acc 93 (by omega), ?_⟩
  rintro _ _ ⟨rfl, n1, rfl⟩
  simp only [go_sem, Int.reduceEq, Int.reduceLE, Int.reduceLT, Int.reduceToNat]
  refine ⟨_, strOf n1 _ (by simp), ?_⟩
  rintro _ _ ⟨rfl, rfl⟩
  simp only [go_sem, Int.reduceEq, Int.reduceLE, Int.reduceLT, Int.reduceToNat]
  refine Fin.v ?_
  rw [hacc]; rfl
 obtain ⟨b, hb⟩ := get_ex h
 have hb256 := hlt256 b (List.mem_of_getElem? hb)
 simp only [go_sem, Int.reduceEq, Int.reduceLE, Int.reduceLT, Int.reduceToNat, h]
 refine xl_loopM hT hm (fun k : Nat => ⟨f70_i13 (ByN L) (.ref 0 0) (.i i) (.i k), bst 74 (some (n, acc))⟩)
  (fun k => i ≤ k ∧ k < L.length ∧ L[k]? = some (b + (k - i)) ∧ (k - i) + runLen (b + (k - i)) (L.drop (k + 1)) = runLen b (L.drop (i + 1))) (fun k => L.length - k) i
  ⟨Nat.le_refl _, h, by simpa using hb, by simp⟩ (mvKeep (by simp [f70_i13, WkL]) rfl) ?_
 rintro k ⟨hik, hkl, hLk, hrn⟩
 have hkk0 := wrap_succ k (by omega)
 simp only [go_sem, Int.reduceEq, Int.reduceLE, Int.reduceLT, Int.reduceToNat, hkk0, hrl]
 by_cases hk1 : k + 1 < L.length
 case neg =>
  have h0 : runLen (b + (k - i)) (L.drop (k + 1)) = 0 := by rw [List.drop_of_length_le (by omega)]; rfl
  simp only [go_sem, Int.reduceEq, Int.reduceLE, Int.reduceLT, Int.reduceToNat, hk1]
  have hk256 := hlt256 _ (List.mem_of_getElem? hLk)
  have hii := wrap_succ i (by omega)
  have hkk := wrap_succ k (by omega)
  have h0' := h0
  rw [h0, Nat.add_zero] at hrn
  have hrl2 : runsL (L.drop i) = rng b (k - i) ++ runsL (L.drop (k + 1)) := by
   rw [drop_cons hb, runsL, ← hrn, List.drop_drop, show i + 1 + (k - i) = k + 1 by omega]
  have hdone : (acc ++ rng b (k - i)) ++ runsL (L.drop (k + 1)) = 91 :: runsL L := by rw [List.append_assoc, ← hrl2]; exact hacc
  have h7 := rng_len7 b (k - i)
  have hdl : (acc ++ rng b (k - i)).length ≤ 10 * (k + 1) + 1 := by rw [List.length_append]; omega
  have hs1 := signB_len (ub b)
  have hs2 := signB_len (ub (b + (k - i)))
  have hfin : (acc ++ signB (ub b)) ++ ((if 1 < k - i then [45] else []) ++ (if 0 < k - i then signB (ub (b + (k - i))) else [])) = acc ++ rng b (k - i) := by
   unfold rng
   rw [List.append_assoc]
  simp only [go_sem, Int.reduceEq, Int.reduceLE, Int.reduceLT, Int.reduceToNat, h, hrl, rowsN_get hb]
  refine (signN (ub b)).pv ⟨.eq (byteE hb256) (.v _), trivial⟩ ?_
  simp only [go_sem, Int.reduceEq, Int.reduceLE, Int.reduceLT, Int.reduceToNat]
  refine ⟨_, wrS bldT n acc (signB (ub b)) (by omega) (by omega), ?_⟩
  rintro _ _ ⟨rfl, n1, rfl⟩
  have hBl : (acc ++ signB (ub b)).length ≤ 10 * i + 4 := by rw [List.length_append]; omega
  generalize acc ++ signB (ub b) = B at hfin hBl ⊢
  simp only [go_sem, Int.reduceEq, Int.reduceLE, Int.reduceLT, Int.reduceToNat, hii]
  by_cases hgt : i + 1 < k
  ·have hg2 : i < k := by omega
   rw [if_pos (show 1 < k - i by omega), if_pos (show 0 < k - i by omega), ← List.append_assoc] at hfin
   simp only [go_sem, Int.reduceEq, Int.reduceLE, Int.reduceLT, Int.reduceToNat, hgt]
   refine ⟨_, wrB bldT n1 B 45 (by omega), ?_⟩
   rintro _ _ ⟨rfl, n2, rfl⟩
   have hCl : (B ++ [45]).length ≤ 10 * i + 5 := by rw [List.length_append]; simp; omega
   generalize B ++ [45] = C at hfin hCl ⊢
   simp only [go_sem, Int.reduceEq, Int.reduceLE, Int.reduceLT, Int.reduceToNat, hg2, hkl, hrl, rowsN_get hLk]
   refine (signN (ub (b + (k - i)))).pv ⟨.eq (byteE hk256) (.v _), trivial⟩ ?_
   simp only [go_sem, Int.reduceEq, Int.reduceLE, Int.reduceLT, Int.reduceToNat]
   refine ⟨_, wrS bldT n2 C (signB (ub (b + (k - i)))) (by omega) (by omega), ?_⟩
   rintro _ _ ⟨rfl, n3, rfl⟩
   simp only [go_sem, Int.reduceEq, Int.reduceLE, Int.reduceLT, Int.reduceToNat, hkk]
   rw [hfin]
   exact ⟨(k + 1, acc ++ rng b (k - i), n3), ⟨hkl, hdone, hdl⟩, by simp only; omega, mvKeep (by simp [f70_i20, WkL]) rfl⟩
  by_cases hgt2 : i < k
  ·rw [if_neg (show ¬ 1 < k - i by omega), if_pos (show 0 < k - i by omega), List.nil_append] at hfin
   simp only [go_sem, Int.reduceEq, Int.reduceLE, Int.reduceLT, Int.reduceToNat, hgt, hgt2, hkl, hrl, rowsN_get hLk]
   refine (signN (ub (b + (k - i)))).pv ⟨.eq (byteE hk256) (.v _), trivial⟩ ?_
   simp only [go_sem, Int.reduceEq, Int.reduceLE, Int.reduceLT, Int.reduceToNat]
   refine ⟨_, wrS bldT n1 B (signB (ub (b + (k - i)))) (by omega) (by omega), ?_⟩
   rintro _ _ ⟨rfl, n3, rfl⟩
   simp only [go_sem, Int.reduceEq, Int.reduceLE, Int.reduceLT, Int.reduceToNat, hkk]
   rw [hfin]
   exact ⟨(k + 1, acc ++ rng b (k - i), n3), ⟨hkl, hdone, hdl⟩, by simp only; omega, mvKeep (by simp [f70_i20, WkL]) rfl⟩
  ·rw [if_neg (show ¬ 1 < k - i by omega), if_neg (show ¬ 0 < k - i by omega), List.nil_append, List.append_nil] at hfin
   simp only [go_sem, Int.reduceEq, Int.reduceLE, Int.reduceLT, Int.reduceToNat, hgt, hgt2, hkk]
   rw [hfin]
   exact ⟨(k + 1, acc ++ rng b (k - i), n1), ⟨hkl, hdone, hdl⟩, by simp only; omega, mvKeep (by simp [f70_i20, WkL]) rfl⟩
 obtain ⟨y, hy⟩ := get_ex hk1
 have hkn := hlt256 _ (List.mem_of_getElem? hLk)
 have hyn := hlt256 _ (List.mem_of_getElem? hy)
 have hylt : b + (k - i) < y := by
  obtain ⟨_, e1⟩ := List.getElem?_eq_some_iff.1 hLk
  obtain ⟨_, e2⟩ := List.getElem?_eq_some_iff.1 hy
  rw [← e1, ← e2]
  exact List.pairwise_iff_getElem.1 hsrt k (k + 1) _ _ (by omega)
 have hw1 : IntKind.wrap .u8 (((b + (k - i) : Nat) : Int) + 1) = ((b + (k - i) + 1 : Nat) : Int) := by
  have := u8_wrap (b + (k - i) + 1) (by omega)
  rw [← this]; rfl
 simp only [go_sem, Int.reduceEq, Int.reduceLE, Int.reduceLT, Int.reduceToNat, hk1, hkk0, hrl, rowsN_get hy, rowsN_get hLk, hkl, hw1]
 by_cases hyy : y = b + (k - i) + 1
 ·have e : ((y : Int) == ((b + (k - i) + 1 : Nat) : Int)) = true := by rw [hyy]; exact beq_self_eq_true _
  simp only [go_sem, Int.reduceEq, Int.reduceLE, Int.reduceLT, Int.reduceToNat, e, hkk0]
  refine ⟨k + 1, ⟨by omega, hk1, ?_, ?_⟩, by omega, mvKeep (by simp [WkL]) rfl⟩
  ·rw [hy, hyy]; congr 1; omega
  ·rw [← hrn, drop_cons hy, runLen, if_pos hyy]
   have e2 : b + (k + 1 - i) = y := by omega
   rw [e2]; omega
 ·have e : ((y : Int) == ((b + (k - i) + 1 : Nat) : Int)) = false := beq_false (by omega)
  have h0 : runLen (b + (k - i)) (L.drop (k + 1)) = 0 := by rw [drop_cons hy, runLen, if_neg hyy]
  simp only [go_sem, Int.reduceEq, Int.reduceLE, Int.reduceLT, Int.reduceToNat, e]
  have hk256 := hlt256 _ (List.mem_of_getElem? hLk)
  have hii := wrap_succ i (by omega)
  have hkk := wrap_succ k (by omega)
  have h0' := h0
  rw [h0, Nat.add_zero] at hrn
  have hrl2 : runsL (L.drop i) = rng b (k - i) ++ runsL (L.drop (k + 1)) := by
   rw [drop_cons hb, runsL, ← hrn, List.drop_drop, show i + 1 + (k - i) = k + 1 by omega]
  have hdone : (acc ++ rng b (k - i)) ++ runsL (L.drop (k + 1)) = 91 :: runsL L := by rw [List.append_assoc, ← hrl2]; exact hacc
  have h7 := rng_len7 b (k - i)
  have hdl : (acc ++ rng b (k - i)).length ≤ 10 * (k + 1) + 1 := by rw [List.length_append]; omega
  have hs1 := signB_len (ub b)
  have hs2 := signB_len (ub (b + (k - i)))
  have hfin : (acc ++ signB (ub b)) ++ ((if 1 < k - i then [45] else []) ++ (if 0 < k - i then signB (ub (b + (k - i))) else [])) = acc ++ rng b (k - i) := by
   unfold rng
   rw [List.append_assoc]
  simp only [go_sem, Int.reduceEq, Int.reduceLE, Int.reduceLT, Int.reduceToNat, h, hrl, rowsN_get hb]
  refine (signN (ub b)).pv ⟨.eq (byteE hb256) (.v _), trivial⟩ ?_
  simp only [go_sem, Int.reduceEq, Int.reduceLE, Int.reduceLT, Int.reduceToNat]
  refine ⟨_, wrS bldT n acc (signB (ub b)) (by omega) (by omega), ?_⟩
  rintro _ _ ⟨rfl, n1, rfl⟩
  have hBl : (acc ++ signB (ub b)).length ≤ 10 * i + 4 := by rw [List.length_append]; omega
  generalize acc ++ signB (ub b) = B at hfin hBl ⊢
  simp only [go_sem, Int.reduceEq, Int.reduceLE, Int.reduceLT, Int.reduceToNat, hii]
  by_cases hgt : i + 1 < k
  ·have hg2 : i < k := by omega
   rw [if_pos (show 1 < k - i by omega), if_pos (show 0 < k - i by omega), ← List.append_assoc] at hfin
   simp only [go_sem, Int.reduceEq, Int.reduceLE, Int.reduceLT, Int.reduceToNat, hgt]
   refine ⟨_, wrB bldT n1 B 45 (by omega), ?_⟩
   rintro _ _ ⟨rfl, n2, rfl⟩
   have hCl : (B ++ [45]).length ≤ 10 * i + 5 := by rw [List.length_append]; simp; omega
   generalize B ++ [45] = C at hfin hCl ⊢
   simp only [go_sem, Int.reduceEq, Int.reduceLE, Int.reduceLT, Int.reduceToNat, hg2, hkl, hrl, rowsN_get hLk]
   refine (signN (ub (b + (k - i)))).pv ⟨.eq (byteE hk256) (.v _), trivial⟩ ?_
   simp only [go_sem, Int.reduceEq, Int.reduceLE, Int.reduceLT, Int.reduceToNat]
   refine ⟨_, wrS bldT n2 C (signB (ub (b + (k - i)))) (by omega) (by omega), ?_⟩
   rintro _ _ ⟨rfl, n3, rfl⟩
   simp only [go_sem, Int.reduceEq, Int.reduceLE, Int.reduceLT, Int.reduceToNat, hkk]
   rw [hfin]
   exact ⟨(k + 1, acc ++ rng b (k - i), n3), ⟨hkl, hdone, hdl⟩, by simp only; omega, mvKeep (by simp [f70_i20, WkL]) rfl⟩
  by_cases hgt2 : i < k
  ·rw [if_neg (show ¬ 1 < k - i by omega), if_pos (show 0 < k - i by omega), List.nil_append] at hfin
   simp only [go_sem, Int.reduceEq, Int.reduceLE, Int.reduceLT, Int.reduceToNat, hgt, hgt2, hkl, hrl, rowsN_get hLk]
   refine (signN (ub (b + (k - i)))).pv ⟨.eq (byteE hk256) (.v _), trivial⟩ ?_
   simp only [go_sem, Int.reduceEq, Int.reduceLE, Int.reduceLT, Int.reduceToNat]
   refine ⟨_, wrS bldT n1 B (signB (ub (b + (k - i)))) (by omega) (by omega), ?_⟩
   rintro _ _ ⟨rfl, n3, rfl⟩
   simp only [go_sem, Int.reduceEq, Int.reduceLE, Int.reduceLT, Int.reduceToNat, hkk]
   rw [hfin]
   exact ⟨(k + 1, acc ++ rng b (k - i), n3), ⟨hkl, hdone, hdl⟩, by simp only; omega, mvKeep (by simp [f70_i20, WkL]) rfl⟩
  ·rw [if_neg (show ¬ 1 < k - i by omega), if_neg (show ¬ 0 < k - i by omega), List.nil_append, List.append_nil] at hfin
   simp only [go_sem, Int.reduceEq, Int.reduceLE, Int.reduceLT, Int.reduceToNat, hgt, hgt2, hkk]
   rw [hfin]
   exact ⟨(k + 1, acc ++ rng b (k - i), n1), ⟨hkl, hdone, hdl⟩, by simp only; omega, mvKeep (by simp [f70_i20, WkL]) rfl⟩
end Go.Proofs.YtlejbkfefpfolaaGreatDoor.W
set_option maxRecDepth 100000
namespace Go.Proofs.YtlejbkfefpfolaaGreatDoor.W
open Go Go.Proofs Go.Proofs.YtlejbkfefpfolaaGreatDoor.AWP
attribute [local irreducible] xl hide aop aops aopQ qops guardP condP
def kRows (l : List Int) : List (List D) := l.map fun n => [.v (.int .u8 n)]
abbrev Ks (l : List Int) : D := .sl 1 (kRows l)
theorem kRows_len (l : List Int) : (kRows l).length = l.length := by simp [kRows]
theorem kRows_get {l : List Int} {i : Nat} {x : Int} (h : l[i]? = some x) : (kRows l)[i]? = some [.v (.int .u8 x)] := by simp [kRows, h]
def idxK : List Int → Int → Nat → Int
 | [], _, _ => -1
 | y :: l, x, i => if x = y then (i : Int) else idxK l x (i + 1)
theorem ixK (l : List Int) (x : Int) (hl : l.length ≤ 1000) : AP Tryz.prog 88 [Ks l, .v (.int .u8 x)] (.i (idxK l x 0)) := by
 have hrl := kRows_len l
 refine AC.lbody hT hm Tryz.func88 f88_nm f88_lc f88_res f88_nt ?_
 simp only [go_sem, Int.reduceEq, Int.reduceLE, Int.reduceLT, Int.reduceToNat, hrl]
 refine xl_loopM hT hm (fun i : Nat => ⟨f88_i7 (Ks l) (.v (.int .u8 x)) (.i l.length) (.i i), []⟩)
  (fun i => i ≤ l.length ∧ idxK (l.drop i) x i = idxK l x 0) (fun i => l.length - i) 0 ⟨Nat.zero_le _, rfl⟩ (Mv.none (by simp [f88_i7, kRows])) ?_
 rintro i ⟨hi, hx⟩
 simp only [go_sem, Int.reduceEq, Int.reduceLE, Int.reduceLT, Int.reduceToNat, hrl]
 by_cases h : i < l.length
 case neg =>
  rw [List.drop_of_length_le (by omega)] at hx
  simp only [go_sem, Int.reduceEq, Int.reduceLE, Int.reduceLT, Int.reduceToNat, h]
  exact Fin.v (by rw [← hx]; rfl)
 obtain ⟨y, hy⟩ := get_ex h
 rw [drop_get hy, idxK] at hx
 simp only [go_sem, Int.reduceEq, Int.reduceLE, Int.reduceLT, Int.reduceToNat, h, hrl, kRows_get hy]
 by_cases hxy : x = y
 ·rw [if_pos hxy] at hx
  have e : (x == y) = true := by simp [hxy]
  simp only [go_sem, Int.reduceEq, Int.reduceLE, Int.reduceLT, Int.reduceToNat, e]
  exact Fin.v (by rw [← hx])
 ·rw [if_neg hxy] at hx
  have e : (x == y) = false := by simp [hxy]
  simp only [go_sem, Int.reduceEq, Int.reduceLE, Int.reduceLT, Int.reduceToNat, e]
  refine ⟨i + 1, ⟨h, hx⟩, by omega, ?_⟩
  rw [wrap_succ i (by omega)]
  exact Mv.none (by simp [kRows])
theorem idxK_ge : ∀ (l : List Int) (x : Int) (i : Nat), decide (0 ≤ idxK l x i) = l.contains x
 | [], x, i => by simp [idxK]
 | y :: l, x, i => by
  rw [idxK]
  split
  ·rename_i h; subst h; simp
  ·rename_i h
   rw [idxK_ge l x (i + 1), List.contains_cons, beq_false h, Bool.false_or]
theorem hasK (l : List Int) (x : Int) (hl : l.length ≤ 1000) : AP Tryz.prog 67 [Ks l, .v (.int .u8 x)] (.b (l.contains x)) := by
 have h := idxK_ge l x 0
 refine AC.lbody hT hm Tryz.func67 f67_nm f67_lc f67_res f67_nt ?_
 simp only [go_sem, Int.reduceEq, Int.reduceLE, Int.reduceLT, Int.reduceToNat]
 refine (ixK l x hl).pv ⟨.same (.sl fun r hr d hd => ?_), .v, trivial⟩ ?_
 ·obtain ⟨n, _, rfl⟩ := List.mem_map.1 hr
  rw [List.mem_singleton.1 hd]; exact .v _
 simp only [go_sem, Int.reduceEq, Int.reduceLE, Int.reduceLT, Int.reduceToNat]
 exact Fin.v (by rw [h])
def putT (r : Re) (ks : List Int) : List UInt8 := brk (ks.contains r.kd) r.txt
def KsD (K : D) (ks : List Int) : Prop := K = Ks ks ∨ (ks = [] ∧ K = .v (.slice none 0 0))
def putGo (r : Re) : Prop := ∀ (K : D) (ks : List Int) (st : Option (Nat × List UInt8)), KsD K ks → ks.length ≤ 10 → (bTx st).length + r.sz * 520 ≤ 100000000 →
 AC Tryz.prog 46 [.ref 0 0, .agg r.c, K] (bst 76 st) (bR 76 (.tup []) (bTx st ++ putT r ks))
theorem putGo.at {r : Re} (h : putGo r) (K : D) (ks : List Int) (n : Nat) (l : List UInt8) (hK : KsD K ks) (hk : ks.length ≤ 10) (hl : l.length + r.sz * 520 ≤ 100000000) :
  AC Tryz.prog 46 [.ref 0 0, .agg r.c, K] (bst 76 (some (n, l))) (bR 76 (.tup []) (l ++ putT r ks)) := h K ks (some (n, l)) hK hk hl
theorem Ks_bl (ks : List Int) : Bl 0 (Ks ks) := .sl fun r hr d hd => by
 obtain ⟨n, _, rfl⟩ := List.mem_map.1 hr
 rw [List.mem_singleton.1 hd]; exact .v _
theorem KsD.cv {K : D} {ks : List Int} (h : KsD K ks) {om : List Ob} {F : Nat → Bool} : Cv om F [] K (Ks ks) := by
 rcases h with rfl | ⟨rfl, rfl⟩
 ·exact .same (Ks_bl ks)
 ·exact .nil
theorem txt_le (r : Re) (h : r.nodesOk = true) : r.txt.length + 4 ≤ 520 * r.sz := by have := txt_len r h; have := r.sz_pos; omega
theorem has45 (x : Re) : putT x [4, 5] = brk x.is45 x.txt := by unfold putT; congr 1; simp [Re.is45]
theorem has5 (x : Re) : putT x [5] = brk x.is5 x.txt := by unfold putT; congr 1; simp [Re.is5]
theorem has0 (x : Re) : putT x [] = x.txt := by unfold putT; rfl
theorem brkT (l : List UInt8) : brk true l = 40 :: (l ++ [41]) := _root_.id rfl
theorem brkF (l : List UInt8) : brk false l = l := _root_.id rfl
theorem bSame {T n : Nat} {l l' : List UInt8} (h : l = l') : ∃ m, bst T (some (n, l)) = bst T (some (m, l')) := ⟨n, by rw [h]⟩
set_option maxHeartbeats 1000000 in
theorem put1 : putGo (.mk 1 0 0 0 0 []) := by
 intro K ks st hK hk hl
 have e := (Re.mk 1 0 0 0 0 []).sz_pos
 have hc0 := hasK ks (Re.mk 1 0 0 0 0 []).kd (by omega)
 have hp : putT (.mk 1 0 0 0 0 []) ks = brk (ks.contains 1) (Re.mk 1 0 0 0 0 []).txt := rfl
 rw [hp, txt_1]
 change AP _ _ [Ks ks, .v (.int .u8 1)] (.b (ks.contains 1)) at hc0
 refine AC.lbody hT hm Tryz.func46 f46_nm f46_lc f46_res f46_nt ?_
 simp only [go_sem, Int.reduceEq, Int.reduceLE, Int.reduceLT, Int.reduceToNat, Re.c_mk]
 refine hc0.pv ⟨hK.cv, .v, trivial⟩ ?_
 cases hc : ks.contains 1 with
 | true =>
  ·simp only [go_sem, Int.reduceEq, Int.reduceLE, Int.reduceLT, Int.reduceToNat, Re.c_mk, Re.cs_eq, Int.reduceBEq]
   refine ⟨_, wrByte pageT st 40 (by omega), ?_⟩
   rintro _ _ ⟨rfl, n1, rfl⟩
   obtain ⟨B1, hB1⟩ : ∃ B, B = bTx st ++ [40] := ⟨_, rfl⟩
   have hL1 : B1.length = (bTx st).length + 1 := by rw [hB1, List.length_append]; try rfl
   rw [← hB1]
   simp only [go_sem, Int.reduceEq, Int.reduceLE, Int.reduceLT, Int.reduceToNat, Re.c_mk, Re.cs_eq, Int.reduceBEq]
   refine ⟨_, wrS pageT n1 B1 [91, 93] (by omega) (by simp), ?_⟩
   rintro _ _ ⟨rfl, n2, rfl⟩
   obtain ⟨B2, hB2⟩ : ∃ B, B = B1 ++ [91, 93] := ⟨_, rfl⟩
   have hL2 : B2.length = (B1).length + 2 := by rw [hB2, List.length_append]; try rfl
   rw [← hB2]
   simp only [go_sem, Int.reduceEq, Int.reduceLE, Int.reduceLT, Int.reduceToNat]
   refine ⟨_, wrB pageT n2 B2 41 (by omega), ?_⟩
   rintro _ _ ⟨rfl, n3, rfl⟩
   obtain ⟨B3, hB3⟩ : ∃ B, B = B2 ++ [41] := ⟨_, rfl⟩
   have hL3 : B3.length = (B2).length + 1 := by rw [hB3, List.length_append]; try rfl
   rw [← hB3]
   simp only [go_sem, Int.reduceEq, Int.reduceLE, Int.reduceLT, Int.reduceToNat]
   exact finSelf ⟨rfl, bSame (by rw [hB3, hB2, hB1]; simp only [has45, has5, has0, brkT, brkF, List.append_assoc, List.cons_append, List.nil_append])⟩
 | false =>
  ·simp only [go_sem, Int.reduceEq, Int.reduceLE, Int.reduceLT, Int.reduceToNat, Re.c_mk, Re.cs_eq, Int.reduceBEq]
   refine ⟨_, wrStr pageT st [91, 93] (by omega) (by simp), ?_⟩
   rintro _ _ ⟨rfl, n1, rfl⟩
   obtain ⟨B1, hB1⟩ : ∃ B, B = bTx st ++ [91, 93] := ⟨_, rfl⟩
   have hL1 : B1.length = (bTx st).length + 2 := by rw [hB1, List.length_append]; try rfl
   rw [← hB1]
   simp only [go_sem, Int.reduceEq, Int.reduceLE, Int.reduceLT, Int.reduceToNat]
   exact finSelf ⟨rfl, bSame (by rw [hB1]; simp only [has45, has5, has0, brkT, brkF, List.append_assoc, List.cons_append, List.nil_append])⟩
set_option maxHeartbeats 1000000 in
theorem put2 : putGo (.mk 2 0 0 0 0 []) := by
 intro K ks st hK hk hl
 have e := (Re.mk 2 0 0 0 0 []).sz_pos
 have hc0 := hasK ks (Re.mk 2 0 0 0 0 []).kd (by omega)
 have hp : putT (.mk 2 0 0 0 0 []) ks = brk (ks.contains 2) (Re.mk 2 0 0 0 0 []).txt := rfl
 rw [hp, txt_2]
 change AP _ _ [Ks ks, .v (.int .u8 2)] (.b (ks.contains 2)) at hc0
 refine AC.lbody hT hm Tryz.func46 f46_nm f46_lc f46_res f46_nt ?_
 simp only [go_sem, Int.reduceEq, Int.reduceLE, Int.reduceLT, Int.reduceToNat, Re.c_mk]
 refine hc0.pv ⟨hK.cv, .v, trivial⟩ ?_
 cases hc : ks.contains 2 with
 | true =>
  ·simp only [go_sem, Int.reduceEq, Int.reduceLE, Int.reduceLT, Int.reduceToNat, Re.c_mk, Re.cs_eq, Int.reduceBEq]
   refine ⟨_, wrByte pageT st 40 (by omega), ?_⟩
   rintro _ _ ⟨rfl, n1, rfl⟩
   obtain ⟨B1, hB1⟩ : ∃ B, B = bTx st ++ [40] := ⟨_, rfl⟩
   have hL1 : B1.length = (bTx st).length + 1 := by rw [hB1, List.length_append]; try rfl
   rw [← hB1]
   simp only [go_sem, Int.reduceEq, Int.reduceLE, Int.reduceLT, Int.reduceToNat, Re.c_mk, Re.cs_eq, Int.reduceBEq]
   refine ⟨_, wrS pageT n1 B1 [40, 41] (by omega) (by simp), ?_⟩
   rintro _ _ ⟨rfl, n2, rfl⟩
   obtain ⟨B2, hB2⟩ : ∃ B, B = B1 ++ [40, 41] := ⟨_, rfl⟩
   have hL2 : B2.length = (B1).length + 2 := by rw [hB2, List.length_append]; try rfl
   rw [← hB2]
   simp only [go_sem, Int.reduceEq, Int.reduceLE, Int.reduceLT, Int.reduceToNat]
   refine ⟨_, wrB pageT n2 B2 41 (by omega), ?_⟩
   rintro _ _ ⟨rfl, n3, rfl⟩
   obtain ⟨B3, hB3⟩ : ∃ B, B = B2 ++ [41] := ⟨_, rfl⟩
   have hL3 : B3.length = (B2).length + 1 := by rw [hB3, List.length_append]; try rfl
   rw [← hB3]
   simp only [go_sem, Int.reduceEq, Int.reduceLE, Int.reduceLT, Int.reduceToNat]
   exact finSelf ⟨rfl, bSame (by rw [hB3, hB2, hB1]; simp only [has45, has5, has0, brkT, brkF, List.append_assoc, List.cons_append, List.nil_append])⟩
 | false =>
  ·simp only [go_sem, Int.reduceEq, Int.reduceLE, Int.reduceLT, Int.reduceToNat, Re.c_mk, Re.cs_eq, Int.reduceBEq]
   refine ⟨_, wrStr pageT st [40, 41] (by omega) (by simp), ?_⟩
   rintro _ _ ⟨rfl, n1, rfl⟩
   obtain ⟨B1, hB1⟩ : ∃ B, B = bTx st ++ [40, 41] := ⟨_, rfl⟩
   have hL1 : B1.length = (bTx st).length + 2 := by rw [hB1, List.length_append]; try rfl
   rw [← hB1]
   simp only [go_sem, Int.reduceEq, Int.reduceLE, Int.reduceLT, Int.reduceToNat]
   exact finSelf ⟨rfl, bSame (by rw [hB1]; simp only [has45, has5, has0, brkT, brkF, List.append_assoc, List.cons_append, List.nil_append])⟩
set_option maxHeartbeats 1000000 in
theorem put3 (a b c d : Int) (hw : W64 [a, b, c, d]) : putGo (.mk 3 a b c d []) := by
 intro K ks st hK hk hl
 have hTx := sText [a, b, c, d] hw
 have hTl := setT_len [a, b, c, d]
 have e := (Re.mk 3 a b c d []).sz_pos
 have hc0 := hasK ks (Re.mk 3 a b c d []).kd (by omega)
 have hp : putT (.mk 3 a b c d []) ks = brk (ks.contains 3) (Re.mk 3 a b c d []).txt := rfl
 rw [hp, txt_3]
 change AP _ _ [Ks ks, .v (.int .u8 3)] (.b (ks.contains 3)) at hc0
 refine AC.lbody hT hm Tryz.func46 f46_nm f46_lc f46_res f46_nt ?_
 simp only [go_sem, Int.reduceEq, Int.reduceLE, Int.reduceLT, Int.reduceToNat, Re.c_mk]
 refine hc0.pv ⟨hK.cv, .v, trivial⟩ ?_
 cases hc : ks.contains 3 with
 | true =>
  ·simp only [go_sem, Int.reduceEq, Int.reduceLE, Int.reduceLT, Int.reduceToNat, Re.c_mk, Re.cs_eq, Int.reduceBEq]
   refine ⟨_, wrByte pageT st 40 (by omega), ?_⟩
   rintro _ _ ⟨rfl, n1, rfl⟩
   obtain ⟨B1, hB1⟩ : ∃ B, B = bTx st ++ [40] := ⟨_, rfl⟩
   have hL1 : B1.length = (bTx st).length + 1 := by rw [hB1, List.length_append]; try rfl
   rw [← hB1]
   simp only [go_sem, Int.reduceEq, Int.reduceLE, Int.reduceLT, Int.reduceToNat, Re.c_mk, Re.cs_eq, Int.reduceBEq]
   refine hTx.qv ⟨.same (.agg (W_bl [a, b, c, d])), trivial⟩ ?_
   simp only [go_sem, Int.reduceEq, Int.reduceLE, Int.reduceLT, Int.reduceToNat]
   refine ⟨_, wrS pageT n1 B1 (setT [a, b, c, d]) (by omega) (by omega), ?_⟩
   rintro _ _ ⟨rfl, n2, rfl⟩
   obtain ⟨B2, hB2⟩ : ∃ B, B = B1 ++ (setT [a, b, c, d]) := ⟨_, rfl⟩
   have hL2 : B2.length = (B1).length + (setT [a, b, c, d]).length := by rw [hB2, List.length_append]; try rfl
   rw [← hB2]
   simp only [go_sem, Int.reduceEq, Int.reduceLE, Int.reduceLT, Int.reduceToNat]
   refine ⟨_, wrB pageT n2 B2 41 (by omega), ?_⟩
   rintro _ _ ⟨rfl, n3, rfl⟩
   obtain ⟨B3, hB3⟩ : ∃ B, B = B2 ++ [41] := ⟨_, rfl⟩
   have hL3 : B3.length = (B2).length + 1 := by rw [hB3, List.length_append]; try rfl
   rw [← hB3]
   simp only [go_sem, Int.reduceEq, Int.reduceLE, Int.reduceLT, Int.reduceToNat]
   exact finSelf ⟨rfl, bSame (by rw [hB3, hB2, hB1]; simp only [has45, has5, has0, brkT, brkF, List.append_assoc, List.cons_append, List.nil_append])⟩
 | false =>
  ·simp only [go_sem, Int.reduceEq, Int.reduceLE, Int.reduceLT, Int.reduceToNat, Re.c_mk, Re.cs_eq, Int.reduceBEq]
   refine hTx.qv ⟨.same (.agg (W_bl [a, b, c, d])), trivial⟩ ?_
   simp only [go_sem, Int.reduceEq, Int.reduceLE, Int.reduceLT, Int.reduceToNat]
   refine ⟨_, wrStr pageT st (setT [a, b, c, d]) (by omega) (by omega), ?_⟩
   rintro _ _ ⟨rfl, n1, rfl⟩
   obtain ⟨B1, hB1⟩ : ∃ B, B = bTx st ++ (setT [a, b, c, d]) := ⟨_, rfl⟩
   have hL1 : B1.length = (bTx st).length + (setT [a, b, c, d]).length := by rw [hB1, List.length_append]; try rfl
   rw [← hB1]
   simp only [go_sem, Int.reduceEq, Int.reduceLE, Int.reduceLT, Int.reduceToNat]
   exact finSelf ⟨rfl, bSame (by rw [hB1]; simp only [has45, has5, has0, brkT, brkF, List.append_assoc, List.cons_append, List.nil_append])⟩
set_option maxHeartbeats 1000000 in
theorem put4 (x y : Re) (hx : x.nodesOk = true) (hy : y.nodesOk = true) (ihx : putGo x) (ihy : putGo y) : putGo (.mk 4 0 0 0 0 [x, y]) := by
 intro K ks st hK hk hl
 have hxl := txt_le x hx
 have hyl := txt_le y hy
 have e : (Re.mk 4 0 0 0 0 [x, y]).sz = 1 + (x.sz + y.sz) := by simp [Re.sz, Re.szs]
 rw [e] at hl
 have bx1 : (putT x [4, 5]).length ≤ x.txt.length + 2 := (brk_len _ _).2
 have bx2 : (putT x [5]).length ≤ x.txt.length + 2 := (brk_len _ _).2
 have bx3 : (putT x []).length ≤ x.txt.length + 2 := (brk_len _ _).2
 have by1 : (putT y [4, 5]).length ≤ y.txt.length + 2 := (brk_len _ _).2
 have by2 : (putT y [5]).length ≤ y.txt.length + 2 := (brk_len _ _).2
 have by3 : (putT y []).length ≤ y.txt.length + 2 := (brk_len _ _).2
 have hc0 := hasK ks (Re.mk 4 0 0 0 0 [x, y]).kd (by omega)
 have hp : putT (.mk 4 0 0 0 0 [x, y]) ks = brk (ks.contains 4) (Re.mk 4 0 0 0 0 [x, y]).txt := rfl
 rw [hp, txt_4]
 change AP _ _ [Ks ks, .v (.int .u8 4)] (.b (ks.contains 4)) at hc0
 refine AC.lbody hT hm Tryz.func46 f46_nm f46_lc f46_res f46_nt ?_
 simp only [go_sem, Int.reduceEq, Int.reduceLE, Int.reduceLT, Int.reduceToNat, Re.c_mk]
 refine hc0.pv ⟨hK.cv, .v, trivial⟩ ?_
 cases hc : ks.contains 4 with
 | true =>
  ·simp only [go_sem, Int.reduceEq, Int.reduceLE, Int.reduceLT, Int.reduceToNat, Re.c_mk, Re.cs_eq, Int.reduceBEq]
   refine ⟨_, wrByte pageT st 40 (by omega), ?_⟩
   rintro _ _ ⟨rfl, n1, rfl⟩
   obtain ⟨B1, hB1⟩ : ∃ B, B = bTx st ++ [40] := ⟨_, rfl⟩
   have hL1 : B1.length = (bTx st).length + 1 := by rw [hB1, List.length_append]; try rfl
   rw [← hB1]
   simp only [go_sem, Int.reduceEq, Int.reduceLE, Int.reduceLT, Int.reduceToNat, Re.c_mk, Re.cs_eq, Int.reduceBEq]
   refine ⟨_, ihx.at _ [4, 5] n1 B1 (.inl rfl) (by simp) (by omega), ?_⟩
   rintro _ _ ⟨rfl, n2, rfl⟩
   obtain ⟨B2, hB2⟩ : ∃ B, B = B1 ++ putT x [4, 5] := ⟨_, rfl⟩
   have hL2 : B2.length = (B1).length + (putT x [4, 5]).length := by rw [hB2, List.length_append]; try rfl
   rw [← hB2]
   simp only [go_sem, Int.reduceEq, Int.reduceLE, Int.reduceLT, Int.reduceToNat]
   refine ⟨_, ihy.at _ [5] n2 B2 (.inl rfl) (by simp) (by omega), ?_⟩
   rintro _ _ ⟨rfl, n3, rfl⟩
   obtain ⟨B3, hB3⟩ : ∃ B, B = B2 ++ putT y [5] := ⟨_, rfl⟩
   have hL3 : B3.length = (B2).length + (putT y [5]).length := by rw [hB3, List.length_append]; try rfl
   rw [← hB3]
   simp only [go_sem, Int.reduceEq, Int.reduceLE, Int.reduceLT, Int.reduceToNat]
   refine ⟨_, wrB pageT n3 B3 41 (by omega), ?_⟩
   rintro _ _ ⟨rfl, n4, rfl⟩
   obtain ⟨B4, hB4⟩ : ∃ B, B = B3 ++ [41] := ⟨_, rfl⟩
   have hL4 : B4.length = (B3).length + 1 := by rw [hB4, List.length_append]; try rfl
   rw [← hB4]
   simp only [go_sem, Int.reduceEq, Int.reduceLE, Int.reduceLT, Int.reduceToNat]
   exact finSelf ⟨rfl, bSame (by rw [hB4, hB3, hB2, hB1]; simp only [has45, has5, has0, brkT, brkF, List.append_assoc, List.cons_append, List.nil_append])⟩
 | false =>
  ·simp only [go_sem, Int.reduceEq, Int.reduceLE, Int.reduceLT, Int.reduceToNat, Re.c_mk, Re.cs_eq, Int.reduceBEq]
   refine ⟨_, ihx _ [4, 5] st (.inl rfl) (by simp) (by omega), ?_⟩
   rintro _ _ ⟨rfl, n1, rfl⟩
   obtain ⟨B1, hB1⟩ : ∃ B, B = bTx st ++ putT x [4, 5] := ⟨_, rfl⟩
   have hL1 : B1.length = (bTx st).length + (putT x [4, 5]).length := by rw [hB1, List.length_append]; try rfl
   rw [← hB1]
   simp only [go_sem, Int.reduceEq, Int.reduceLE, Int.reduceLT, Int.reduceToNat]
   refine ⟨_, ihy.at _ [5] n1 B1 (.inl rfl) (by simp) (by omega), ?_⟩
   rintro _ _ ⟨rfl, n2, rfl⟩
   obtain ⟨B2, hB2⟩ : ∃ B, B = B1 ++ putT y [5] := ⟨_, rfl⟩
   have hL2 : B2.length = (B1).length + (putT y [5]).length := by rw [hB2, List.length_append]; try rfl
   rw [← hB2]
   simp only [go_sem, Int.reduceEq, Int.reduceLE, Int.reduceLT, Int.reduceToNat]
   exact finSelf ⟨rfl, bSame (by rw [hB2, hB1]; simp only [has45, has5, has0, brkT, brkF, List.append_assoc, List.cons_append, List.nil_append])⟩
set_option maxHeartbeats 1000000 in
theorem put5 (x y : Re) (hx : x.nodesOk = true) (hy : y.nodesOk = true) (ihx : putGo x) (ihy : putGo y) : putGo (.mk 5 0 0 0 0 [x, y]) := by
 intro K ks st hK hk hl
 have hxl := txt_le x hx
 have hyl := txt_le y hy
 have e : (Re.mk 5 0 0 0 0 [x, y]).sz = 1 + (x.sz + y.sz) := by simp [Re.sz, Re.szs]
 rw [e] at hl
 have bx1 : (putT x [4, 5]).length ≤ x.txt.length + 2 := (brk_len _ _).2
 have bx2 : (putT x [5]).length ≤ x.txt.length + 2 := (brk_len _ _).2
 have bx3 : (putT x []).length ≤ x.txt.length + 2 := (brk_len _ _).2
 have by1 : (putT y [4, 5]).length ≤ y.txt.length + 2 := (brk_len _ _).2
 have by2 : (putT y [5]).length ≤ y.txt.length + 2 := (brk_len _ _).2
 have by3 : (putT y []).length ≤ y.txt.length + 2 := (brk_len _ _).2
 have hc0 := hasK ks (Re.mk 5 0 0 0 0 [x, y]).kd (by omega)
 have hp : putT (.mk 5 0 0 0 0 [x, y]) ks = brk (ks.contains 5) (Re.mk 5 0 0 0 0 [x, y]).txt := rfl
 rw [hp, txt_5]
 change AP _ _ [Ks ks, .v (.int .u8 5)] (.b (ks.contains 5)) at hc0
 refine AC.lbody hT hm Tryz.func46 f46_nm f46_lc f46_res f46_nt ?_
 simp only [go_sem, Int.reduceEq, Int.reduceLE, Int.reduceLT, Int.reduceToNat, Re.c_mk]
 refine hc0.pv ⟨hK.cv, .v, trivial⟩ ?_
 cases hc : ks.contains 5 with
 | true =>
  ·simp only [go_sem, Int.reduceEq, Int.reduceLE, Int.reduceLT, Int.reduceToNat, Re.c_mk, Re.cs_eq, Int.reduceBEq]
   refine ⟨_, wrByte pageT st 40 (by omega), ?_⟩
   rintro _ _ ⟨rfl, n1, rfl⟩
   obtain ⟨B1, hB1⟩ : ∃ B, B = bTx st ++ [40] := ⟨_, rfl⟩
   have hL1 : B1.length = (bTx st).length + 1 := by rw [hB1, List.length_append]; try rfl
   rw [← hB1]
   simp only [go_sem, Int.reduceEq, Int.reduceLE, Int.reduceLT, Int.reduceToNat, Re.c_mk, Re.cs_eq, Int.reduceBEq]
   refine ⟨_, ihx.at _ [5] n1 B1 (.inl rfl) (by simp) (by omega), ?_⟩
   rintro _ _ ⟨rfl, n2, rfl⟩
   obtain ⟨B2, hB2⟩ : ∃ B, B = B1 ++ putT x [5] := ⟨_, rfl⟩
   have hL2 : B2.length = (B1).length + (putT x [5]).length := by rw [hB2, List.length_append]; try rfl
   rw [← hB2]
   simp only [go_sem, Int.reduceEq, Int.reduceLE, Int.reduceLT, Int.reduceToNat]
   refine ⟨_, wrB pageT n2 B2 124 (by omega), ?_⟩
   rintro _ _ ⟨rfl, n3, rfl⟩
   obtain ⟨B3, hB3⟩ : ∃ B, B = B2 ++ [124] := ⟨_, rfl⟩
   have hL3 : B3.length = (B2).length + 1 := by rw [hB3, List.length_append]; try rfl
   rw [← hB3]
   simp only [go_sem, Int.reduceEq, Int.reduceLE, Int.reduceLT, Int.reduceToNat]
   refine ⟨_, ihy.at _ [] n3 B3 (.inr ⟨rfl, rfl⟩) (by simp) (by omega), ?_⟩
   rintro _ _ ⟨rfl, n4, rfl⟩
   obtain ⟨B4, hB4⟩ : ∃ B, B = B3 ++ putT y [] := ⟨_, rfl⟩
   have hL4 : B4.length = (B3).length + (putT y []).length := by rw [hB4, List.length_append]; try rfl
   rw [← hB4]
   simp only [go_sem, Int.reduceEq, Int.reduceLE, Int.reduceLT, Int.reduceToNat]
   refine ⟨_, wrB pageT n4 B4 41 (by omega), ?_⟩
   rintro _ _ ⟨rfl, n5, rfl⟩
   obtain ⟨B5, hB5⟩ : ∃ B, B = B4 ++ [41] := ⟨_, rfl⟩
   have hL5 : B5.length = (B4).length + 1 := by rw [hB5, List.length_append]; try rfl
   rw [← hB5]
   simp only [go_sem, Int.reduceEq, Int.reduceLE, Int.reduceLT, Int.reduceToNat]
   exact finSelf ⟨rfl, bSame (by rw [hB5, hB4, hB3, hB2, hB1]; simp only [has45, has5, has0, brkT, brkF, List.append_assoc, List.cons_append, List.nil_append])⟩
 | false =>
  ·simp only [go_sem, Int.reduceEq, Int.reduceLE, Int.reduceLT, Int.reduceToNat, Re.c_mk, Re.cs_eq, Int.reduceBEq]
   refine ⟨_, ihx _ [5] st (.inl rfl) (by simp) (by omega), ?_⟩
   rintro _ _ ⟨rfl, n1, rfl⟩
   obtain ⟨B1, hB1⟩ : ∃ B, B = bTx st ++ putT x [5] := ⟨_, rfl⟩
   have hL1 : B1.length = (bTx st).length + (putT x [5]).length := by rw [hB1, List.length_append]; try rfl
   rw [← hB1]
   simp only [go_sem, Int.reduceEq, Int.reduceLE, Int.reduceLT, Int.reduceToNat]
   refine ⟨_, wrB pageT n1 B1 124 (by omega), ?_⟩
   rintro _ _ ⟨rfl, n2, rfl⟩
   obtain ⟨B2, hB2⟩ : ∃ B, B = B1 ++ [124] := ⟨_, rfl⟩
   have hL2 : B2.length = (B1).length + 1 := by rw [hB2, List.length_append]; try rfl
   rw [← hB2]
   simp only [go_sem, Int.reduceEq, Int.reduceLE, Int.reduceLT, Int.reduceToNat]
   refine ⟨_, ihy.at _ [] n2 B2 (.inr ⟨rfl, rfl⟩) (by simp) (by omega), ?_⟩
   rintro _ _ ⟨rfl, n3, rfl⟩
   obtain ⟨B3, hB3⟩ : ∃ B, B = B2 ++ putT y [] := ⟨_, rfl⟩
   have hL3 : B3.length = (B2).length + (putT y []).length := by rw [hB3, List.length_append]; try rfl
   rw [← hB3]
   simp only [go_sem, Int.reduceEq, Int.reduceLE, Int.reduceLT, Int.reduceToNat]
   exact finSelf ⟨rfl, bSame (by rw [hB3, hB2, hB1]; simp only [has45, has5, has0, brkT, brkF, List.append_assoc, List.cons_append, List.nil_append])⟩
set_option maxHeartbeats 1000000 in
theorem put6 (x : Re) (hx : x.nodesOk = true) (ihx : putGo x) : putGo (.mk 6 0 0 0 0 [x]) := by
 intro K ks st hK hk hl
 have hxl := txt_le x hx
 have e : (Re.mk 6 0 0 0 0 [x]).sz = 1 + x.sz := by simp [Re.sz, Re.szs]
 rw [e] at hl
 have bx1 : (putT x [4, 5]).length ≤ x.txt.length + 2 := (brk_len _ _).2
 have hc0 := hasK ks (Re.mk 6 0 0 0 0 [x]).kd (by omega)
 have hp : putT (.mk 6 0 0 0 0 [x]) ks = brk (ks.contains 6) (Re.mk 6 0 0 0 0 [x]).txt := rfl
 rw [hp, txt_6]
 change AP _ _ [Ks ks, .v (.int .u8 6)] (.b (ks.contains 6)) at hc0
 refine AC.lbody hT hm Tryz.func46 f46_nm f46_lc f46_res f46_nt ?_
 simp only [go_sem, Int.reduceEq, Int.reduceLE, Int.reduceLT, Int.reduceToNat, Re.c_mk]
 refine hc0.pv ⟨hK.cv, .v, trivial⟩ ?_
 cases hc : ks.contains 6 with
 | true =>
  ·simp only [go_sem, Int.reduceEq, Int.reduceLE, Int.reduceLT, Int.reduceToNat, Re.c_mk, Re.cs_eq, Int.reduceBEq]
   refine ⟨_, wrByte pageT st 40 (by omega), ?_⟩
   rintro _ _ ⟨rfl, n1, rfl⟩
   obtain ⟨B1, hB1⟩ : ∃ B, B = bTx st ++ [40] := ⟨_, rfl⟩
   have hL1 : B1.length = (bTx st).length + 1 := by rw [hB1, List.length_append]; try rfl
   rw [← hB1]
   simp only [go_sem, Int.reduceEq, Int.reduceLE, Int.reduceLT, Int.reduceToNat, Re.c_mk, Re.cs_eq, Int.reduceBEq]
   refine ⟨_, ihx.at _ [4, 5] n1 B1 (.inl rfl) (by simp) (by omega), ?_⟩
   rintro _ _ ⟨rfl, n2, rfl⟩
   obtain ⟨B2, hB2⟩ : ∃ B, B = B1 ++ putT x [4, 5] := ⟨_, rfl⟩
   have hL2 : B2.length = (B1).length + (putT x [4, 5]).length := by rw [hB2, List.length_append]; try rfl
   rw [← hB2]
   simp only [go_sem, Int.reduceEq, Int.reduceLE, Int.reduceLT, Int.reduceToNat]
   refine ⟨_, wrB pageT n2 B2 42 (by omega), ?_⟩
   rintro _ _ ⟨rfl, n3, rfl⟩
   obtain ⟨B3, hB3⟩ : ∃ B, B = B2 ++ [42] := ⟨_, rfl⟩
   have hL3 : B3.length = (B2).length + 1 := by rw [hB3, List.length_append]; try rfl
   rw [← hB3]
   simp only [go_sem, Int.reduceEq, Int.reduceLE, Int.reduceLT, Int.reduceToNat]
   refine ⟨_, wrB pageT n3 B3 41 (by omega), ?_⟩
   rintro _ _ ⟨rfl, n4, rfl⟩
   obtain ⟨B4, hB4⟩ : ∃ B, B = B3 ++ [41] := ⟨_, rfl⟩
   have hL4 : B4.length = (B3).length + 1 := by rw [hB4, List.length_append]; try rfl
   rw [← hB4]
   simp only [go_sem, Int.reduceEq, Int.reduceLE, Int.reduceLT, Int.reduceToNat]
   exact finSelf ⟨rfl, bSame (by rw [hB4, hB3, hB2, hB1]; simp only [has45, has5, has0, brkT, brkF, List.append_assoc, List.cons_append, List.nil_append])⟩
 | false =>
  ·simp only [go_sem, Int.reduceEq, Int.reduceLE, Int.reduceLT, Int.reduceToNat, Re.c_mk, Re.cs_eq, Int.reduceBEq]
   refine ⟨_, ihx _ [4, 5] st (.inl rfl) (by simp) (by omega), ?_⟩
   rintro _ _ ⟨rfl, n1, rfl⟩
   obtain ⟨B1, hB1⟩ : ∃ B, B = bTx st ++ putT x [4, 5] := ⟨_, rfl⟩
   have hL1 : B1.length = (bTx st).length + (putT x [4, 5]).length := by rw [hB1, List.length_append]; try rfl
   rw [← hB1]
   simp only [go_sem, Int.reduceEq, Int.reduceLE, Int.reduceLT, Int.reduceToNat]
   refine ⟨_, wrB pageT n1 B1 42 (by omega), ?_⟩
   rintro _ _ ⟨rfl, n2, rfl⟩
   obtain ⟨B2, hB2⟩ : ∃ B, B = B1 ++ [42] := ⟨_, rfl⟩
   have hL2 : B2.length = (B1).length + 1 := by rw [hB2, List.length_append]; try rfl
   rw [← hB2]
   simp only [go_sem, Int.reduceEq, Int.reduceLE, Int.reduceLT, Int.reduceToNat]
   exact finSelf ⟨rfl, bSame (by rw [hB2, hB1]; simp only [has45, has5, has0, brkT, brkF, List.append_assoc, List.cons_append, List.nil_append])⟩
end Go.Proofs.YtlejbkfefpfolaaGreatDoor.W
set_option maxRecDepth 100000
namespace Go.Proofs.YtlejbkfefpfolaaGreatDoor.W
open Go Go.Proofs Go.Proofs.YtlejbkfefpfolaaGreatDoor.AWP
attribute [local irreducible] xl hide aop aops aopQ qops guardP condP
theorem putAll (r : Re) (hok : r.nodesOk = true) (hw : r.wd) : putGo r := by
 revert hw
 refine Re.indOk (p := fun r => r.wd → putGo r) ?_ ?_ ?_ ?_ r hok
 ·intro k hk _
  rcases hk with rfl | rfl
  ·exact put1
  ·exact put2
 ·intro a b c d _ hw
  rw [Re.wd] at hw
  exact put3 a b c d hw.1
 ·intro k x y hk hx hy ihx ihy hw
  rw [Re.wd, Re.wds, Re.wds] at hw
  rcases hk with rfl | rfl
  ·exact put4 x y hx hy (ihx hw.2.1) (ihy hw.2.2.1)
  ·exact put5 x y hx hy (ihx hw.2.1) (ihy hw.2.2.1)
 ·intro x hx ihx hw
  rw [Re.wd, Re.wds, Re.wds] at hw
  exact put6 x hx (ihx hw.2.1)
def shT (r : Re) : List UInt8 := if mayB r = true then r.txt else []
theorem showText (r : Re) (hz : r.sz ≤ 1048576) (hw : r.wd) : AP Tryz.prog 28 [.agg r.c] (txD (shT r)) := by
 have c1 := may r (by omega)
 refine AC.lbody hT hm Tryz.func28 f28_nm f28_lc f28_res f28_nt ?_
 simp only [go_sem, Int.reduceEq, Int.reduceLE, Int.reduceLT, Int.reduceToNat]
 refine c1.pv ⟨.same (Res_bl' [r]), trivial⟩ ?_
 unfold shT
 rcases mayCase r with hm | hm
 ·simp only [go_sem, Int.reduceEq, Int.reduceLE, Int.reduceLT, Int.reduceToNat, hm, Bool.not_false]
  exact Fin.v rfl
 obtain ⟨hok, h2⟩ := mayZ hm
 obtain ⟨c, l, hcl, _⟩ := txt_cons r hok
 simp only [go_sem, Int.reduceEq, Int.reduceLE, Int.reduceLT, Int.reduceToNat, hm, Bool.not_true]
 refine ⟨_, putAll r hok hw _ [] none (.inr ⟨rfl, rfl⟩) (by simp) (by simp; omega), ?_⟩
 rintro _ _ ⟨rfl, n, rfl⟩
 have e : bTx none ++ putT r [] = r.txt := by rw [has0]; rfl
 rw [e]
 simp only [go_sem, Int.reduceEq, Int.reduceLE, Int.reduceLT, Int.reduceToNat]
 refine ⟨_, strOf n r.txt (by rw [hcl]; simp), ?_⟩
 rintro _ _ ⟨rfl, rfl⟩
 simp only [go_sem, Int.reduceEq, Int.reduceLE, Int.reduceLT, Int.reduceToNat]
 exact Fin.v rfl
theorem rRound (l : List UInt8) (b : Bool) (hl : l.length ≤ 1000000000) : AP Tryz.prog 64 [txD l, .b b] (txD (brk b l)) := by
 refine AC.lbody hT hm Tryz.func64 f64_nm f64_lc f64_res f64_nt ?_
 have h1 : 1 + l.length ≤ 9223372036854775807 := by omega
 have h2 : l.length ≤ 9223372036854775805 := by omega
 have e40 : (⟨#[40]⟩ : ByteArray) = ⟨([40] : List UInt8).toArray⟩ := rfl
 have e41 : (⟨#[41]⟩ : ByteArray) = ⟨([41] : List UInt8).toArray⟩ := rfl
 cases b with
 | true =>
  simp only [go_sem, Int.reduceEq, Int.reduceLE, Int.reduceLT, Int.reduceToNat, e40, e41, h1, h2, ba_app, ba_size]
  exact Fin.v rfl
 | false =>
  simp only [go_sem, Int.reduceEq, Int.reduceLE, Int.reduceLT, Int.reduceToNat]
  exact Fin.v rfl
theorem c_0 (r : Re) : r.c[0]? = some (.v (.int .u8 r.kd)) := by obtain ⟨k, a, b, c, d, ks⟩ := r; rw [Re.c_mk]; rfl
set_option maxHeartbeats 1000000 in
theorem rOfT (r : Re) (hok : r.nodesOk = true) (hw : r.wd) : r.sz ≤ 100000 → AP Tryz.prog 44 [.agg r.c] (txD r.txt) := by
 revert hw
 refine Re.indOk (p := fun r => r.wd → r.sz ≤ 100000 → AP Tryz.prog 44 [.agg r.c] (txD r.txt)) ?_ ?_ ?_ ?_ r hok
 ·intro k hk _ _
  rcases hk with rfl | rfl
  ·rw [txt_1]
   refine AC.lbody hT hm Tryz.func44 f44_nm f44_lc f44_res f44_nt ?_
   simp only [go_sem, Int.reduceEq, Int.reduceLE, Int.reduceLT, Int.reduceToNat, Re.c_mk, Int.reduceBEq]
   exact Fin.v rfl
  ·rw [txt_2]
   refine AC.lbody hT hm Tryz.func44 f44_nm f44_lc f44_res f44_nt ?_
   simp only [go_sem, Int.reduceEq, Int.reduceLE, Int.reduceLT, Int.reduceToNat, Re.c_mk, Int.reduceBEq]
   exact Fin.v rfl
 ·intro a b c d _ hw _
  rw [Re.wd] at hw
  rw [txt_3]
  have hT := rText [a, b, c, d] hw.1
  have hx := hT
  clear hT
  refine AC.lbody hT hm Tryz.func44 f44_nm f44_lc f44_res f44_nt ?_
  simp only [go_sem, Int.reduceEq, Int.reduceLE, Int.reduceLT, Int.reduceToNat, Re.c_mk, Int.reduceBEq]
  refine hx.pv ⟨.same (.agg (W_bl [a, b, c, d])), trivial⟩ ?_
  simp only [go_sem, Int.reduceEq, Int.reduceLE, Int.reduceLT, Int.reduceToNat]
  exact Fin.v rfl
 ·intro k x y hk hx hy ihx ihy hw hz
  have e : (Re.mk k 0 0 0 0 [x, y]).sz = 1 + (x.sz + y.sz) := by simp [Re.sz, Re.szs]
  rw [e] at hz
  rw [Re.wd, Re.wds, Re.wds] at hw
  have cx := ihx hw.2.1 (by omega)
  have cy := ihy hw.2.2.1 (by omega)
  have hxl := txt_le x hx
  have hyl := txt_le y hy
  have hx0 := c_0 x
  have hy0 := c_0 y
  rcases hk with rfl | rfl
  ·rw [txt_4]
   have r1 := rRound x.txt x.is45 (by omega)
   have r2 := rRound y.txt y.is5 (by omega)
   have b1 := (brk_len x.is45 x.txt).2
   have b2 := (brk_len y.is5 y.txt).2
   have hs : (brk x.is45 x.txt).length + (brk y.is5 y.txt).length ≤ 9223372036854775807 := by omega
   have ey5 : (y.kd == 5) = y.is5 := rfl
   refine AC.lbody hT hm Tryz.func44 f44_nm f44_lc f44_res f44_nt ?_
   simp only [go_sem, Int.reduceEq, Int.reduceLE, Int.reduceLT, Int.reduceToNat, Re.c_mk, Re.cs_eq, Int.reduceBEq]
   refine cx.pv ⟨.same (Re.d_bl _), trivial⟩ ?_
   simp only [go_sem, Int.reduceEq, Int.reduceLE, Int.reduceLT, Int.reduceToNat, Re.c_mk, Re.cs_eq, Int.reduceBEq, hx0]
   by_cases k4 : x.kd = 4
   ·have e4 : (x.kd == 4) = true := by simp [k4]
    have h45 : x.is45 = true := by simp [Re.is45, k4]
    simp only [go_sem, Int.reduceEq, Int.reduceLE, Int.reduceLT, Int.reduceToNat, e4]
    refine r1.qv ⟨.v, .eq (by rw [h45]) (.v _), trivial⟩ ?_
    simp only [go_sem, Int.reduceEq, Int.reduceLE, Int.reduceLT, Int.reduceToNat]
    refine cy.qv ⟨.same (Re.d_bl _), trivial⟩ ?_
    simp only [go_sem, Int.reduceEq, Int.reduceLE, Int.reduceLT, Int.reduceToNat, hy0, ey5]
    refine r2.pv ⟨.v, .v, trivial⟩ ?_
    simp only [go_sem, Int.reduceEq, Int.reduceLE, Int.reduceLT, Int.reduceToNat, hs, ba_app]
    exact Fin.v rfl
   have e4 : (x.kd == 4) = false := by simp [k4]
   by_cases k5 : x.kd = 5
   ·have e5 : (x.kd == 5) = true := by simp [k5]
    have h45 : x.is45 = true := by simp [Re.is45, k5]
    simp only [go_sem, Int.reduceEq, Int.reduceLE, Int.reduceLT, Int.reduceToNat, e4, e5, hx0]
    refine r1.qv ⟨.v, .eq (by rw [h45]) (.v _), trivial⟩ ?_
    simp only [go_sem, Int.reduceEq, Int.reduceLE, Int.reduceLT, Int.reduceToNat]
    refine cy.qv ⟨.same (Re.d_bl _), trivial⟩ ?_
    simp only [go_sem, Int.reduceEq, Int.reduceLE, Int.reduceLT, Int.reduceToNat, hy0, ey5]
    refine r2.pv ⟨.v, .v, trivial⟩ ?_
    simp only [go_sem, Int.reduceEq, Int.reduceLE, Int.reduceLT, Int.reduceToNat, hs, ba_app]
    exact Fin.v rfl
   ·have e5 : (x.kd == 5) = false := by simp [k5]
    have h45 : x.is45 = false := by simp [Re.is45, k4, k5]
    simp only [go_sem, Int.reduceEq, Int.reduceLE, Int.reduceLT, Int.reduceToNat, e4, e5, hx0]
    refine r1.qv ⟨.v, .eq (by rw [h45]) (.v _), trivial⟩ ?_
    simp only [go_sem, Int.reduceEq, Int.reduceLE, Int.reduceLT, Int.reduceToNat]
    refine cy.qv ⟨.same (Re.d_bl _), trivial⟩ ?_
    simp only [go_sem, Int.reduceEq, Int.reduceLE, Int.reduceLT, Int.reduceToNat, hy0, ey5]
    refine r2.pv ⟨.v, .v, trivial⟩ ?_
    simp only [go_sem, Int.reduceEq, Int.reduceLE, Int.reduceLT, Int.reduceToNat, hs, ba_app]
    exact Fin.v rfl
  ·rw [txt_5]
   have r1 := rRound x.txt x.is5 (by omega)
   have b1 := (brk_len x.is5 x.txt).2
   have hs1 : (brk x.is5 x.txt).length + 1 ≤ 9223372036854775807 := by omega
   have hs : (brk x.is5 x.txt).length + 1 + y.txt.length ≤ 9223372036854775807 := by omega
   have ex5 : (x.kd == 5) = x.is5 := rfl
   have e124 : (⟨#[124]⟩ : ByteArray) = ⟨([124] : List UInt8).toArray⟩ := rfl
   refine AC.lbody hT hm Tryz.func44 f44_nm f44_lc f44_res f44_nt ?_
   simp only [go_sem, Int.reduceEq, Int.reduceLE, Int.reduceLT, Int.reduceToNat, Re.c_mk, Re.cs_eq, Int.reduceBEq]
   refine cx.pv ⟨.same (Re.d_bl _), trivial⟩ ?_
   simp only [go_sem, Int.reduceEq, Int.reduceLE, Int.reduceLT, Int.reduceToNat, Re.c_mk, Re.cs_eq, Int.reduceBEq, hx0]
   simp only [go_sem, Int.reduceEq, Int.reduceLE, Int.reduceLT, Int.reduceToNat, ex5]
   refine r1.qv ⟨.v, .v, trivial⟩ ?_
   simp only [go_sem, Int.reduceEq, Int.reduceLE, Int.reduceLT, Int.reduceToNat, e124, hs1, ba_app]
   refine cy.qv ⟨.same (Re.d_bl _), trivial⟩ ?_
   simp only [go_sem, Int.reduceEq, Int.reduceLE, Int.reduceLT, Int.reduceToNat, hs, ba_app]
   exact Fin.v rfl
 ·intro x hx ihx hw hz
  have e : (Re.mk 6 0 0 0 0 [x]).sz = 1 + x.sz := by simp [Re.sz, Re.szs]
  rw [e] at hz
  rw [Re.wd, Re.wds, Re.wds] at hw
  have cx := ihx hw.2.1 (by omega)
  have hxl := txt_le x hx
  have hx0 := c_0 x
  have r1 := rRound x.txt x.is45 (by omega)
  have b1 := (brk_len x.is45 x.txt).2
  have hs1 : (brk x.is45 x.txt).length + 1 ≤ 9223372036854775807 := by omega
  have e42 : (⟨#[42]⟩ : ByteArray) = ⟨([42] : List UInt8).toArray⟩ := rfl
  rw [txt_6]
  refine AC.lbody hT hm Tryz.func44 f44_nm f44_lc f44_res f44_nt ?_
  simp only [go_sem, Int.reduceEq, Int.reduceLE, Int.reduceLT, Int.reduceToNat, Re.c_mk, Re.cs_eq, Int.reduceBEq]
  refine cx.pv ⟨.same (Re.d_bl _), trivial⟩ ?_
  simp only [go_sem, Int.reduceEq, Int.reduceLE, Int.reduceLT, Int.reduceToNat, Re.c_mk, Re.cs_eq, Int.reduceBEq, hx0]
  by_cases k4 : x.kd = 4
  ·have e4 : (x.kd == 4) = true := by simp [k4]
   have h45 : x.is45 = true := by simp [Re.is45, k4]
   simp only [go_sem, Int.reduceEq, Int.reduceLE, Int.reduceLT, Int.reduceToNat, e4]
   refine r1.pv ⟨.v, .eq (by rw [h45]) (.v _), trivial⟩ ?_
   simp only [go_sem, Int.reduceEq, Int.reduceLE, Int.reduceLT, Int.reduceToNat, e42, hs1, ba_app]
   exact Fin.v rfl
  have e4 : (x.kd == 4) = false := by simp [k4]
  by_cases k5 : x.kd = 5
  ·have e5 : (x.kd == 5) = true := by simp [k5]
   have h45 : x.is45 = true := by simp [Re.is45, k5]
   simp only [go_sem, Int.reduceEq, Int.reduceLE, Int.reduceLT, Int.reduceToNat, e4, e5, hx0]
   refine r1.pv ⟨.v, .eq (by rw [h45]) (.v _), trivial⟩ ?_
   simp only [go_sem, Int.reduceEq, Int.reduceLE, Int.reduceLT, Int.reduceToNat, e42, hs1, ba_app]
   exact Fin.v rfl
  ·have e5 : (x.kd == 5) = false := by simp [k5]
   have h45 : x.is45 = false := by simp [Re.is45, k4, k5]
   simp only [go_sem, Int.reduceEq, Int.reduceLE, Int.reduceLT, Int.reduceToNat, e4, e5, hx0]
   refine r1.pv ⟨.v, .eq (by rw [h45]) (.v _), trivial⟩ ?_
   simp only [go_sem, Int.reduceEq, Int.reduceLE, Int.reduceLT, Int.reduceToNat, e42, hs1, ba_app]
   exact Fin.v rfl
end Go.Proofs.YtlejbkfefpfolaaGreatDoor.W
