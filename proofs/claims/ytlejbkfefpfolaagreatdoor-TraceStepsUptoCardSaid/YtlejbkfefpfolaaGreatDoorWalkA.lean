/- Part of a program logic over data: rules of the walk, each proved. -/
import Derived.Test.YtlejbkfefpfolaaGreatDoorGen
import Derived.Test.YtlejbkfefpfolaaGreatDoorGenB
import Derived.Test.YtlejbkfefpfolaaGreatDoorMath
set_option linter.unusedVariables false
set_option linter.unusedSimpArgs false
set_option linter.unusedSectionVars false
set_option maxRecDepth 100000
namespace Go.Proofs.YtlejbkfefpfolaaGreatDoor.W
open Go Go.Proofs Go.Proofs.YtlejbkfefpfolaaGreatDoor.AWP
theorem isNaN_u8 (x : Int) : AP Tryz.prog 136 [.v (.int .u8 x)] (.b false) := by
 refine AC.lbody hT hm Tryz.func136 f136_nm f136_lc f136_res f136_nt ?_
 simp only [go_sem]
 exact Fin.v rfl
theorem cmp_u8 (x y : Int) : AP Tryz.prog 124 [.v (.int .u8 x), .v (.int .u8 y)] (.i (cmpI x y)) := by
 refine AC.lbody hT hm Tryz.func124 f124_nm f124_lc f124_res f124_nt ?_
 simp only [go_sem]
 refine (isNaN_u8 x).pv ⟨.v, trivial⟩ ?_
 simp only [go_sem]
 refine (isNaN_u8 y).pv ⟨.v, trivial⟩ ?_
 simp only [go_sem, cmpI]
 by_cases h1 : x < y
 ·simp only [go_sem, h1]
  exact Fin.v rfl
 ·by_cases h2 : y < x
  ·simp only [go_sem, h1, h2]
   exact Fin.v rfl
  ·simp only [go_sem, h1, h2]
   exact Fin.v rfl
end Go.Proofs.YtlejbkfefpfolaaGreatDoor.W
set_option maxRecDepth 100000
namespace Go.Proofs.YtlejbkfefpfolaaGreatDoor.W
open Go Go.Proofs Go.Proofs.YtlejbkfefpfolaaGreatDoor.AWP
theorem isNaN_u64 (x : Int) : AP Tryz.prog 143 [.v (.int .u64 x)] (.b false) := by
 refine AC.lbody hT hm Tryz.func143 f143_nm f143_lc f143_res f143_nt ?_
 simp only [go_sem]
 exact Fin.v rfl
theorem cmp_u64 (x y : Int) : AP Tryz.prog 138 [.v (.int .u64 x), .v (.int .u64 y)] (.i (cmpI x y)) := by
 refine AC.lbody hT hm Tryz.func138 f138_nm f138_lc f138_res f138_nt ?_
 simp only [go_sem]
 refine (isNaN_u64 x).pv ⟨.v, trivial⟩ ?_
 simp only [go_sem]
 refine (isNaN_u64 y).pv ⟨.v, trivial⟩ ?_
 simp only [go_sem, cmpI]
 by_cases h1 : x < y
 ·simp only [go_sem, h1]
  exact Fin.v rfl
 ·by_cases h2 : y < x
  ·simp only [go_sem, h1, h2]
   exact Fin.v rfl
  ·simp only [go_sem, h1, h2]
   exact Fin.v rfl
theorem cf_u64 (xs ys : List Int) (hx : xs.length < 1000) : AP Tryz.prog 137 [.sl 1 (xs.map fun x => [.v (.int .u64 x)]), .sl 1 (ys.map fun x => [.v (.int .u64 x)]), .fn 138 []] (.i (cmpsI xs ys)) := by
 refine AC.lbody hT hm Tryz.func137 f137_nm f137_lc f137_res f137_nt ?_
 simp only [go_sem]
 refine xl_loopM hT hm (fun i : Nat => ⟨f137_i11 (.sl 1 (xs.map fun x => [.v (.int .u64 x)])) (.sl 1 (ys.map fun x => [.v (.int .u64 x)])) (.fn 138 []) (.sl 1 (xs.map fun x => [.v (.int .u64 x)])) (.i xs.length) (.i i), []⟩)
  (fun i : Nat => i ≤ xs.length ∧ i ≤ ys.length ∧ cmpsI xs ys = cmpsI (xs.drop i) (ys.drop i)) (fun i => xs.length - i) 0 ⟨Nat.zero_le _, Nat.zero_le _, rfl⟩ (Mv.none (by simp [f137_i11])) ?_
 rintro i ⟨h1, h2, h3⟩
 simp only [go_sem]
 by_cases hi : i < xs.length
 ·obtain ⟨x, hxi⟩ : ∃ x, xs[i]? = some x := ⟨_, List.getElem?_eq_getElem hi⟩
  simp only [go_sem, hi, hxi]
  by_cases hj : i < ys.length
  ·obtain ⟨y, hyi⟩ : ∃ y, ys[i]? = some y := ⟨_, List.getElem?_eq_getElem hj⟩
   simp only [go_sem, hj, hyi, Nat.not_le.2 hj]
   refine (cmp_u64 x y).pv ⟨.v, .v, trivial⟩ ?_
   simp only [go_sem]
   by_cases hc : cmpI x y = 0
   ·simp only [go_sem, hc]
    refine ⟨i + 1, ⟨hi, hj, ?_⟩, by omega, ?_⟩
    ·rw [h3, drop_get hxi, drop_get hyi, cmpsI, hc]; rfl
    ·rw [wrap_succ i (by omega)]
     exact Mv.none (by simp)
   ·simp only [go_sem, bne_true hc]
    refine Fin.v ?_
    rw [h3, drop_get hxi, drop_get hyi, cmpsI, orI, if_neg hc]
  ·simp only [go_sem, hj, Nat.not_lt.1 hj]
   refine Fin.v ?_
   rw [h3, drop_get hxi, drop_end hj, cmpsI]
 ·simp only [go_sem, hi]
  by_cases hl : xs.length < ys.length
  ·simp only [go_sem, hl]
   obtain ⟨y, hyi⟩ := get_ex (show i < ys.length by omega)
   refine Fin.v ?_
   rw [h3, drop_end hi, drop_get hyi, cmpsI]
  ·simp only [go_sem, hl]
   refine Fin.v ?_
   rw [h3, drop_end hi, drop_end (show ¬ i < ys.length by omega), cmpsI]
theorem setOrder (a b c d a' b' c' d' : Int) : AP Tryz.prog 125 [.agg [.v (.int .u64 a), .v (.int .u64 b), .v (.int .u64 c), .v (.int .u64 d)], .agg [.v (.int .u64 a'), .v (.int .u64 b'), .v (.int .u64 c'), .v (.int .u64 d')]] (.i (setCmp a b c d a' b' c' d')) := by
 refine AC.lbody hT hm Tryz.func125 f125_nm f125_lc f125_res f125_nt ?_
 simp only [go_sem]
 refine (cf_u64 [a, b, c, d] [a', b', c', d'] (by simp)).pv (by simp) ?_
 simp only [go_sem]
 refine Fin.v ?_
 simp [cmpsI, setCmp]
end Go.Proofs.YtlejbkfefpfolaaGreatDoor.W
set_option maxRecDepth 100000
namespace Go.Proofs.YtlejbkfefpfolaaGreatDoor.W
open Go Go.Proofs Go.Proofs.YtlejbkfefpfolaaGreatDoor.AWP
theorem cf_re (xs ys : List Re) (ih : ∀ x ∈ xs, ∀ y, AP Tryz.prog 115 [.agg x.c, .agg y.c] (.i (x.cmp y))) :
  AP Tryz.prog 126 [.sl 6 (xs.map Re.c), .sl 6 (ys.map Re.c), .fn 115 []] (.i (Re.cmps xs ys)) := by
 refine AC.wf rfl fun hw => ?_
 have hlen : xs.length ≤ 9223372036854775807 := by simpa using (hw _ (List.mem_cons_self ..)).sl_len
 refine AC.lbody hT hm Tryz.func126 f126_nm f126_lc f126_res f126_nt ?_
 simp only [go_sem]
 refine xl_loopM hT hm (fun i : Nat => ⟨f126_i11 (.sl 6 (xs.map Re.c)) (.sl 6 (ys.map Re.c)) (.fn 115 []) (.sl 6 (xs.map Re.c)) (.i xs.length) (.i i), []⟩)
  (fun i : Nat => i ≤ xs.length ∧ i ≤ ys.length ∧ Re.cmps xs ys = Re.cmps (xs.drop i) (ys.drop i)) (fun i => xs.length - i) 0 ⟨Nat.zero_le _, Nat.zero_le _, rfl⟩ (Mv.none (by simp [f126_i11])) ?_
 rintro i ⟨h1, h2, h3⟩
 simp only [go_sem]
 by_cases hi : i < xs.length
 ·obtain ⟨x, hxi⟩ := get_ex hi
  simp only [go_sem, hi, hxi]
  by_cases hj : i < ys.length
  ·obtain ⟨y, hyi⟩ := get_ex hj
   simp only [go_sem, hj, hyi, Nat.not_le.2 hj]
   refine (ih x (List.mem_of_getElem? hxi) y).pv (by simp) ?_
   simp only [go_sem]
   by_cases hc : x.cmp y = 0
   ·simp only [go_sem, hc]
    refine ⟨i + 1, ⟨hi, hj, ?_⟩, by omega, ?_⟩
    ·rw [h3, drop_get hxi, drop_get hyi, Re.cmps, hc, zero_orI]
    ·rw [wrap_succ i (by omega)]
     exact Mv.none (by simp)
   ·simp only [go_sem, bne_true hc]
    refine Fin.v ?_
    rw [h3, drop_get hxi, drop_get hyi, Re.cmps, orI_ne hc]
  ·simp only [go_sem, hj, Nat.not_lt.1 hj]
   refine Fin.v ?_
   rw [h3, drop_get hxi, drop_end hj, Re.cmps]
 ·simp only [go_sem, hi]
  by_cases hl : xs.length < ys.length
  ·simp only [go_sem, hl]
   obtain ⟨y, hyi⟩ := get_ex (show i < ys.length by omega)
   refine Fin.v ?_
   rw [h3, drop_end hi, drop_get hyi, Re.cmps]
  ·simp only [go_sem, hl]
   refine Fin.v ?_
   rw [h3, drop_end hi, drop_end (show ¬ i < ys.length by omega), Re.cmps]
theorem or_int (xs : List Int) (h : xs.length < 1000) : AP Tryz.prog 123 [.sl 1 (xs.map fun x => [.i x])] (.i (xs.foldr orI 0)) := by
 refine AC.lbody hT hm Tryz.func123 f123_nm f123_lc f123_res f123_nt ?_
 simp only [go_sem]
 refine xl_loopM hT hm (fun i : Nat => ⟨f123_i8 (.i 0) (.sl 1 (xs.map fun x => [.i x])) (.i xs.length) (.i i), []⟩)
  (fun i : Nat => i ≤ xs.length ∧ xs.foldr orI 0 = (xs.drop i).foldr orI 0) (fun i => xs.length - i) 0 ⟨Nat.zero_le _, rfl⟩ (Mv.none (by simp [f123_i8])) ?_
 rintro i ⟨h1, h3⟩
 simp only [go_sem]
 by_cases hi : i < xs.length
 ·obtain ⟨x, hxi⟩ := get_ex hi
  simp only [go_sem, hi, hxi]
  by_cases hc : x = 0
  ·simp only [go_sem, hc]
   refine ⟨i + 1, ⟨hi, ?_⟩, by omega, ?_⟩
   ·rw [h3, drop_get hxi, hc, List.foldr_cons, zero_orI]
   ·rw [wrap_succ i (by omega)]
    exact Mv.none (by simp)
  ·simp only [go_sem, bne_true hc]
   refine Fin.v ?_
   rw [h3, drop_get hxi, List.foldr_cons, orI_ne hc]
 ·simp only [go_sem, hi]
  refine Fin.v ?_
  rw [h3, drop_end hi]; rfl
theorem two (x : Re) : ∀ y : Re, AP Tryz.prog 115 [.agg x.c, .agg y.c] (.i (x.cmp y)) := by
 refine Re.ind (p := fun x => ∀ y : Re, AP Tryz.prog 115 [.agg x.c, .agg y.c] (.i (x.cmp y))) ?_ x
 rintro k a b c d ks ih ⟨k', a', b', c', d', ks'⟩
 refine AC.lbody hT hm Tryz.func115 f115_nm f115_lc f115_res f115_nt ?_
 simp only [go_sem]
 refine (cmp_u8 k k').qv (by simp) ?_
 simp only [go_sem]
 refine (setOrder a b c d a' b' c' d').qv (by simp) ?_
 simp only [go_sem]
 refine (cf_re ks ks' ih).pv (by simp) ?_
 simp only [go_sem]
 refine (or_int [cmpI k k', setCmp a b c d a' b' c' d', Re.cmps ks ks'] (by simp)).pv (by simp) ?_
 simp only [go_sem]
 refine Fin.v ?_
 simp [Re.cmp]
end Go.Proofs.YtlejbkfefpfolaaGreatDoor.W
set_option maxRecDepth 100000
namespace Go.Proofs.YtlejbkfefpfolaaGreatDoor.W
open Go Go.Proofs Go.Proofs.YtlejbkfefpfolaaGreatDoor.AWP
theorem refOrder (xs ys : List Int) (hx : xs.length = 4) (hy : ys.length = 4) : AP Tryz.prog 118 [.agg (xs.map fun x => .v (.int .u64 x)), .agg (ys.map fun x => .v (.int .u64 x))] (.i (cmpsI xs ys)) := by
 refine AC.lbody hT hm Tryz.func118 f118_nm f118_lc f118_res f118_nt ?_
 simp only [go_sem]
 refine xl_loopM hT hm (fun i : Nat => ⟨f118_i8 (.pel (xs.map fun x => .v (.int .u64 x))) (.pel (ys.map fun x => .v (.int .u64 x))) (.i i), []⟩)
  (fun i : Nat => i ≤ 4 ∧ cmpsI xs ys = cmpsI (xs.drop i) (ys.drop i)) (fun i => 4 - i) 0 ⟨Nat.zero_le _, rfl⟩ (Mv.none (by simp [f118_i8])) ?_
 rintro i ⟨h1, h3⟩
 simp only [go_sem]
 by_cases hi : i < 4
 ·obtain ⟨x, hxi⟩ := get_ex (l := xs) (show i < xs.length by omega)
  obtain ⟨y, hyi⟩ := get_ex (l := ys) (show i < ys.length by omega)
  have hi' : (i : Int) < 4 := by omega
  simp only [go_sem, hi, hi', hxi, hyi]
  by_cases hc : x < y
  ·simp only [go_sem, hi, hi', hxi, hyi, hc]
   refine Fin.v ?_
   rw [h3, drop_get hxi, drop_get hyi, cmpsI, cmpI, if_pos hc, orI_ne (by decide)]
  ·by_cases hc' : y < x
   ·simp only [go_sem, hi, hi', hxi, hyi, hc, hc']
    refine Fin.v ?_
    rw [h3, drop_get hxi, drop_get hyi, cmpsI, cmpI, if_neg hc, if_pos hc', orI_ne (by decide)]
   ·simp only [go_sem, hi, hi', hxi, hyi, hc, hc']
    refine ⟨i + 1, ⟨hi, ?_⟩, by omega, ?_⟩
    ·rw [h3, drop_get hxi, drop_get hyi, cmpsI, cmpI, if_neg hc, if_neg hc', zero_orI]
    ·rw [wrap_succ i (by omega)]
     exact Mv.none (by simp)
 ·have hi' : ¬ (i : Int) < 4 := by omega
  simp only [go_sem, hi, hi']
  refine Fin.v ?_
  rw [h3, drop_end (by omega), drop_end (by omega), cmpsI]
theorem rtwo (x : Re) : ∀ y : Re, AP Tryz.prog 104 [.agg x.c, .agg y.c] (.i (x.cmp y)) := by
 refine Re.ind (p := fun x => ∀ y : Re, AP Tryz.prog 104 [.agg x.c, .agg y.c] (.i (x.cmp y))) ?_ x
 rintro k a b c d ks ih ⟨k', a', b', c', d', ks'⟩
 refine AC.wf rfl fun hw => ?_
 have hlen : ks.length ≤ 9223372036854775807 := by
  have := Re.ok_agg (hw _ (List.mem_cons_self ..))
  rw [Re.Ok] at this
  exact this.2
 refine AC.lbody hT hm Tryz.func104 f104_nm f104_lc f104_res f104_nt ?_
 simp only [go_sem]
 by_cases h1 : k < k'
 ·simp only [go_sem, h1]
  refine Fin.v ?_
  rw [Re.cmp, cmpI, if_pos h1, orI_ne (by decide)]
 by_cases h2 : k' < k
 ·simp only [go_sem, h1, h2]
  refine Fin.v ?_
  rw [Re.cmp, cmpI, if_neg h1, if_pos h2, orI_ne (by decide)]
 simp only [go_sem, h1, h2]
 refine (refOrder [a, b, c, d] [a', b', c', d'] rfl rfl).pv (by simp) ?_
 have e : cmpsI [a, b, c, d] [a', b', c', d'] = setCmp a b c d a' b' c' d' := by simp [cmpsI, setCmp]
 have e2 : (Re.mk k a b c d ks).cmp (Re.mk k' a' b' c' d' ks') = orI (setCmp a b c d a' b' c' d') (Re.cmps ks ks') := by rw [Re.cmp, cmpI, if_neg h1, if_neg h2, zero_orI]
 rw [e, e2]
 by_cases h3 : setCmp a b c d a' b' c' d' = 0
 ·simp only [go_sem, h3, zero_orI]
  refine xl_loopM hT hm (fun i : Nat => ⟨f104_i17 (.pel (Re.mk k a b c d ks).c) (.pel (Re.mk k' a' b' c' d' ks').c) (.i ks.length) (.i i), []⟩)
   (fun i : Nat => i ≤ ks.length ∧ i ≤ ks'.length ∧ Re.cmps ks ks' = Re.cmps (ks.drop i) (ks'.drop i)) (fun i => ks.length - i) 0 ⟨Nat.zero_le _, Nat.zero_le _, rfl⟩ (Mv.none (by simp [f104_i17, Re.c_mk, Re.cs_eq])) ?_
  rintro i ⟨q1, q2, q3⟩
  simp only [go_sem]
  by_cases hi : i < ks.length
  ·obtain ⟨x, hxi⟩ := get_ex hi
   simp only [go_sem, hi]
   by_cases hj : i < ks'.length
   ·obtain ⟨y, hyi⟩ := get_ex hj
    have hne : ¬ (i : Int) = ks'.length := by omega
    simp only [go_sem, beq_false hne, hxi, hyi]
    refine (ih x (List.mem_of_getElem? hxi) y).pv (by simp) ?_
    simp only [go_sem]
    by_cases hc : x.cmp y = 0
    ·simp only [go_sem, hc]
     refine ⟨i + 1, ⟨hi, hj, ?_⟩, by omega, ?_⟩
     ·rw [q3, drop_get hxi, drop_get hyi, Re.cmps, hc, zero_orI]
     ·rw [wrap_succ i (by omega)]
      exact Mv.none (by simp)
    ·simp only [go_sem, bne_true hc]
     refine Fin.v ?_
     rw [q3, drop_get hxi, drop_get hyi, Re.cmps, orI_ne hc]
   ·have hne : (i : Int) = ks'.length := by omega
    simp only [go_sem, ← hne]
    refine Fin.v ?_
    rw [q3, drop_get hxi, drop_end hj, Re.cmps]
  ·simp only [go_sem, hi]
   by_cases hl : ks.length < ks'.length
   ·simp only [go_sem, hl]
    obtain ⟨y, hyi⟩ := get_ex (show i < ks'.length by omega)
    refine Fin.v ?_
    rw [q3, drop_end hi, drop_get hyi, Re.cmps]
   ·simp only [go_sem, hl]
    refine Fin.v ?_
    rw [q3, drop_end hi, drop_end (show ¬ i < ks'.length by omega), Re.cmps]
 ·simp only [go_sem, bne_true h3]
  refine Fin.v ?_
  rw [orI_ne h3]
end Go.Proofs.YtlejbkfefpfolaaGreatDoor.W
set_option maxRecDepth 100000
namespace Go.Proofs.YtlejbkfefpfolaaGreatDoor.W
open Go Go.Proofs Go.Proofs.YtlejbkfefpfolaaGreatDoor.AWP
theorem bare (k : Int) : AP Tryz.prog 56 [.v (.int .u8 k)] (.agg (Re.mk k 0 0 0 0 []).c) := by
 refine AC.lbody hT hm Tryz.func56 f56_nm f56_lc f56_res f56_nt ?_
 simp only [go_sem]
 refine Fin.ret (.aggL ?_)
 simp [CvL, Re.c_mk, Re.cs_eq]
theorem many (x : Re) : AP Tryz.prog 83 [.agg x.c] (.agg (Re.mk 6 0 0 0 0 [x]).c) := by
 refine AC.lbody hT hm Tryz.func83 f83_nm f83_lc f83_res f83_nt ?_
 simp only [go_sem]
 refine Fin.ret (.aggL ?_)
 simp [CvL, Re.c_mk, Re.cs_eq]
theorem count (most : Int) (x : Re) : AP Tryz.prog 26 [.agg x.c, .i most] (.i (x.cnt most)) := by
 refine Re.ind (p := fun x => AP Tryz.prog 26 [.agg x.c, .i most] (.i (x.cnt most))) ?_ x
 intro k a b c d ks ih
 refine AC.wf rfl fun hw => ?_
 have hlen : ks.length ≤ 9223372036854775807 := by
  have := Re.ok_agg (hw _ (List.mem_cons_self ..))
  rw [Re.Ok] at this
  exact this.2
 refine AC.lbody hT hm Tryz.func26 f26_nm f26_lc f26_res f26_nt ?_
 simp only [go_sem]
 refine xl_loopM hT hm (fun i : Nat × Int => ⟨f26_i9 (.i most) (.pel (Re.mk k a b c d ks).c) (.i i.2) (.i ks.length) (.i i.1), []⟩)
  (fun i : Nat × Int => i.1 ≤ ks.length ∧ Re.cnts most ks 1 = Re.cnts most (ks.drop i.1) i.2) (fun i => ks.length - i.1) (0, 1) ⟨Nat.zero_le _, rfl⟩ (Mv.none (by simp [f26_i9, Re.c_mk, Re.cs_eq])) ?_
 rintro ⟨i, t⟩ ⟨q1, q3⟩
 simp only at q1 q3
 simp only [go_sem]
 by_cases hi : i < ks.length
 ·obtain ⟨x, hxi⟩ := get_ex hi
  simp only [go_sem, hi]
  by_cases hm : most < t
  ·simp only [go_sem, hm]
   refine Fin.v ?_
   rw [Re.cnt, q3, drop_get hxi, Re.cnts, if_pos hm]
  ·simp only [go_sem, hm, hxi]
   refine (ih x (List.mem_of_getElem? hxi)).pv (by simp) ?_
   simp only [go_sem]
   refine ⟨(i + 1, IntKind.wrap .i64 (t + x.cnt most)), ⟨hi, ?_⟩, by simp only; omega, ?_⟩
   ·rw [q3, drop_get hxi, Re.cnts, if_neg hm]
   ·rw [wrap_succ i (by omega)]
    exact Mv.none (by simp)
 ·simp only [go_sem, hi]
  refine Fin.v ?_
  rw [Re.cnt, q3, drop_end hi, Re.cnts]
theorem great (most : Int) (x : Re) : AP Tryz.prog 8 [.agg x.c, .i most] (.b (decide (most < x.cnt most))) := by
 refine AC.lbody hT hm Tryz.func8 f8_nm f8_lc f8_res f8_nt ?_
 simp only [go_sem]
 refine (count most x).pv (by simp) ?_
 simp only [go_sem]
 exact Fin.v rfl
end Go.Proofs.YtlejbkfefpfolaaGreatDoor.W
set_option maxRecDepth 100000
namespace Go.Proofs.YtlejbkfefpfolaaGreatDoor.W
open Go Go.Proofs Go.Proofs.YtlejbkfefpfolaaGreatDoor.AWP
theorem same (x : Re) : ∀ y : Re, AP Tryz.prog 14 [.agg x.c, .agg y.c] (.b (x.same y)) := by
 refine Re.ind (p := fun x => ∀ y : Re, AP Tryz.prog 14 [.agg x.c, .agg y.c] (.b (x.same y))) ?_ x
 rintro k a b c d ks ih ⟨k', a', b', c', d', ks'⟩
 refine AC.wf rfl fun hw => ?_
 have hlen : ks.length ≤ 9223372036854775807 := by
  have := Re.ok_agg (hw _ (List.mem_cons_self ..))
  rw [Re.Ok] at this
  exact this.2
 refine AC.lbody hT hm Tryz.func14 f14_nm f14_lc f14_res f14_nt ?_
 simp only [go_sem]
 by_cases h1 : k = k'
 case neg =>
  simp only [go_sem, bne_true h1]
  refine Fin.v ?_
  simp [Re.same, h1]
 subst h1
 simp only [go_sem, intsEq]
 by_cases h2 : a = a' ∧ b = b' ∧ c = c' ∧ d = d'
 case neg =>
  have e : (a == a' && (b == b' && (c == c' && (d == d' && true)))) = false := by
   rw [Bool.eq_false_iff]
   simpa using h2
  simp only [go_sem, e, Bool.not_false]
  refine Fin.v ?_
  rw [Re.same]
  simp [h2]
 obtain ⟨rfl, rfl, rfl, rfl⟩ := h2
 simp only [go_sem, Bool.and_self, Bool.not_true]
 have es : (Re.mk k a b c d ks).same (Re.mk k a b c d ks') = Re.sames ks ks' := by simp [Re.same]
 rw [es]
 by_cases h3 : (ks.length : Int) = ks'.length
 case neg =>
  simp only [go_sem, bne_true h3]
  refine Fin.v ?_
  rw [Re.sames_len _ _ (by omega)]
 simp only [go_sem, h3]
 refine xl_loopM hT hm (fun i : Nat => ⟨f14_i9 (.pel (Re.mk k a b c d ks).c) (.pel (Re.mk k a b c d ks').c) (.i ks'.length) (.i i), []⟩)
  (fun i : Nat => i ≤ ks.length ∧ Re.sames ks ks' = Re.sames (ks.drop i) (ks'.drop i)) (fun i => ks.length - i) 0 ⟨Nat.zero_le _, rfl⟩ (Mv.none (by simp [f14_i9, Re.c_mk, Re.cs_eq])) ?_
 rintro i ⟨q1, q3⟩
 simp only [go_sem]
 by_cases hi : i < ks'.length
 ·obtain ⟨x, hxi⟩ := get_ex (l := ks) (show i < ks.length by omega)
  obtain ⟨y, hyi⟩ := get_ex hi
  simp only [go_sem, hi, hxi, hyi]
  refine (ih x (List.mem_of_getElem? hxi) y).pv (by simp) ?_
  simp only [go_sem]
  cases hs : x.same y with
  | true =>
   simp only [go_sem, Bool.not_true]
   refine ⟨i + 1, ⟨by omega, ?_⟩, by omega, ?_⟩
   ·rw [q3, drop_get hxi, drop_get hyi, Re.sames, hs, Bool.true_and]
   ·rw [wrap_succ i (by omega)]
    exact Mv.none (by simp)
  | false =>
   simp only [go_sem, Bool.not_false]
   refine Fin.v ?_
   rw [q3, drop_get hxi, drop_get hyi, Re.sames, hs, Bool.false_and]
 ·simp only [go_sem, hi]
  refine Fin.v ?_
  rw [q3, drop_end hi, drop_end (show ¬ i < ks.length by omega), Re.sames]
end Go.Proofs.YtlejbkfefpfolaaGreatDoor.W
