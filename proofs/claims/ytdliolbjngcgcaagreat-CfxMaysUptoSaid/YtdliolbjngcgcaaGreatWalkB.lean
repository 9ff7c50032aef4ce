/- Readers of arguments: May grammars be, and an expression in one; their texts. -/
import Derived.Test.YtdliolbjngcgcaaGreatWalkA
import Derived.Test.YtdliolbjngcgcaaGreatLogicD
import Derived.Lib.IndexBytes
import Derived.Lib.CutLaws
import Derived.Test.YtdliolbjngcgcaaGreatMathB
import Derived.Test.YtdliolbjngcgcaaGreatMathA
import Derived.Test.YtdliolbjngcgcaaGreatBridgeA
import Derived.ChangeMaps5
import Derived.JoinedCond
import Derived.HandedShaped
import Derived.Shelf.Vars
import Derived.Test.YtdliolbjngcgcaaGreatRows
set_option linter.unusedVariables false
set_option linter.unusedSimpArgs false
set_option linter.unusedSectionVars false
set_option maxRecDepth 100000
namespace Go.Proofs.YtdliolbjngcgcaaGreat.W
open Go Go.Proofs Go.Proofs.YtdliolbjngcgcaaGreat.AWP
attribute [local irreducible] xl hide aop aops aopQ qops guardP condP
abbrev Pd (r : Cf) (q e : Nat) : List D := r.c ++ [.i q, .i e]
abbrev crP : CR → List D
 | .ok r q => Pd r q 0
 | .bad q e => Pd (.mk 0 0 []) q e
theorem Pd_len (r : Cf) (q e : Nat) : (Pd r q e).length = 5 := by simp
theorem Pd_bl (r : Cf) (q e : Nat) : ∀ d ∈ Pd r q e, Bl 0 d := by
 intro d hd
 rcases List.mem_append.1 hd with h | h
 ·exact Cf.c_bl r d h
 ·simp only [List.mem_cons, List.not_mem_nil, or_false] at h
  rcases h with rfl | rfl <;> exact .v _
theorem Pd_agg (r : Cf) (q e : Nat) : Bl 0 (.agg (Pd r q e)) := .agg (Pd_bl r q e)
theorem Pd_3 (r : Cf) (q e : Nat) : (Pd r q e)[3]? = some (.i q) := by rw [List.getElem?_append_right (by simp), Cf.c_len]; rfl
theorem Pd_4 (r : Cf) (q e : Nat) : (Pd r q e)[4]? = some (.i e) := by rw [List.getElem?_append_right (by simp), Cf.c_len]; rfl
theorem Pd_take (r : Cf) (q e : Nat) : (Pd r q e).take 3 = r.c := by rw [List.take_append_of_le_length (by simp)]; simp
theorem Pd_all (r : Cf) (q e : Nat) : (Pd r q e).take 5 = Pd r q e := List.take_of_length_le (by simp)
theorem Pd_put (ty : Nat) (a : List D) (ha : a.length = 5) (r : Cf) (q e : Nat) : obPut (.var ty a) 0 (Pd r q e) = some (.var ty (Pd r q e)) := by
 rw [obPut_var (by simp [ha]), splc_all (by simp [ha])]
theorem tk3 (r : Cf) (L : List D) : List.take 3 (r.c ++ L) = r.c := by rw [List.take_append_of_le_length (by simp)]; simp
theorem dr4 (r : Cf) (a b : D) : List.drop 4 (r.c ++ [a, b]) = [b] := by rw [List.drop_append, Cf.c_len, List.drop_eq_nil_of_le (by simp)]; rfl
abbrev zP : List D := [.v (.int .u8 0), .v (.int .i64 0), .v (.slice Option.none 0 0), .v (.int .i64 0), .v (.int .i64 0)]
theorem Pd_bare (k n : Int) (q e : Nat) : Pd (.mk k n []) q e = [.v (.int .u8 k), .v (.int .i64 n), .sl 3 [], .i q, .i e] := by unfold Pd; rw [bare_c]; rfl
section
variable {ks ds : List ByteArray} {s : ByteArray}
abbrev rdA (ks ds : List ByteArray) (s : ByteArray) (p : Nat) : List D := [.s s, .i p, Strs ks, Strs ds]
theorem cvA {om : List Ob} {F : Nat → Bool} {kk : List (Option Nat)} (p : Nat) : CvL om F kk (rdA ks ds s p) (rdA ks ds s p) := ⟨.v, .v, .same (Strs_bl ks), .same (Strs_bl ds), trivial⟩
set_option maxHeartbeats 16000000 in
theorem rAtom (A : Nat → CR) (p : Nat) (hs : s.size ≤ 65536) (hp : p ≤ 1000000) (hk : ks.length ≤ 1000000) (hd : ds.length ≤ 1000000) (hA : FwdC A s) (hB : BadC A)
  (HA : ∀ q, skipB s p < q → q ≤ s.size → ∀ q', skipB s p < q' → q' ≤ s.size → skipB s q' = skipB s q → AP Tryz.prog 65 (rdA ks ds s q') (.agg (crP (A q)))) :
  AP Tryz.prog 103 (rdA ks ds s p) (.agg (crP (atomP ks ds A s p))) := by
 have hqk : ∀ om (F : Nat → Bool) (kk : List (Option Nat)), Cv om F kk (Strs ks) (Strs ks) := fun om F kk => .same (Strs_bl ks)
 have hqd : ∀ om (F : Nat → Bool) (kk : List (Option Nat)), Cv om F kk (Strs ds) (Strs ds) := fun om F kk => .same (Strs_bl ds)
 unfold atomP
 refine AC.lbody hT hm Tryz.func103 f103_nm f103_lc f103_res f103_nt ?_
 simp only [go_sem, Int.reduceEq, Int.reduceLE, Int.reduceLT, Int.reduceToNat]
 refine (rSkip p hs hp).pv ⟨.v, .v, trivial⟩ ?_
 have hi := skipB_idem s p
 have hx0 : skipB s p ≤ 1000000 := by
  by_cases h : p ≤ s.size
  ·have := skipB_le h; omega
  ·rw [skipB_eq, if_neg (by omega)]; exact hp
 revert HA
 generalize skipB s p = x at hi hx0
 intro HA
 simp only [go_sem, Int.reduceEq, Int.reduceLE, Int.reduceLT, Int.reduceToNat]
 refine (rIs 91 x hs hx0).pv ⟨.v, .v, .v, trivial⟩ ?_
 rw [show (91 : UInt8).toNat = 91 from rfl, hi]
 cases h1 : byB s x 91
 case true =>
  have lt := byB_lt h1
  have hw := wrap_succ x (by omega)
  have hsl := skipB_le (s := s) (show x + 1 ≤ s.size from lt)
  have hsk := le_skipB s (x + 1)
  have hR := rSkip (x + 1) hs (by omega)
  unfold atomQ
  simp only [go_sem, Int.reduceEq, Int.reduceLE, Int.reduceLT, Int.reduceToNat, hw]
  refine (rIs 93 (x + 1) hs (by omega)).pv ⟨.v, .v, .v, trivial⟩ ?_
  rw [show (93 : UInt8).toNat = 93 from rfl, if_pos h1]
  generalize skipB s (x + 1) = y at *
  cases h2 : byB s y 93
  ·simp only [go_sem, Int.reduceEq, Int.reduceLE, Int.reduceLT, Int.reduceToNat, Bool.not_false, hw]
   refine hR.pv ⟨.v, .v, trivial⟩ ?_
   simp only [go_sem, Int.reduceEq, Int.reduceLE, Int.reduceLT, Int.reduceToNat]
   exact Fin.ret (by show Cv _ _ _ _ (.agg (Pd _ _ _)); rw [Pd_bare]; exact .aggL (by simp [CvL]))
  ·have lt2 := byB_lt h2
   have hw2 := wrap_succ y (by omega)
   simp only [go_sem, Int.reduceEq, Int.reduceLE, Int.reduceLT, Int.reduceToNat, Bool.not_true, hw]
   refine hR.pv ⟨.v, .v, trivial⟩ ?_
   simp only [go_sem, Int.reduceEq, Int.reduceLE, Int.reduceLT, Int.reduceToNat, hw2]
   exact Fin.ret (by show Cv _ _ _ _ (.agg (Pd _ _ _)); rw [Pd_bare]; exact .aggL (by simp [CvL]))
 simp only [go_sem, Int.reduceEq, Int.reduceLE, Int.reduceLT, Int.reduceToNat]
 refine (rIs 40 x hs hx0).pv ⟨.v, .v, .v, trivial⟩ ?_
 rw [show (40 : UInt8).toNat = 40 from rfl, hi]
 cases h2 : byB s x 40
 case true =>
  have lt := byB_lt h2
  have hw := wrap_succ x (by omega)
  have hsl := skipB_le (s := s) (show x + 1 ≤ s.size from lt)
  have hsk := le_skipB s (x + 1)
  have hR := rSkip (x + 1) hs (by omega)
  have HA' := HA (skipB s (x + 1)) (by omega) hsl (x + 1) (by omega) lt (skipB_idem s (x + 1)).symm
  unfold atomQ
  simp only [go_sem, Int.reduceEq, Int.reduceLE, Int.reduceLT, Int.reduceToNat, hw]
  refine (rIs 41 (x + 1) hs (by omega)).pv ⟨.v, .v, .v, trivial⟩ ?_
  rw [show (41 : UInt8).toNat = 41 from rfl, if_neg (by rw [h1]; simp), if_pos h2]
  generalize skipB s (x + 1) = y at *
  cases h3 : byB s y 41
  case true =>
   have lt2 := byB_lt h3
   have hw2 := wrap_succ y (by omega)
   simp only [go_sem, Int.reduceEq, Int.reduceLE, Int.reduceLT, Int.reduceToNat, hw]
   refine hR.pv ⟨.v, .v, trivial⟩ ?_
   simp only [go_sem, Int.reduceEq, Int.reduceLE, Int.reduceLT, Int.reduceToNat, hw2]
   exact Fin.ret (by show Cv _ _ _ _ (.agg (Pd _ _ _)); rw [Pd_bare]; exact .aggL (by simp [CvL]))
  simp only [go_sem, Int.reduceEq, Int.reduceLE, Int.reduceLT, Int.reduceToNat, hw]
  refine HA'.pd (cvA _) (.agg (by cases A y <;> exact Pd_bl _ _ _)) ?_
  have hzp : ∀ (r : Cf) (q e : Nat), obPut (.var 72 zP) 0 (Pd r q e) = some (.var 72 (Pd r q e)) := fun r q e => Pd_put _ _ rfl r q e
  cases hc : A y
  case bad q e =>
   have he := (hB hc).1
   have e0 : ((e : Int) != 0) = true := by simp; omega
   simp only [go_sem, Int.reduceEq, Int.reduceLE, Int.reduceLT, Int.reduceToNat, hzp, Pd_4, Pd_len, Pd_all, e0]
   exact Fin.ret (.same (Pd_agg _ _ _))
  rename_i r q
  have hq := hA hc
  have e0 : (((0 : Nat) : Int) != 0) = false := rfl
  have hR2 := rSkip q hs (by omega)
  simp only [go_sem, Int.reduceEq, Int.reduceLE, Int.reduceLT, Int.reduceToNat, hzp, Pd_4, Pd_len, Pd_all, e0, Pd_3]
  refine (rIs 41 q hs (by omega)).pv ⟨.v, .v, .v, trivial⟩ ?_
  rw [show (41 : UInt8).toNat = 41 from rfl]
  have hsl2 := skipB_le hq.2
  generalize skipB s q = z at *
  cases h4 : byB s z 41
  ·simp only [go_sem, Int.reduceEq, Int.reduceLE, Int.reduceLT, Int.reduceToNat, Bool.not_false, Pd_len, Pd_3]
   refine hR2.pv ⟨.v, .v, trivial⟩ ?_
   simp only [go_sem, Int.reduceEq, Int.reduceLE, Int.reduceLT, Int.reduceToNat]
   exact Fin.ret (by show Cv _ _ _ _ (.agg (Pd _ _ _)); rw [Pd_bare]; exact .aggL (by simp [CvL]))
  ·have lt4 := byB_lt h4
   have hw4 := wrap_succ z (by omega)
   simp only [go_sem, Int.reduceEq, Int.reduceLE, Int.reduceLT, Int.reduceToNat, Bool.not_true, Pd_len, Pd_3, Pd_take]
   refine hR2.qv ⟨.v, .v, trivial⟩ ?_
   simp only [go_sem, Int.reduceEq, Int.reduceLE, Int.reduceLT, Int.reduceToNat, hw4, tk3, dr4, Nat.reduceAdd, List.length_cons, List.length_nil, hzp]
   rw [show List.take 5 (r.c ++ [.v (.int .i64 ((z + 1 : Nat) : Int)), .v (.int .i64 0)]) = Pd r (z + 1) 0 from Pd_all r (z + 1) 0]
   exact Fin.ret (.same (Pd_agg _ _ _))
 simp only [go_sem, Int.reduceEq, Int.reduceLE, Int.reduceLT, Int.reduceToNat]
 refine (rBegins x hs hx0).pv ⟨.v, .v, trivial⟩ ?_
 rw [atomQ_name h1 h2, hi]
 unfold nameQ
 cases h3 : lowB s x
 ·simp only [go_sem, Int.reduceEq, Int.reduceLE, Int.reduceLT, Int.reduceToNat, Bool.not_false]
  exact Fin.ret (by show Cv _ _ _ _ (.agg (Pd _ _ _)); rw [Pd_bare]; exact .aggL (by simp [CvL]))
 have hxs := lowB_lt h3
 simp only [go_sem, Int.reduceEq, Int.reduceLE, Int.reduceLT, Int.reduceToNat, Bool.not_true]
 refine xl_loopM hT hm (fun i : Nat => ⟨f103_i20 (.s s) (.i x) (Strs ks) (Strs ds) (.ref 0 0) (.i i), [.var 72 zP]⟩)
  (fun i => x ≤ i ∧ i ≤ s.size ∧ nameTo s i = nameTo s x) (fun i => s.size - i) x ⟨Nat.le_refl _, Nat.le_of_lt hxs, rfl⟩ ?_ ?_
 ·exact Mv.of [some 0] rfl ⟨.varS rfl (by simp), trivial⟩ (by simp only [f103_i20, CvL]; simp [hqk, hqd])
 rintro i ⟨hxi, hil, hn⟩
 simp only [go_sem, Int.reduceEq, Int.reduceLE, Int.reduceLT, Int.reduceToNat]
 by_cases h : i < s.size
 case neg =>
  rw [nameTo_eq, if_neg (fun hh => h hh.1)] at hn
  have hle : i ≤ s.size := hil
  rw [← hn]
  generalize hw : s.extract x i = w
  simp only [go_sem, Int.reduceEq, Int.reduceLE, Int.reduceLT, Int.reduceToNat, h]
  refine xl_loopM hT hm (fun j : Nat => ⟨f103_i27 (.s s) (.i x) (Strs ks) (Strs ds) (.ref 0 0) (.i i) (.i ks.length) (.i j), [.var 72 zP]⟩)
   (fun j => j ≤ ks.length ∧ ∀ (j' : Nat) (y : ByteArray), j' < j → ks[j']? = some y → decide (w = y) = false) (fun j => ks.length - j) 0 ⟨Nat.zero_le _, fun _ _ h => by omega⟩ ?_ ?_
  ·exact Mv.of [some 0] rfl ⟨.varS rfl (by simp), trivial⟩ (by simp only [f103_i27, CvL]; simp [hqk, hqd])
  rintro j ⟨hj, hnj⟩
  simp only [go_sem, Int.reduceEq, Int.reduceLE, Int.reduceLT, Int.reduceToNat, List.length_map]
  by_cases hlt : j < ks.length
  ·obtain ⟨y, hy⟩ := get_ex hlt
   have hwj := wrap_succ j (by omega)
   simp only [go_sem, Int.reduceEq, Int.reduceLE, Int.reduceLT, Int.reduceToNat, hlt, hy, str_get hy, List.length_map, hxi, hle, hw, str_eqb]
   cases he : decide (w = y)
   ·have he' : decide (y = w) = false := by rw [← he, decide_eq_decide]; exact eq_comm
    simp only [go_sem, Int.reduceEq, Int.reduceLE, Int.reduceLT, Int.reduceToNat, he', hwj]
    refine ⟨j + 1, ⟨hlt, fun j' y' h' hy' => ?_⟩, by omega, Mv.of [some 0] rfl ⟨.varS rfl (by simp), trivial⟩ (by simp only [f103_i27, CvL]; simp [hqk, hqd])⟩
    rcases Nat.lt_succ_iff_lt_or_eq.1 h' with h' | rfl
    ·exact hnj j' y' h' hy'
    ·rw [hy] at hy'; cases hy'; exact he
   ·have he' : decide (y = w) = true := by rw [← he, decide_eq_decide]; exact eq_comm
    have hnm : nmI ks w = j := by rw [← nmI_eq]; exact idx_some hy he hnj
    simp only [go_sem, Int.reduceEq, Int.reduceLE, Int.reduceLT, Int.reduceToNat, he', hnm, Int.natCast_nonneg]
    exact Fin.ret (by show Cv _ _ _ _ (.agg (Pd _ _ _)); rw [Pd_bare]; exact .aggL (by simp [CvL]))
  have hnm : nmI ks w = -1 := by
   rw [← nmI_eq]
   refine idx_none fun j' y h => hnj j' y ?_ h
   have := (List.getElem?_eq_some_iff.1 h).1
   omega
  have hn1 : ¬ (0 : Int) ≤ -1 := by omega
  simp only [go_sem, Int.reduceEq, Int.reduceLE, Int.reduceLT, Int.reduceToNat, hlt, List.length_map, hnm, hn1]
  clear hnj hnm hlt hj
  refine xl_loopM hT hm (fun j : Nat => ⟨f103_i34 (.s s) (.i x) (Strs ds) (.ref 0 0) (.i i) (.i ds.length) (.i j), [.var 72 zP]⟩)
   (fun j => j ≤ ds.length ∧ ∀ (j' : Nat) (y : ByteArray), j' < j → ds[j']? = some y → decide (w = y) = false) (fun j => ds.length - j) 0 ⟨Nat.zero_le _, fun _ _ h => by omega⟩ ?_ ?_
  ·exact Mv.of [some 0] rfl ⟨.varS rfl (by simp), trivial⟩ (by simp only [f103_i34, CvL]; simp [hqk, hqd])
  rintro j ⟨hj, hnj⟩
  simp only [go_sem, Int.reduceEq, Int.reduceLE, Int.reduceLT, Int.reduceToNat, List.length_map]
  by_cases hlt : j < ds.length
  ·obtain ⟨y, hy⟩ := get_ex hlt
   have hwj := wrap_succ j (by omega)
   simp only [go_sem, Int.reduceEq, Int.reduceLE, Int.reduceLT, Int.reduceToNat, hlt, hy, str_get hy, List.length_map, hxi, hle, hw, str_eqb]
   cases he : decide (w = y)
   ·have he' : decide (y = w) = false := by rw [← he, decide_eq_decide]; exact eq_comm
    simp only [go_sem, Int.reduceEq, Int.reduceLE, Int.reduceLT, Int.reduceToNat, he', hwj]
    refine ⟨j + 1, ⟨hlt, fun j' y' h' hy' => ?_⟩, by omega, Mv.of [some 0] rfl ⟨.varS rfl (by simp), trivial⟩ (by simp only [f103_i34, CvL]; simp [hqk, hqd])⟩
    rcases Nat.lt_succ_iff_lt_or_eq.1 h' with h' | rfl
    ·exact hnj j' y' h' hy'
    ·rw [hy] at hy'; cases hy'; exact he
   ·have he' : decide (y = w) = true := by rw [← he, decide_eq_decide]; exact eq_comm
    have hnm : nmI ds w = j := by rw [← nmI_eq]; exact idx_some hy he hnj
    simp only [go_sem, Int.reduceEq, Int.reduceLE, Int.reduceLT, Int.reduceToNat, he', hnm, Int.natCast_nonneg]
    exact Fin.ret (by show Cv _ _ _ _ (.agg (Pd _ _ _)); rw [Pd_bare]; exact .aggL (by simp [CvL]))
  have hnm : nmI ds w = -1 := by
   rw [← nmI_eq]
   refine idx_none fun j' y h => hnj j' y ?_ h
   have := (List.getElem?_eq_some_iff.1 h).1
   omega
  simp only [go_sem, Int.reduceEq, Int.reduceLE, Int.reduceLT, Int.reduceToNat, hlt, List.length_map, hnm, hn1]
  exact Fin.ret (by show Cv _ _ _ _ (.agg (Pd _ _ _)); rw [Pd_bare]; exact .aggL (by simp [CvL]))
 obtain ⟨c, hc⟩ := get_lt h
 have hwi := wrap_succ i (by omega)
 have hst := nameTo_eq s i
 rw [at_of hc] at hst
 have go : ltrB c.toNat = true → nameTo s (i + 1) = nameTo s x := fun hl => by rw [← hn, hst, if_pos ⟨h, hl⟩]
 have stay : ltrB c.toNat = false → nameTo s i = i := fun hl => by rw [hst, if_neg (by rw [hl]; simp)]
 by_cases k1 : (97 : Int) ≤ c.toNat
 ·by_cases k2 : (c.toNat : Int) ≤ 122
  ·have hl : ltrB c.toNat = true := by unfold ltrB; rw [decide_eq_true (show 97 ≤ c.toNat by omega), decide_eq_true (show c.toNat ≤ 122 by omega)]; rfl
   simp only [go_sem, Int.reduceEq, Int.reduceLE, Int.reduceLT, Int.reduceToNat, h, hc, k1, k2, hwi]
   exact ⟨i + 1, ⟨by omega, h, go hl⟩, by omega, Mv.of [some 0] rfl ⟨.varS rfl (by simp), trivial⟩ (by simp only [f103_i20, CvL]; simp [hqk, hqd])⟩
  have k3 : (48 : Int) ≤ c.toNat := by omega
  have k4 : ¬ (c.toNat : Int) ≤ 57 := by omega
  have k5 : ((c.toNat : Int) == 95) = false := by rw [beq_eq_false_iff_ne]; omega
  have hl : ltrB c.toNat = false := by
   unfold ltrB
   rw [decide_eq_false (show ¬ c.toNat ≤ 122 by omega), decide_eq_false (show ¬ c.toNat ≤ 57 by omega), decide_eq_false (show ¬ c.toNat = 95 by omega)]; simp
  rw [stay hl] at hn
  have hle : i ≤ s.size := hil
  rw [← hn]
  generalize hw : s.extract x i = w
  simp only [go_sem, Int.reduceEq, Int.reduceLE, Int.reduceLT, Int.reduceToNat, h, hc, k1, k2, k3, k4, k5]
  refine xl_loopM hT hm (fun j : Nat => ⟨f103_i27 (.s s) (.i x) (Strs ks) (Strs ds) (.ref 0 0) (.i i) (.i ks.length) (.i j), [.var 72 zP]⟩)
   (fun j => j ≤ ks.length ∧ ∀ (j' : Nat) (y : ByteArray), j' < j → ks[j']? = some y → decide (w = y) = false) (fun j => ks.length - j) 0 ⟨Nat.zero_le _, fun _ _ h => by omega⟩ ?_ ?_
  ·exact Mv.of [some 0] rfl ⟨.varS rfl (by simp), trivial⟩ (by simp only [f103_i27, CvL]; simp [hqk, hqd])
  rintro j ⟨hj, hnj⟩
  simp only [go_sem, Int.reduceEq, Int.reduceLE, Int.reduceLT, Int.reduceToNat, List.length_map]
  by_cases hlt : j < ks.length
  ·obtain ⟨y, hy⟩ := get_ex hlt
   have hwj := wrap_succ j (by omega)
   simp only [go_sem, Int.reduceEq, Int.reduceLE, Int.reduceLT, Int.reduceToNat, hlt, hy, str_get hy, List.length_map, hxi, hle, hw, str_eqb]
   cases he : decide (w = y)
   ·have he' : decide (y = w) = false := by rw [← he, decide_eq_decide]; exact eq_comm
    simp only [go_sem, Int.reduceEq, Int.reduceLE, Int.reduceLT, Int.reduceToNat, he', hwj]
    refine ⟨j + 1, ⟨hlt, fun j' y' h' hy' => ?_⟩, by omega, Mv.of [some 0] rfl ⟨.varS rfl (by simp), trivial⟩ (by simp only [f103_i27, CvL]; simp [hqk, hqd])⟩
    rcases Nat.lt_succ_iff_lt_or_eq.1 h' with h' | rfl
    ·exact hnj j' y' h' hy'
    ·rw [hy] at hy'; cases hy'; exact he
   ·have he' : decide (y = w) = true := by rw [← he, decide_eq_decide]; exact eq_comm
    have hnm : nmI ks w = j := by rw [← nmI_eq]; exact idx_some hy he hnj
    simp only [go_sem, Int.reduceEq, Int.reduceLE, Int.reduceLT, Int.reduceToNat, he', hnm, Int.natCast_nonneg]
    exact Fin.ret (by show Cv _ _ _ _ (.agg (Pd _ _ _)); rw [Pd_bare]; exact .aggL (by simp [CvL]))
  have hnm : nmI ks w = -1 := by
   rw [← nmI_eq]
   refine idx_none fun j' y h => hnj j' y ?_ h
   have := (List.getElem?_eq_some_iff.1 h).1
   omega
  have hn1 : ¬ (0 : Int) ≤ -1 := by omega
  simp only [go_sem, Int.reduceEq, Int.reduceLE, Int.reduceLT, Int.reduceToNat, hlt, List.length_map, hnm, hn1]
  clear hnj hnm hlt hj
  refine xl_loopM hT hm (fun j : Nat => ⟨f103_i34 (.s s) (.i x) (Strs ds) (.ref 0 0) (.i i) (.i ds.length) (.i j), [.var 72 zP]⟩)
   (fun j => j ≤ ds.length ∧ ∀ (j' : Nat) (y : ByteArray), j' < j → ds[j']? = some y → decide (w = y) = false) (fun j => ds.length - j) 0 ⟨Nat.zero_le _, fun _ _ h => by omega⟩ ?_ ?_
  ·exact Mv.of [some 0] rfl ⟨.varS rfl (by simp), trivial⟩ (by simp only [f103_i34, CvL]; simp [hqk, hqd])
  rintro j ⟨hj, hnj⟩
  simp only [go_sem, Int.reduceEq, Int.reduceLE, Int.reduceLT, Int.reduceToNat, List.length_map]
  by_cases hlt : j < ds.length
  ·obtain ⟨y, hy⟩ := get_ex hlt
   have hwj := wrap_succ j (by omega)
   simp only [go_sem, Int.reduceEq, Int.reduceLE, Int.reduceLT, Int.reduceToNat, hlt, hy, str_get hy, List.length_map, hxi, hle, hw, str_eqb]
   cases he : decide (w = y)
   ·have he' : decide (y = w) = false := by rw [← he, decide_eq_decide]; exact eq_comm
    simp only [go_sem, Int.reduceEq, Int.reduceLE, Int.reduceLT, Int.reduceToNat, he', hwj]
    refine ⟨j + 1, ⟨hlt, fun j' y' h' hy' => ?_⟩, by omega, Mv.of [some 0] rfl ⟨.varS rfl (by simp), trivial⟩ (by simp only [f103_i34, CvL]; simp [hqk, hqd])⟩
    rcases Nat.lt_succ_iff_lt_or_eq.1 h' with h' | rfl
    ·exact hnj j' y' h' hy'
    ·rw [hy] at hy'; cases hy'; exact he
   ·have he' : decide (y = w) = true := by rw [← he, decide_eq_decide]; exact eq_comm
    have hnm : nmI ds w = j := by rw [← nmI_eq]; exact idx_some hy he hnj
    simp only [go_sem, Int.reduceEq, Int.reduceLE, Int.reduceLT, Int.reduceToNat, he', hnm, Int.natCast_nonneg]
    exact Fin.ret (by show Cv _ _ _ _ (.agg (Pd _ _ _)); rw [Pd_bare]; exact .aggL (by simp [CvL]))
  have hnm : nmI ds w = -1 := by
   rw [← nmI_eq]
   refine idx_none fun j' y h => hnj j' y ?_ h
   have := (List.getElem?_eq_some_iff.1 h).1
   omega
  simp only [go_sem, Int.reduceEq, Int.reduceLE, Int.reduceLT, Int.reduceToNat, hlt, List.length_map, hnm, hn1]
  exact Fin.ret (by show Cv _ _ _ _ (.agg (Pd _ _ _)); rw [Pd_bare]; exact .aggL (by simp [CvL]))
 by_cases k3 : (48 : Int) ≤ c.toNat
 ·by_cases k4 : (c.toNat : Int) ≤ 57
  ·have hl : ltrB c.toNat = true := by unfold ltrB; rw [decide_eq_true (show 48 ≤ c.toNat by omega), decide_eq_true (show c.toNat ≤ 57 by omega)]; simp
   simp only [go_sem, Int.reduceEq, Int.reduceLE, Int.reduceLT, Int.reduceToNat, h, hc, k1, k3, k4, hwi]
   exact ⟨i + 1, ⟨by omega, h, go hl⟩, by omega, Mv.of [some 0] rfl ⟨.varS rfl (by simp), trivial⟩ (by simp only [f103_i20, CvL]; simp [hqk, hqd])⟩
  cases k5 : ((c.toNat : Int) == 95)
  case true =>
   have hl : ltrB c.toNat = true := by
    unfold ltrB
    rw [beq_iff_eq] at k5
    rw [decide_eq_true (show c.toNat = 95 by omega), Bool.or_true]
   simp only [go_sem, Int.reduceEq, Int.reduceLE, Int.reduceLT, Int.reduceToNat, h, hc, k1, k3, k4, k5, hwi]
   exact ⟨i + 1, ⟨by omega, h, go hl⟩, by omega, Mv.of [some 0] rfl ⟨.varS rfl (by simp), trivial⟩ (by simp only [f103_i20, CvL]; simp [hqk, hqd])⟩
  have hl : ltrB c.toNat = false := by
   unfold ltrB
   rw [beq_eq_false_iff_ne] at k5
   rw [decide_eq_false (show ¬ 97 ≤ c.toNat by omega), decide_eq_false (show ¬ c.toNat ≤ 57 by omega), decide_eq_false (show ¬ c.toNat = 95 by omega)]; simp
  rw [stay hl] at hn
  have hle : i ≤ s.size := hil
  rw [← hn]
  generalize hw : s.extract x i = w
  simp only [go_sem, Int.reduceEq, Int.reduceLE, Int.reduceLT, Int.reduceToNat, h, hc, k1, k3, k4, k5]
  refine xl_loopM hT hm (fun j : Nat => ⟨f103_i27 (.s s) (.i x) (Strs ks) (Strs ds) (.ref 0 0) (.i i) (.i ks.length) (.i j), [.var 72 zP]⟩)
   (fun j => j ≤ ks.length ∧ ∀ (j' : Nat) (y : ByteArray), j' < j → ks[j']? = some y → decide (w = y) = false) (fun j => ks.length - j) 0 ⟨Nat.zero_le _, fun _ _ h => by omega⟩ ?_ ?_
  ·exact Mv.of [some 0] rfl ⟨.varS rfl (by simp), trivial⟩ (by simp only [f103_i27, CvL]; simp [hqk, hqd])
  rintro j ⟨hj, hnj⟩
  simp only [go_sem, Int.reduceEq, Int.reduceLE, Int.reduceLT, Int.reduceToNat, List.length_map]
  by_cases hlt : j < ks.length
  ·obtain ⟨y, hy⟩ := get_ex hlt
   have hwj := wrap_succ j (by omega)
   simp only [go_sem, Int.reduceEq, Int.reduceLE, Int.reduceLT, Int.reduceToNat, hlt, hy, str_get hy, List.length_map, hxi, hle, hw, str_eqb]
   cases he : decide (w = y)
   ·have he' : decide (y = w) = false := by rw [← he, decide_eq_decide]; exact eq_comm
    simp only [go_sem, Int.reduceEq, Int.reduceLE, Int.reduceLT, Int.reduceToNat, he', hwj]
    refine ⟨j + 1, ⟨hlt, fun j' y' h' hy' => ?_⟩, by omega, Mv.of [some 0] rfl ⟨.varS rfl (by simp), trivial⟩ (by simp only [f103_i27, CvL]; simp [hqk, hqd])⟩
    rcases Nat.lt_succ_iff_lt_or_eq.1 h' with h' | rfl
    ·exact hnj j' y' h' hy'
    ·rw [hy] at hy'; cases hy'; exact he
   ·have he' : decide (y = w) = true := by rw [← he, decide_eq_decide]; exact eq_comm
    have hnm : nmI ks w = j := by rw [← nmI_eq]; exact idx_some hy he hnj
    simp only [go_sem, Int.reduceEq, Int.reduceLE, Int.reduceLT, Int.reduceToNat, he', hnm, Int.natCast_nonneg]
    exact Fin.ret (by show Cv _ _ _ _ (.agg (Pd _ _ _)); rw [Pd_bare]; exact .aggL (by simp [CvL]))
  have hnm : nmI ks w = -1 := by
   rw [← nmI_eq]
   refine idx_none fun j' y h => hnj j' y ?_ h
   have := (List.getElem?_eq_some_iff.1 h).1
   omega
  have hn1 : ¬ (0 : Int) ≤ -1 := by omega
  simp only [go_sem, Int.reduceEq, Int.reduceLE, Int.reduceLT, Int.reduceToNat, hlt, List.length_map, hnm, hn1]
  clear hnj hnm hlt hj
  refine xl_loopM hT hm (fun j : Nat => ⟨f103_i34 (.s s) (.i x) (Strs ds) (.ref 0 0) (.i i) (.i ds.length) (.i j), [.var 72 zP]⟩)
   (fun j => j ≤ ds.length ∧ ∀ (j' : Nat) (y : ByteArray), j' < j → ds[j']? = some y → decide (w = y) = false) (fun j => ds.length - j) 0 ⟨Nat.zero_le _, fun _ _ h => by omega⟩ ?_ ?_
  ·exact Mv.of [some 0] rfl ⟨.varS rfl (by simp), trivial⟩ (by simp only [f103_i34, CvL]; simp [hqk, hqd])
  rintro j ⟨hj, hnj⟩
  simp only [go_sem, Int.reduceEq, Int.reduceLE, Int.reduceLT, Int.reduceToNat, List.length_map]
  by_cases hlt : j < ds.length
  ·obtain ⟨y, hy⟩ := get_ex hlt
   have hwj := wrap_succ j (by omega)
   simp only [go_sem, Int.reduceEq, Int.reduceLE, Int.reduceLT, Int.reduceToNat, hlt, hy, str_get hy, List.length_map, hxi, hle, hw, str_eqb]
   cases he : decide (w = y)
   ·have he' : decide (y = w) = false := by rw [← he, decide_eq_decide]; exact eq_comm
    simp only [go_sem, Int.reduceEq, Int.reduceLE, Int.reduceLT, Int.reduceToNat, he', hwj]
    refine ⟨j + 1, ⟨hlt, fun j' y' h' hy' => ?_⟩, by omega, Mv.of [some 0] rfl ⟨.varS rfl (by simp), trivial⟩ (by simp only [f103_i34, CvL]; simp [hqk, hqd])⟩
    rcases Nat.lt_succ_iff_lt_or_eq.1 h' with h' | rfl
    ·exact hnj j' y' h' hy'
    ·rw [hy] at hy'; cases hy'; exact he
   ·have he' : decide (y = w) = true := by rw [← he, decide_eq_decide]; exact eq_comm
    have hnm : nmI ds w = j := by rw [← nmI_eq]; exact idx_some hy he hnj
    simp only [go_sem, Int.reduceEq, Int.reduceLE, Int.reduceLT, Int.reduceToNat, he', hnm, Int.natCast_nonneg]
    exact Fin.ret (by show Cv _ _ _ _ (.agg (Pd _ _ _)); rw [Pd_bare]; exact .aggL (by simp [CvL]))
  have hnm : nmI ds w = -1 := by
   rw [← nmI_eq]
   refine idx_none fun j' y h => hnj j' y ?_ h
   have := (List.getElem?_eq_some_iff.1 h).1
   omega
  simp only [go_sem, Int.reduceEq, Int.reduceLE, Int.reduceLT, Int.reduceToNat, hlt, List.length_map, hnm, hn1]
  exact Fin.ret (by show Cv _ _ _ _ (.agg (Pd _ _ _)); rw [Pd_bare]; exact .aggL (by simp [CvL]))
 have k5 : ((c.toNat : Int) == 95) = false := by rw [beq_eq_false_iff_ne]; omega
 have hl : ltrB c.toNat = false := by
  unfold ltrB
  rw [decide_eq_false (show ¬ 97 ≤ c.toNat by omega), decide_eq_false (show ¬ 48 ≤ c.toNat by omega), decide_eq_false (show ¬ c.toNat = 95 by omega)]; simp
 rw [stay hl] at hn
 have hle : i ≤ s.size := hil
 rw [← hn]
 generalize hw : s.extract x i = w
 simp only [go_sem, Int.reduceEq, Int.reduceLE, Int.reduceLT, Int.reduceToNat, h, hc, k1, k3, k5]
 refine xl_loopM hT hm (fun j : Nat => ⟨f103_i27 (.s s) (.i x) (Strs ks) (Strs ds) (.ref 0 0) (.i i) (.i ks.length) (.i j), [.var 72 zP]⟩)
  (fun j => j ≤ ks.length ∧ ∀ (j' : Nat) (y : ByteArray), j' < j → ks[j']? = some y → decide (w = y) = false) (fun j => ks.length - j) 0 ⟨Nat.zero_le _, fun _ _ h => by omega⟩ ?_ ?_
 ·exact Mv.of [some 0] rfl ⟨.varS rfl (by simp), trivial⟩ (by simp only [f103_i27, CvL]; simp [hqk, hqd])
 rintro j ⟨hj, hnj⟩
 simp only [go_sem, Int.reduceEq, Int.reduceLE, Int.reduceLT, Int.reduceToNat, List.length_map]
 by_cases hlt : j < ks.length
 ·obtain ⟨y, hy⟩ := get_ex hlt
  have hwj := wrap_succ j (by omega)
  simp only [go_sem, Int.reduceEq, Int.reduceLE, Int.reduceLT, Int.reduceToNat, hlt, hy, str_get hy, List.length_map, hxi, hle, hw, str_eqb]
  cases he : decide (w = y)
  ·have he' : decide (y = w) = false := by rw [← he, decide_eq_decide]; exact eq_comm
   simp only [go_sem, Int.reduceEq, Int.reduceLE, Int.reduceLT, Int.reduceToNat, he', hwj]
   refine ⟨j + 1, ⟨hlt, fun j' y' h' hy' => ?_⟩, by omega, Mv.of [some 0] rfl ⟨.varS rfl (by simp), trivial⟩ (by simp only [f103_i27, CvL]; simp [hqk, hqd])⟩
   rcases Nat.lt_succ_iff_lt_or_eq.1 h' with h' | rfl
   ·exact hnj j' y' h' hy'
   ·rw [hy] at hy'; cases hy'; exact he
  ·have he' : decide (y = w) = true := by rw [← he, decide_eq_decide]; exact eq_comm
   have hnm : nmI ks w = j := by rw [← nmI_eq]; exact idx_some hy he hnj
   simp only [go_sem, Int.reduceEq, Int.reduceLE, Int.reduceLT, Int.reduceToNat, he', hnm, Int.natCast_nonneg]
   exact Fin.ret (by show Cv _ _ _ _ (.agg (Pd _ _ _)); rw [Pd_bare]; exact .aggL (by simp [CvL]))
 have hnm : nmI ks w = -1 := by
  rw [← nmI_eq]
  refine idx_none fun j' y h => hnj j' y ?_ h
  have := (List.getElem?_eq_some_iff.1 h).1
  omega
 have hn1 : ¬ (0 : Int) ≤ -1 := by omega
 simp only [go_sem, Int.reduceEq, Int.reduceLE, Int.reduceLT, Int.reduceToNat, hlt, List.length_map, hnm, hn1]
 clear hnj hnm hlt hj
 refine xl_loopM hT hm (fun j : Nat => ⟨f103_i34 (.s s) (.i x) (Strs ds) (.ref 0 0) (.i i) (.i ds.length) (.i j), [.var 72 zP]⟩)
  (fun j => j ≤ ds.length ∧ ∀ (j' : Nat) (y : ByteArray), j' < j → ds[j']? = some y → decide (w = y) = false) (fun j => ds.length - j) 0 ⟨Nat.zero_le _, fun _ _ h => by omega⟩ ?_ ?_
 ·exact Mv.of [some 0] rfl ⟨.varS rfl (by simp), trivial⟩ (by simp only [f103_i34, CvL]; simp [hqk, hqd])
 rintro j ⟨hj, hnj⟩
 simp only [go_sem, Int.reduceEq, Int.reduceLE, Int.reduceLT, Int.reduceToNat, List.length_map]
 by_cases hlt : j < ds.length
 ·obtain ⟨y, hy⟩ := get_ex hlt
  have hwj := wrap_succ j (by omega)
  simp only [go_sem, Int.reduceEq, Int.reduceLE, Int.reduceLT, Int.reduceToNat, hlt, hy, str_get hy, List.length_map, hxi, hle, hw, str_eqb]
  cases he : decide (w = y)
  ·have he' : decide (y = w) = false := by rw [← he, decide_eq_decide]; exact eq_comm
   simp only [go_sem, Int.reduceEq, Int.reduceLE, Int.reduceLT, Int.reduceToNat, he', hwj]
   refine ⟨j + 1, ⟨hlt, fun j' y' h' hy' => ?_⟩, by omega, Mv.of [some 0] rfl ⟨.varS rfl (by simp), trivial⟩ (by simp only [f103_i34, CvL]; simp [hqk, hqd])⟩
   rcases Nat.lt_succ_iff_lt_or_eq.1 h' with h' | rfl
   ·exact hnj j' y' h' hy'
   ·rw [hy] at hy'; cases hy'; exact he
  ·have he' : decide (y = w) = true := by rw [← he, decide_eq_decide]; exact eq_comm
   have hnm : nmI ds w = j := by rw [← nmI_eq]; exact idx_some hy he hnj
   simp only [go_sem, Int.reduceEq, Int.reduceLE, Int.reduceLT, Int.reduceToNat, he', hnm, Int.natCast_nonneg]
   exact Fin.ret (by show Cv _ _ _ _ (.agg (Pd _ _ _)); rw [Pd_bare]; exact .aggL (by simp [CvL]))
 have hnm : nmI ds w = -1 := by
  rw [← nmI_eq]
  refine idx_none fun j' y h => hnj j' y ?_ h
  have := (List.getElem?_eq_some_iff.1 h).1
  omega
 simp only [go_sem, Int.reduceEq, Int.reduceLE, Int.reduceLT, Int.reduceToNat, hlt, List.length_map, hnm, hn1]
 exact Fin.ret (by show Cv _ _ _ _ (.agg (Pd _ _ _)); rw [Pd_bare]; exact .aggL (by simp [CvL]))
end
end Go.Proofs.YtdliolbjngcgcaaGreat.W
set_option maxRecDepth 100000
namespace Go.Proofs.YtdliolbjngcgcaaGreat.W
open Go Go.Proofs Go.Proofs.YtdliolbjngcgcaaGreat.AWP
attribute [local irreducible] xl hide aop aops aopQ qops guardP condP
section
variable {ks ds : List ByteArray} {s : ByteArray}
abbrev zPOb : Ob := .var 72 zP
theorem zp_put (r : Cf) (q e : Nat) : obPut zPOb 0 (Pd r q e) = some (.var 72 (Pd r q e)) := Pd_put _ _ rfl r q e
def thenV (ks ds : List ByteArray) (A : Nat → CR) (s : ByteArray) (l : List Cf) (p : Nat) : CR := if l = [] then thenP ks ds A s p else thenGo ks ds A s l p
theorem mvZL {l : List Cf} {k : Nat} {om : List Ob} {F : Nat → Bool} (h0 : om[0]? = some zPOb) (h2 : om[k]? = some (clOb l)) : MvL om F [some 0, some k] [some 0, some k] [zPOb, clOb l] :=
 ⟨.varS h0 (by simp), .slcS h2 (Cf.map_bl l), trivial⟩
theorem fin_bad (q e : Nat) {om : List Ob} : Cv om (fun _ => true) [] (.agg [.v (.int .u8 0), .v (.int .i64 0), .v (.slice Option.none 0 0), .i q, .i e]) (.agg (crP (.bad q e))) := by
 show Cv _ _ _ _ (.agg (Pd _ _ _)); rw [Pd_bare]; exact .aggL (by simp [CvL])
set_option maxHeartbeats 4000000 in
theorem rThen (A : Nat → CR) (p : Nat) (hs : s.size ≤ 65536) (hp : p ≤ s.size) (hk : ks.length ≤ 1000000) (hd : ds.length ≤ 1000000) (hA : FwdC A s) (hB : BadC A)
  (HA : ∀ q, skipB s p < q → q ≤ s.size → ∀ q', skipB s p < q' → q' ≤ s.size → skipB s q' = skipB s q → AP Tryz.prog 65 (rdA ks ds s q') (.agg (crP (A q)))) :
  AP Tryz.prog 87 (rdA ks ds s p) (.agg (crP (thenP ks ds A s p))) := by
 have hqk : ∀ om (F : Nat → Bool) (kk : List (Option Nat)), Cv om F kk (Strs ks) (Strs ks) := fun om F kk => .same (Strs_bl ks)
 have hqd : ∀ om (F : Nat → Bool) (kk : List (Option Nat)), Cv om F kk (Strs ds) (Strs ds) := fun om F kk => .same (Strs_bl ds)
 refine AC.lbody hT hm Tryz.func87 f87_nm f87_lc f87_res f87_nt ?_
 simp only [go_sem, Int.reduceEq, Int.reduceLE, Int.reduceLT, Int.reduceToNat]
 refine xl_loopM hT hm (fun i : List Cf × Nat => ⟨f87_i8 (.s s) (.i i.2) (Strs ks) (Strs ds) (.ref 0 0) (.own 1), [zPOb, clOb i.1]⟩)
  (fun i => skipB s p ≤ skipB s i.2 ∧ i.2 ≤ s.size ∧ i.1.length ≤ i.2 ∧ thenV ks ds A s i.1 i.2 = thenP ks ds A s p) (fun i => s.size - i.2) ([], p) ⟨Nat.le_refl _, hp, by simp, rfl⟩ ?_ ?_
 ·exact Mv.of [some 0, some 1] rfl (mvZL rfl rfl) (by simp only [f87_i8, CvL]; simp [hqk, hqd])
 rintro ⟨l, q⟩ ⟨hpq, hq, hlen, hst⟩
 dsimp only at hpq hq hlen hst
 have hqx := le_skipB s q
 have HA' : ∀ q2, skipB s q < q2 → q2 ≤ s.size → ∀ q', skipB s q < q' → q' ≤ s.size → skipB s q' = skipB s q2 → AP Tryz.prog 65 (rdA ks ds s q') (.agg (crP (A q2))) := fun q2 h h' q' h'' => HA q2 (by omega) h' q' (by omega)
 have hbad : (l = [] ∨ moreB s (skipB s q) = true) → ∀ q' e, atomP ks ds A s q = .bad q' e → thenP ks ds A s p = .bad q' e := by
  intro hm q' e hc
  rw [← hst]
  unfold thenV
  split
  ·unfold thenP; rw [hc]
  ·rw [thenGo, if_pos (hm.resolve_left (by assumption)), hc]
 have hok : (l = [] ∨ moreB s (skipB s q) = true) → ∀ r q', atomP ks ds A s q = .ok r q' → (skipB s q < q' ∧ q' ≤ s.size) ∧ thenV ks ds A s (l ++ [r]) q' = thenP ks ds A s p := by
  intro hm r q' hc
  have h1 := atomP_lt hA hc
  refine ⟨h1, ?_⟩
  rw [← hst]
  unfold thenV
  rw [if_neg (by simp)]
  split
  ·rename_i hl; subst hl; unfold thenP; rw [hc]; rfl
  ·refine Eq.symm ?_
   rw [thenGo, if_pos (hm.resolve_left (by assumption)), hc]
   show dite _ _ _ = _
   rw [dif_pos (by omega)]
 simp only [go_sem, Int.reduceEq, Int.reduceLE, Int.reduceLT, Int.reduceToNat, List.length_map]
 cases hl0 : ((l.length : Int) == 0)
 case true =>
  simp only [go_sem, Int.reduceEq, Int.reduceLE, Int.reduceLT, Int.reduceToNat]
  have hmr : l = [] ∨ moreB s (skipB s q) = true := .inl (by rw [beq_iff_eq] at hl0; exact List.eq_nil_of_length_eq_zero (by omega))
  refine (rAtom A q hs (by omega) hk hd hA hB HA').pd (cvA _) (.agg (by cases atomP ks ds A s q <;> exact Pd_bl _ _ _)) ?_
  cases hc : atomP ks ds A s q
  case bad q' e =>
   have he := (atomQ_bad hB hc).1
   have e0 : ((e : Int) != 0) = true := by simp; omega
   simp only [go_sem, Int.reduceEq, Int.reduceLE, Int.reduceLT, Int.reduceToNat, zp_put, Pd_4, Pd_len, Pd_all, e0]
   rw [hbad hmr _ _ hc]
   exact Fin.ret (.same (Pd_agg _ _ _))
  rename_i r q'
  obtain ⟨hq', hgo⟩ := hok hmr _ _ hc
  have hl' := le_skipB s q'
  have e0 : (((0 : Nat) : Int) != 0) = false := rfl
  simp only [go_sem, Int.reduceEq, Int.reduceLE, Int.reduceLT, Int.reduceToNat, zp_put, Pd_4, Pd_len, Pd_all, Pd_3, Pd_take, e0, List.length_map]
  exact ⟨by omega, (l ++ [r], q'), ⟨by dsimp only; omega, hq'.2, by simp; omega, hgo⟩, by dsimp only; omega, Mv.of [some 0, some 3] rfl (mvZL rfl (by simp)) (by simp only [f87_i8, CvL]; simp [hqk, hqd])⟩
 have hne : l ≠ [] := fun h => by subst h; simp at hl0
 simp only [go_sem, Int.reduceEq, Int.reduceLE, Int.reduceLT, Int.reduceToNat]
 refine (rIs 91 q hs (by omega)).pv ⟨.v, .v, .v, trivial⟩ ?_
 rw [show (91 : UInt8).toNat = 91 from rfl]
 cases h1 : byB s (skipB s q) 91
 case true =>
  simp only [go_sem, Int.reduceEq, Int.reduceLE, Int.reduceLT, Int.reduceToNat]
  have hmr : l = [] ∨ moreB s (skipB s q) = true := .inr (by unfold moreB; rw [h1]; rfl)
  refine (rAtom A q hs (by omega) hk hd hA hB HA').pd (cvA _) (.agg (by cases atomP ks ds A s q <;> exact Pd_bl _ _ _)) ?_
  cases hc : atomP ks ds A s q
  case bad q' e =>
   have he := (atomQ_bad hB hc).1
   have e0 : ((e : Int) != 0) = true := by simp; omega
   simp only [go_sem, Int.reduceEq, Int.reduceLE, Int.reduceLT, Int.reduceToNat, zp_put, Pd_4, Pd_len, Pd_all, e0]
   rw [hbad hmr _ _ hc]
   exact Fin.ret (.same (Pd_agg _ _ _))
  rename_i r q'
  obtain ⟨hq', hgo⟩ := hok hmr _ _ hc
  have hl' := le_skipB s q'
  have e0 : (((0 : Nat) : Int) != 0) = false := rfl
  simp only [go_sem, Int.reduceEq, Int.reduceLE, Int.reduceLT, Int.reduceToNat, zp_put, Pd_4, Pd_len, Pd_all, Pd_3, Pd_take, e0, List.length_map]
  exact ⟨by omega, (l ++ [r], q'), ⟨by dsimp only; omega, hq'.2, by simp; omega, hgo⟩, by dsimp only; omega, Mv.of [some 0, some 3] rfl (mvZL rfl (by simp)) (by simp only [f87_i8, CvL]; simp [hqk, hqd])⟩
 simp only [go_sem, Int.reduceEq, Int.reduceLE, Int.reduceLT, Int.reduceToNat]
 refine (rIs 40 q hs (by omega)).pv ⟨.v, .v, .v, trivial⟩ ?_
 rw [show (40 : UInt8).toNat = 40 from rfl]
 cases h2 : byB s (skipB s q) 40
 case true =>
  simp only [go_sem, Int.reduceEq, Int.reduceLE, Int.reduceLT, Int.reduceToNat]
  have hmr : l = [] ∨ moreB s (skipB s q) = true := .inr (by unfold moreB; rw [h1, h2]; rfl)
  refine (rAtom A q hs (by omega) hk hd hA hB HA').pd (cvA _) (.agg (by cases atomP ks ds A s q <;> exact Pd_bl _ _ _)) ?_
  cases hc : atomP ks ds A s q
  case bad q' e =>
   have he := (atomQ_bad hB hc).1
   have e0 : ((e : Int) != 0) = true := by simp; omega
   simp only [go_sem, Int.reduceEq, Int.reduceLE, Int.reduceLT, Int.reduceToNat, zp_put, Pd_4, Pd_len, Pd_all, e0]
   rw [hbad hmr _ _ hc]
   exact Fin.ret (.same (Pd_agg _ _ _))
  rename_i r q'
  obtain ⟨hq', hgo⟩ := hok hmr _ _ hc
  have hl' := le_skipB s q'
  have e0 : (((0 : Nat) : Int) != 0) = false := rfl
  simp only [go_sem, Int.reduceEq, Int.reduceLE, Int.reduceLT, Int.reduceToNat, zp_put, Pd_4, Pd_len, Pd_all, Pd_3, Pd_take, e0, List.length_map]
  exact ⟨by omega, (l ++ [r], q'), ⟨by dsimp only; omega, hq'.2, by simp; omega, hgo⟩, by dsimp only; omega, Mv.of [some 0, some 3] rfl (mvZL rfl (by simp)) (by simp only [f87_i8, CvL]; simp [hqk, hqd])⟩
 simp only [go_sem, Int.reduceEq, Int.reduceLE, Int.reduceLT, Int.reduceToNat]
 refine (rBegins q hs (by omega)).pv ⟨.v, .v, trivial⟩ ?_
 cases h3 : lowB s (skipB s q)
 case true =>
  simp only [go_sem, Int.reduceEq, Int.reduceLE, Int.reduceLT, Int.reduceToNat]
  have hmr : l = [] ∨ moreB s (skipB s q) = true := .inr (by unfold moreB; rw [h1, h2, h3]; rfl)
  refine (rAtom A q hs (by omega) hk hd hA hB HA').pd (cvA _) (.agg (by cases atomP ks ds A s q <;> exact Pd_bl _ _ _)) ?_
  cases hc : atomP ks ds A s q
  case bad q' e =>
   have he := (atomQ_bad hB hc).1
   have e0 : ((e : Int) != 0) = true := by simp; omega
   simp only [go_sem, Int.reduceEq, Int.reduceLE, Int.reduceLT, Int.reduceToNat, zp_put, Pd_4, Pd_len, Pd_all, e0]
   rw [hbad hmr _ _ hc]
   exact Fin.ret (.same (Pd_agg _ _ _))
  rename_i r q'
  obtain ⟨hq', hgo⟩ := hok hmr _ _ hc
  have hl' := le_skipB s q'
  have e0 : (((0 : Nat) : Int) != 0) = false := rfl
  simp only [go_sem, Int.reduceEq, Int.reduceLE, Int.reduceLT, Int.reduceToNat, zp_put, Pd_4, Pd_len, Pd_all, Pd_3, Pd_take, e0, List.length_map]
  exact ⟨by omega, (l ++ [r], q'), ⟨by dsimp only; omega, hq'.2, by simp; omega, hgo⟩, by dsimp only; omega, Mv.of [some 0, some 3] rfl (mvZL rfl (by simp)) (by simp only [f87_i8, CvL]; simp [hqk, hqd])⟩
 have hend : thenP ks ds A s p = .ok (Cf.fold 4 l) q := by
  rw [← hst]
  unfold thenV
  rw [if_neg hne, thenGo, if_neg (by unfold moreB; rw [h1, h2, h3]; simp)]
 rw [hend]
 simp only [go_sem, Int.reduceEq, Int.reduceLE, Int.reduceLT, Int.reduceToNat]
 obtain ⟨x, l', rfl⟩ : ∃ x l', l = x :: l' := by
  cases l with
  | nil => exact absurd rfl hne
  | cons x l' => exact ⟨x, l', rfl⟩
 refine (rFold 4 x l').callF (fun k => k == 1) ⟨.v, cvCl rfl rfl, trivial⟩ (Cf.d_bl _) ?_
 have ef : frzL (fun k => k == 1) [zPOb, clOb (x :: l')] = [zPOb, .frz 3 ((x :: l').map Cf.c)] := rfl
 simp only [go_sem, Int.reduceEq, Int.reduceLE, Int.reduceLT, Int.reduceToNat, ef, tk3, dr4, Nat.reduceAdd, List.length_cons, List.length_nil, zp_put]
 generalize Cf.fold 4 (x :: l') = f
 rw [show List.take 5 (f.c ++ [.v (.int .i64 (q : Int)), .v (.int .i64 0)]) = Pd f q 0 from Pd_all f q 0]
 exact Fin.ret (.same (Pd_agg _ _ _))
def orV (ks ds : List ByteArray) (A : Nat → CR) (s : ByteArray) (l : List Cf) (p : Nat) : CR :=
 match thenP ks ds A s p with
 | .bad q e => .bad q e
 | .ok r q => orGo ks ds A s (l ++ [r]) q
set_option maxHeartbeats 4000000 in
theorem rOr1 (A : Nat → CR) (p : Nat) (hs : s.size ≤ 65536) (hp : p ≤ s.size) (hk : ks.length ≤ 1000000) (hd : ds.length ≤ 1000000) (hA : FwdC A s) (hB : BadC A)
  (HA : ∀ q, skipB s p < q → q ≤ s.size → ∀ q', skipB s p < q' → q' ≤ s.size → skipB s q' = skipB s q → AP Tryz.prog 65 (rdA ks ds s q') (.agg (crP (A q)))) :
  AP Tryz.prog 65 (rdA ks ds s p) (.agg (crP (orP ks ds A s p))) := by
 have hqk : ∀ om (F : Nat → Bool) (kk : List (Option Nat)), Cv om F kk (Strs ks) (Strs ks) := fun om F kk => .same (Strs_bl ks)
 have hqd : ∀ om (F : Nat → Bool) (kk : List (Option Nat)), Cv om F kk (Strs ds) (Strs ds) := fun om F kk => .same (Strs_bl ds)
 refine AC.lbody hT hm Tryz.func65 f65_nm f65_lc f65_res f65_nt ?_
 simp only [go_sem, Int.reduceEq, Int.reduceLE, Int.reduceLT, Int.reduceToNat]
 refine xl_loopM hT hm (fun i : List Cf × Nat => ⟨f65_i10 (.s s) (.i i.2) (Strs ks) (Strs ds) (.ref 0 0) (.own 1), [zPOb, clOb i.1]⟩)
  (fun i => skipB s p ≤ skipB s i.2 ∧ i.2 ≤ s.size ∧ i.1.length ≤ i.2 ∧ orV ks ds A s i.1 i.2 = orP ks ds A s p) (fun i => s.size - i.2) ([], p) ⟨Nat.le_refl _, hp, by simp, rfl⟩ ?_ ?_
 ·exact Mv.of [some 0, some 1] rfl (mvZL rfl rfl) (by simp only [f65_i10, CvL]; simp [hqk, hqd])
 rintro ⟨l, q⟩ ⟨hpq, hq, hlen, hst⟩
 dsimp only at hpq hq hlen hst
 have hqx := le_skipB s q
 have HA' : ∀ q2, skipB s q < q2 → q2 ≤ s.size → ∀ q', skipB s q < q' → q' ≤ s.size → skipB s q' = skipB s q2 → AP Tryz.prog 65 (rdA ks ds s q') (.agg (crP (A q2))) := fun q2 h h' q' h'' => HA q2 (by omega) h' q' (by omega)
 simp only [go_sem, Int.reduceEq, Int.reduceLE, Int.reduceLT, Int.reduceToNat, List.length_map]
 refine (rThen A q hs hq hk hd hA hB HA').pd (cvA _) (.agg (by cases thenP ks ds A s q <;> exact Pd_bl _ _ _)) ?_
 unfold orV at hst
 cases hc : thenP ks ds A s q
 case bad q' e =>
  have he := (thenP_bad hA hB hc).1
  have e0 : ((e : Int) != 0) = true := by simp; omega
  rw [hc] at hst
  rw [← hst]
  simp only [go_sem, Int.reduceEq, Int.reduceLE, Int.reduceLT, Int.reduceToNat, zp_put, Pd_4, Pd_len, Pd_all, e0]
  exact Fin.ret (.same (Pd_agg _ _ _))
 rename_i r q'
 have hq' := thenP_lt hA hc
 rw [hc] at hst
 dsimp only at hst
 rw [orGo] at hst
 have hl' := le_skipB s q'
 have hsl := skipB_le hq'.2
 have e0 : (((0 : Nat) : Int) != 0) = false := rfl
 have hR := rSkip q' hs (by omega)
 have hI := rIs 124 q' hs (by omega)
 rw [show (124 : UInt8).toNat = 124 from rfl] at hI
 generalize skipB s q' = z at *
 simp only [go_sem, Int.reduceEq, Int.reduceLE, Int.reduceLT, Int.reduceToNat, zp_put, Pd_4, Pd_len, Pd_all, Pd_3, Pd_take, e0, List.length_map]
 refine ⟨by omega, ?_⟩
 refine hI.pv ⟨.v, .v, .v, trivial⟩ ?_
 cases h1 : byB s z 124
 case false =>
  rw [if_neg (by rw [h1]; simp)] at hst
  rw [← hst]
  simp only [go_sem, Int.reduceEq, Int.reduceLE, Int.reduceLT, Int.reduceToNat, Bool.not_false]
  obtain ⟨x, l', hx⟩ : ∃ x l', l ++ [r] = x :: l' := by
   cases l with
   | nil => exact ⟨r, [], rfl⟩
   | cons x l' => exact ⟨x, l' ++ [r], rfl⟩
  have hmap : l.map Cf.c ++ [r.c] = (x :: l').map Cf.c := by rw [← hx]; simp
  rw [hmap, hx]
  refine (rFold 5 x l').callF (fun k => k == 3) ⟨.v, cvCl rfl rfl, trivial⟩ (Cf.d_bl _) ?_
  have ef : frzL (fun k => k == 3) [zPOb, .dead, .var 72 (Pd r q' 0), .slc 40 3 (x.c :: l'.map Cf.c)] = [zPOb, .dead, .var 72 (Pd r q' 0), .frz 3 (x.c :: l'.map Cf.c)] := rfl
  simp only [go_sem, Int.reduceEq, Int.reduceLE, Int.reduceLT, Int.reduceToNat, ef, tk3, dr4, Nat.reduceAdd, List.length_cons, List.length_nil, zp_put]
  generalize Cf.fold 5 (x :: l') = f
  rw [show List.take 5 (f.c ++ [.v (.int .i64 (q' : Int)), .v (.int .i64 0)]) = Pd f q' 0 from Pd_all f q' 0]
  exact Fin.ret (.same (Pd_agg _ _ _))
 have lt := byB_lt h1
 have hw := wrap_succ z (by omega)
 have hsk := le_skipB s (z + 1)
 rw [if_pos h1] at hst
 simp only [go_sem, Int.reduceEq, Int.reduceLE, Int.reduceLT, Int.reduceToNat, Bool.not_true]
 refine hR.pv ⟨.v, .v, trivial⟩ ?_
 simp only [go_sem, Int.reduceEq, Int.reduceLE, Int.reduceLT, Int.reduceToNat, hw]
 refine ⟨(l ++ [r], z + 1), ⟨by dsimp only; omega, lt, by simp; omega, ?_⟩, by dsimp only; omega, Mv.of [some 0, some 3] rfl (mvZL rfl (by simp)) (by simp only [f65_i10, CvL]; simp [hqk, hqd])⟩
 rw [← hst]
 unfold orV
 cases hc' : thenP ks ds A s (z + 1)
 ·have := thenP_lt hA hc'
  show _ = dite _ _ _
  rw [dif_pos (by omega)]
 ·rfl
end
theorem rOr (ks ds : List ByteArray) (s : ByteArray) (hs : s.size ≤ 65536) (hk : ks.length ≤ 1000000) (hd : ds.length ≤ 1000000) : ∀ (n p : Nat), s.size - p ≤ n → p ≤ s.size → AP Tryz.prog 65 (rdA ks ds s p) (.agg (crP (orF ks ds s p))) := by
 intro n
 induction n with
 | zero =>
  intro p hn hp
  rw [orF_eq]
  exact rOr1 _ p hs hp hk hd (orA_fwd ks ds s p) (orA_bad ks ds s p) fun q h h' => by have := le_skipB s p; omega
 | succ n ih =>
  intro p hn hp
  rw [orF_eq]
  refine rOr1 _ p hs hp hk hd (orA_fwd ks ds s p) (orA_bad ks ds s p) fun q h h' q' h2 hq' he => ?_
  unfold orA
  rw [if_pos ⟨h, h'⟩, orF_skip he.symm]
  have h1 := le_skipB s p
  exact ih q' (by omega) hq'
abbrev whP (x : Cf × Nat × Nat) : List D := Pd x.1 x.2.1 x.2.2
set_option maxHeartbeats 1000000 in
theorem rWhole (ks ds : List ByteArray) (s : ByteArray) (hs : s.size ≤ 65536) (hk : ks.length ≤ 1000000) (hd : ds.length ≤ 1000000) : AP Tryz.prog 33 [.s s, Strs ks, Strs ds] (.agg (whP (wholeP ks ds s))) := by
 unfold wholeP
 refine AC.lbody hT hm Tryz.func33 f33_nm f33_lc f33_res f33_nt ?_
 simp only [go_sem, Int.reduceEq, Int.reduceLE, Int.reduceLT, Int.reduceToNat]
 refine (rOr ks ds s hs hk hd _ 0 (Nat.le_refl _) (Nat.zero_le _)).pd (cvA _) (.agg (by cases orF ks ds s 0 <;> exact Pd_bl _ _ _)) ?_
 cases hc : orF ks ds s 0
 case bad q e =>
  have he := (orF_bad _ _ (Nat.le_refl _) hc).1
  have e0 : ((e : Int) != 0) = true := by simp; omega
  simp only [go_sem, Int.reduceEq, Int.reduceLE, Int.reduceLT, Int.reduceToNat, zp_put, Pd_4, Pd_len, Pd_all, e0]
  exact Fin.ret (.same (Pd_agg _ _ _))
 rename_i r q
 have hq := orF_lt _ _ (Nat.le_refl _) hc
 have e0 : (((0 : Nat) : Int) != 0) = false := rfl
 simp only [go_sem, Int.reduceEq, Int.reduceLE, Int.reduceLT, Int.reduceToNat, zp_put, Pd_4, Pd_len, Pd_all, Pd_3, e0]
 refine (rSkip q hs (by omega)).pv ⟨.v, .v, trivial⟩ ?_
 generalize skipB s q = z
 by_cases h : z < s.size
 ·simp only [go_sem, Int.reduceEq, Int.reduceLE, Int.reduceLT, Int.reduceToNat, h]
  exact Fin.ret (fin_bad _ _)
 ·simp only [go_sem, Int.reduceEq, Int.reduceLE, Int.reduceLT, Int.reduceToNat, h, Pd_len, Pd_take, tk3, dr4, zp_put]
  rw [show List.take 5 (r.c ++ [.v (.int .i64 0), .v (.int .i64 0)]) = Pd r 0 0 from Pd_all r 0 0]
  exact Fin.ret (.same (Pd_agg _ _ _))
end Go.Proofs.YtdliolbjngcgcaaGreat.W
set_option maxRecDepth 100000
namespace Go.Proofs.YtdliolbjngcgcaaGreat.W
open Go Go.Proofs Go.Proofs.YtdliolbjngcgcaaGreat.AWP
attribute [local irreducible] xl hide aop aops aopQ qops guardP condP
abbrev LNC : Nat := 78
theorem linesC (s : ByteArray) (om : List Ob) : AC Tryz.prog 55 [.s s] om (fun o om' => o = .ret (.fn LNC [.ref om.length 0]) ∧ om' = om ++ [.var 9 [.s s]]) := by
 refine AC.lbody hT hm Tryz.func55 f55_nm f55_lc f55_res f55_nt ?_
 simp only [go_sem, Int.reduceEq, Int.reduceLE, Int.reduceLT, Int.reduceToNat]
 exact finSelf ⟨rfl, rfl⟩
abbrev Ln : Type := Nat × ByteArray × ByteArray
abbrev lnC (x : Ln) : List D := [.i x.1, .s x.2.1, .s x.2.2]
abbrev lnR (l : List Ln) : List (List D) := l.map lnC
theorem lnR_bl (l : List Ln) : ∀ r ∈ lnR l, ∀ d ∈ r, Bl 0 d := by
 intro r hr d hd
 obtain ⟨x, _, rfl⟩ := List.mem_map.1 hr
 simp only [List.mem_cons, List.not_mem_nil, or_false] at hd
 rcases hd with rfl | rfl | rfl <;> exact .v _
abbrev Lns (l : List Ln) : D := .sl 3 (lnR l)
theorem Lns_bl (l : List Ln) : Bl 0 (Lns l) := .sl (lnR_bl l)
abbrev lnOb (l : List Ln) : Ob := .slc 60 3 (lnR l)
abbrev eqS : ByteArray := ⟨#[32, 61, 32]⟩
abbrev metC (kinds : List ByteArray) (l : List Ln) : List ByteArray := kinds ++ l.map (·.2.1)
def lnK (tot : Nat) (kinds : List ByteArray) (out : List Ln) (a sz : Nat) (ended : Bool) (k : ByteArray × ByteArray × Bool) : (Nat × Nat) ⊕ (List Ln × Nat) :=
 if ended = false then .inl (tot, 2)
 else if 50 ≤ out.length then .inl (a, 4)
 else if k.2.2 = false then .inl (a, 2)
 else if nameB k.1 = false then .inl (a, 2)
 else if ((metC kinds out).any fun x => decide (k.1 = x)) = true then .inl (a, 2)
 else .inr (out ++ [(a, k.1, k.2.1)], a + sz)
def lnStep (tot : Nat) (kinds : List ByteArray) (out : List Ln) (a : Nat) (ln : ByteArray) : (Nat × Nat) ⊕ (List Ln × Nat) :=
 lnK tot kinds out a ln.size (csuf 10 ln).2 (cutL (csuf 10 ln).1 eqS)
theorem lnK_inr {tot : Nat} {kinds : List ByteArray} {out : List Ln} {a sz : Nat} {ended : Bool} {k : ByteArray × ByteArray × Bool} {l : List Ln} {a' : Nat} (h : lnK tot kinds out a sz ended k = .inr (l, a')) :
  out.length < 50 ∧ l = out ++ [(a, k.1, k.2.1)] ∧ a' = a + sz ∧ nameB k.1 = true ∧ ((metC kinds out).any fun x => decide (k.1 = x)) = false := by
 unfold lnK at h
 split at h
 ·cases h
 split at h
 ·cases h
 split at h
 ·cases h
 split at h
 ·cases h
 split at h
 ·cases h
 rename_i h1 h2 h3 h4 h5
 cases h
 exact ⟨by omega, rfl, rfl, by simpa using h4, by cases hh : ((metC kinds out).any fun x => decide (k.1 = x)) with
  | true => exact absurd hh h5
  | false => rfl⟩
theorem csuf_szC (c : UInt8) (s : ByteArray) : (csuf c s).1.size ≤ s.size := by
 unfold csuf
 split
 ·simp only [ByteArray.size_extract]; omega
 ·exact Nat.le_refl _
theorem cutL_sz (s sep : ByteArray) : (cutL s sep).1.size ≤ s.size := by
 unfold cutL Go.Lib.cut
 split
 ·rename_i a b c h
  split at h
  ·cases h
   simp only [List.size_toArray]
   show (List.take _ s.data.toList).length ≤ _
   rw [List.length_take]
   have : s.data.toList.length = s.size := by rw [Array.length_toList]; rfl
   omega
  ·cases h
   show (s.data.toList.toArray).size ≤ _
   simp
theorem numName_1 (x : ByteArray) (hx : x.size ≤ 1000000) : AP Tryz.prog 53 [.sl 1 [[.s x]]] (.b (nameB x)) := by
 have h := numNames [x] (by simp) (by simpa using hx)
 have e : [x].all nameB = nameB x := by simp
 rw [e] at h
 exact h
abbrev lpEC (s : ByteArray) (kinds : List ByteArray) : List D :=
 [.s s, Strs kinds, .pel [.s s], .any, .ref 0 0, .ref 1 0, .ref 2 0, .ref 3 0, .ref 6 0, .ref 7 0, .any, .any, .any, .any, .any, .any, Strs kinds, .own 5, .s s, .fn LNC [.ref 8 0]] ++ List.replicate 56 .any
abbrev resC (p e : Int) : List Ob := [.var 55 [.v (.slice none 0 0)], .var 3 [.i p], .var 27 [.v (.int .i64 e)]]
abbrev lpOC (ca cb : Code) (s : ByteArray) (kinds : List ByteArray) (st : LoopState) (pe : Option Code) : Ob := .lp #[20] ca cb st pe (lpEC s kinds)
def lnO (kinds : List ByteArray) (out : List Ln) (sd kd : D) (o5 : Ob) (R : List Ob) : Prop :=
 (out = [] ∧ sd = .v (.slice none 0 0) ∧ kd = .own 5 ∧ o5 = strOb kinds ∧ R = []) ∨ (sd = .own 10 ∧ kd = .own 11 ∧ o5 = .dead ∧ R = [lnOb out, strOb (metC kinds out)])
abbrev lnOm (ca cb : Code) (s : ByteArray) (kinds : List ByteArray) (a : Nat) (r : ByteArray) (sd kd : D) (o5 : Ob) (R : List Ob) : List Ob :=
 resC 0 0 ++ [.var 55 [sd], .dead, o5, .var 22 [kd], .var 3 [.i a], .var 9 [.s r], lpOC ca cb s kinds .ready none] ++ R
def isInrC {α β : Type} : α ⊕ β → Bool
 | .inl _ => false
 | .inr _ => true
def lnQ (ca cb : Code) (s : ByteArray) (kinds : List ByteArray) (r : ByteArray) (q : (Nat × Nat) ⊕ (List Ln × Nat)) (om' : List Ob) : Prop :=
 match q with
 | .inl (p, e) => ∃ o3 o4 o5 o6 o7 o8 M, om' = resC p e ++ [o3, o4, o5, o6, o7, o8, lpOC ca cb s kinds .done (some .ret)] ++ M
 | .inr (l, a) => om' = lnOm ca cb s kinds a r (.own 11) (.own 10) .dead [strOb (metC kinds l), lnOb l] ∨ om' = lnOm ca cb s kinds a r (.own 13) (.own 12) .dead [.dead, .dead, strOb (metC kinds l), lnOb l]
set_option maxHeartbeats 8000000 in
theorem roundC0 {ca cb : Code} (ha : lc ca = (f25_a17).st) (hb : lc cb = (f25_b17).st) (s : ByteArray) (kinds : List ByteArray) (hk : kinds.length ≤ 1000) (a : Nat) (ha' : a ≤ 70000) (r ln : ByteArray) (hln : ln.size ≤ 70000) :
  AY Tryz.prog 9 [.s ln] (lnOm ca cb s kinds a r (.v (.slice none 0 0)) (.own 5) (strOb kinds) [])
   (fun o om' => o = .ret (.b (isInrC (lnStep s.size kinds [] a ln))) ∧ lnQ ca cb s kinds r (lnStep s.size kinds [] a ln) om') := by
 have hC := csuf2 ln 10 (by omega)
 have hsz := csuf_szC 10 ln
 unfold lnStep
 generalize csuf 10 ln = c at hC hsz
 obtain ⟨b, ended⟩ := c
 simp only at hsz
 have hK := cutW b eqS (by omega)
 have hks := cutL_sz b eqS
 dsimp only
 generalize cutL b eqS = k at hK hks
 obtain ⟨nm, bd, okk⟩ := k
 dsimp only at hks
 refine AY.walk hT hm ha hb rfl rfl rfl ?_
 simp only [go_sem, Int.reduceEq, Int.reduceLE, Int.reduceLT, Int.reduceToNat]
 refine hC.pd ⟨.v, .v, trivial⟩ (csufD_bl _) ?_
 simp only [go_sem, Int.reduceEq, Int.reduceLE, Int.reduceLT, Int.reduceToNat]
 refine hK.pd ⟨.v, .v, trivial⟩ (cutLD_bl _) ?_
 cases ended with
 | false =>
  rw [show lnK s.size kinds [] a ln.size false (nm, bd, okk) = .inl (s.size, 2) from rfl]
  simp only [go_sem, Int.reduceEq, Int.reduceLE, Int.reduceLT, Int.reduceToNat, Bool.not_false]
  repeat' apply And.intro
  all_goals exact finSelf ⟨rfl, _, _, _, _, _, _, _, rfl⟩
 | true =>
 have z50 : ¬ (50 : Int) ≤ ((0 : Nat) : Int) := by omega
 cases okk with
 | false =>
  rw [show lnK s.size kinds [] a ln.size true (nm, bd, false) = .inl (a, 2) from by rfl]
  simp only [go_sem, Int.reduceEq, Int.reduceLE, Int.reduceLT, Int.reduceToNat, z50, Bool.not_true, Bool.not_false]
  repeat' apply And.intro
  all_goals exact finSelf ⟨rfl, _, _, _, _, _, _, _, rfl⟩
 | true =>
 simp only [go_sem, Int.reduceEq, Int.reduceLE, Int.reduceLT, Int.reduceToNat, z50, Bool.not_true, Bool.not_false]
 refine (numName_1 nm (by omega)).pv ⟨.same (Strs_bl [nm]), trivial⟩ ?_
 cases hn : nameB nm
 ·rw [show lnK s.size kinds [] a ln.size true (nm, bd, true) = .inl (a, 2) from by show (if nameB nm = false then _ else _) = _; rw [if_pos hn]]
  simp only [go_sem, Int.reduceEq, Int.reduceLE, Int.reduceLT, Int.reduceToNat, Bool.not_false]
  repeat' apply And.intro
  all_goals exact finSelf ⟨rfl, _, _, _, _, _, _, _, rfl⟩
 simp only [go_sem, Int.reduceEq, Int.reduceLE, Int.reduceLT, Int.reduceToNat, Bool.not_true]
 refine (hasStr kinds nm (by omega)).pv ⟨.frzS rfl rfl (strR_bl _), .v, trivial⟩ ?_
 cases hh : kinds.any fun x => decide (nm = x)
 case true =>
  rw [show lnK s.size kinds [] a ln.size true (nm, bd, true) = .inl (a, 2) from by unfold lnK; rw [if_neg (by simp), if_neg (by simp), if_neg (by simp), if_neg (show ¬ nameB nm = false by rw [hn]; simp), if_pos (show ((metC kinds []).any fun x => decide (nm = x)) = true by unfold metC; rw [List.map_nil, List.append_nil]; exact hh)]]
  simp only [go_sem, Int.reduceEq, Int.reduceLE, Int.reduceLT, Int.reduceToNat]
  repeat' apply And.intro
  all_goals exact finSelf ⟨rfl, _, _, _, _, _, _, _, rfl⟩
 rw [show lnK s.size kinds [] a ln.size true (nm, bd, true) = .inr ([] ++ [(a, nm, bd)], a + ln.size) from by unfold lnK; rw [if_neg (by simp), if_neg (by simp), if_neg (by simp), if_neg (show ¬ nameB nm = false by rw [hn]; simp), if_neg (show ¬ ((metC kinds []).any fun x => decide (nm = x)) = true by unfold metC; rw [List.map_nil, List.append_nil, hh]; simp)]]
 have hw : IntKind.i64.wrap ((a : Int) + (ln.size : Int)) = ((a + ln.size : Nat) : Int) := by rw [wrap_int _ (by omega) (by omega)]; omega
 simp only [go_sem, Int.reduceEq, Int.reduceLE, Int.reduceLT, Int.reduceToNat, z50, List.length_map, hw]
 refine ⟨by omega, finSelf ⟨rfl, .inl ?_⟩⟩
 simp [metC]
set_option maxHeartbeats 8000000 in
theorem roundC1 {ca cb : Code} (ha : lc ca = (f25_a17).st) (hb : lc cb = (f25_b17).st) (s : ByteArray) (kinds : List ByteArray) (hk : kinds.length ≤ 1000) (out : List Ln) (hout : out.length ≤ 50) (a : Nat) (ha' : a ≤ 70000) (r ln : ByteArray) (hln : ln.size ≤ 70000) :
  AY Tryz.prog 9 [.s ln] (lnOm ca cb s kinds a r (.own 10) (.own 11) .dead [lnOb out, strOb (metC kinds out)])
   (fun o om' => o = .ret (.b (isInrC (lnStep s.size kinds out a ln))) ∧ lnQ ca cb s kinds r (lnStep s.size kinds out a ln) om') := by
 have hC := csuf2 ln 10 (by omega)
 have hsz := csuf_szC 10 ln
 unfold lnStep
 generalize csuf 10 ln = c at hC hsz
 obtain ⟨b, ended⟩ := c
 simp only at hsz
 have hK := cutW b eqS (by omega)
 have hks := cutL_sz b eqS
 dsimp only
 generalize cutL b eqS = k at hK hks
 obtain ⟨nm, bd, okk⟩ := k
 dsimp only at hks
 refine AY.walk hT hm ha hb rfl rfl rfl ?_
 simp only [go_sem, Int.reduceEq, Int.reduceLE, Int.reduceLT, Int.reduceToNat]
 refine hC.pd ⟨.v, .v, trivial⟩ (csufD_bl _) ?_
 simp only [go_sem, Int.reduceEq, Int.reduceLE, Int.reduceLT, Int.reduceToNat]
 refine hK.pd ⟨.v, .v, trivial⟩ (cutLD_bl _) ?_
 cases ended with
 | false =>
  rw [show lnK s.size kinds out a ln.size false (nm, bd, okk) = .inl (s.size, 2) from rfl]
  simp only [go_sem, Int.reduceEq, Int.reduceLE, Int.reduceLT, Int.reduceToNat, Bool.not_false]
  repeat' apply And.intro
  all_goals exact finSelf ⟨rfl, _, _, _, _, _, _, _, rfl⟩
 | true =>
 by_cases h50 : 50 ≤ out.length
 ·have h50' : (50 : Int) ≤ out.length := by omega
  rw [show lnK s.size kinds out a ln.size true (nm, bd, okk) = .inl (a, 4) from by unfold lnK; rw [if_neg (by simp), if_pos h50]]
  simp only [go_sem, Int.reduceEq, Int.reduceLE, Int.reduceLT, Int.reduceToNat, h50', List.length_map, Bool.not_true]
  repeat' apply And.intro
  all_goals exact finSelf ⟨rfl, _, _, _, _, _, _, _, rfl⟩
 have h50' : ¬ (50 : Int) ≤ out.length := by omega
 cases okk with
 | false =>
  rw [show lnK s.size kinds out a ln.size true (nm, bd, false) = .inl (a, 2) from by unfold lnK; rw [if_neg (by simp), if_neg h50]; rfl]
  simp only [go_sem, Int.reduceEq, Int.reduceLE, Int.reduceLT, Int.reduceToNat, h50', List.length_map, Bool.not_true, Bool.not_false]
  repeat' apply And.intro
  all_goals exact finSelf ⟨rfl, _, _, _, _, _, _, _, rfl⟩
 | true =>
 simp only [go_sem, Int.reduceEq, Int.reduceLE, Int.reduceLT, Int.reduceToNat, h50', List.length_map, Bool.not_true, Bool.not_false]
 refine (numName_1 nm (by omega)).pv ⟨.same (Strs_bl [nm]), trivial⟩ ?_
 cases hn : nameB nm
 ·rw [show lnK s.size kinds out a ln.size true (nm, bd, true) = .inl (a, 2) from by unfold lnK; rw [if_neg (by simp), if_neg h50]; show (if nameB nm = false then _ else _) = _; rw [if_pos hn]]
  simp only [go_sem, Int.reduceEq, Int.reduceLE, Int.reduceLT, Int.reduceToNat, Bool.not_false]
  repeat' apply And.intro
  all_goals exact finSelf ⟨rfl, _, _, _, _, _, _, _, rfl⟩
 simp only [go_sem, Int.reduceEq, Int.reduceLE, Int.reduceLT, Int.reduceToNat, Bool.not_true]
 refine (hasStr (metC kinds out) nm (by simp; omega)).pv ⟨.frzS rfl rfl (strR_bl _), .v, trivial⟩ ?_
 cases hh : (metC kinds out).any fun x => decide (nm = x)
 case true =>
  rw [show lnK s.size kinds out a ln.size true (nm, bd, true) = .inl (a, 2) from by unfold lnK; rw [if_neg (by simp), if_neg (by exact h50), if_neg (by simp), if_neg (show ¬ nameB nm = false by rw [hn]; simp), if_pos (show ((metC kinds out).any fun x => decide (nm = x)) = true by exact hh)]]
  simp only [go_sem, Int.reduceEq, Int.reduceLE, Int.reduceLT, Int.reduceToNat]
  repeat' apply And.intro
  all_goals exact finSelf ⟨rfl, _, _, _, _, _, _, _, rfl⟩
 rw [show lnK s.size kinds out a ln.size true (nm, bd, true) = .inr (out ++ [(a, nm, bd)], a + ln.size) from by unfold lnK; rw [if_neg (by simp), if_neg (by exact h50), if_neg (by simp), if_neg (show ¬ nameB nm = false by rw [hn]; simp), if_neg (show ¬ ((metC kinds out).any fun x => decide (nm = x)) = true by rw [hh]; simp)]]
 have hw : IntKind.i64.wrap ((a : Int) + (ln.size : Int)) = ((a + ln.size : Nat) : Int) := by rw [wrap_int _ (by omega) (by omega)]; omega
 simp only [go_sem, Int.reduceEq, Int.reduceLE, Int.reduceLT, Int.reduceToNat, h50', List.length_map, List.length_map, hw]
 have hml : (metC kinds out).length ≤ 2000 := by simp [metC]; omega
 have e1 : strR (metC kinds (out ++ [(a, nm, bd)])) = strR (metC kinds out) ++ [[.s nm]] := by simp [metC]
 have e2 : lnR (out ++ [(a, nm, bd)]) = lnR out ++ [[.i a, .s nm, .s bd]] := by simp
 refine ⟨by omega, by omega, finSelf ⟨rfl, .inr ?_⟩⟩
 show _ = resC 0 0 ++ _ ++ [.dead, .dead, .slc 9 1 (strR (metC kinds (out ++ [(a, nm, bd)]))), .slc 60 3 (lnR (out ++ [(a, nm, bd)]))]
 rw [e1, e2]
 rfl
def lineOfC (s : ByteArray) : ByteArray × ByteArray :=
 if ixN 10 s.data.toList < s.size then (s.extract 0 (ixN 10 s.data.toList + 1), s.extract (ixN 10 s.data.toList + 1) s.size) else (s, ⟨#[]⟩)
theorem lineOfC_size (s : ByteArray) (h : 0 < s.size) : (lineOfC s).1.size + (lineOfC s).2.size = s.size ∧ 0 < (lineOfC s).1.size := by
 unfold lineOfC
 split
 ·simp only [ByteArray.size_extract]; omega
 ·exact ⟨rfl, h⟩
def lnGo (tot : Nat) (kinds : List ByteArray) : Nat → ByteArray → List Ln → Nat → (Nat × Nat) ⊕ (List Ln × Nat)
 | 0, _, l, a => .inr (l, a)
 | n + 1, s, l, a =>
  if s.size = 0 then .inr (l, a)
  else match lnStep tot kinds l a (lineOfC s).1 with
   | .inl q => .inl q
   | .inr (l', a') => lnGo tot kinds n (lineOfC s).2 l' a'
theorem roundC {ca cb : Code} (ha : lc ca = (f25_a17).st) (hb : lc cb = (f25_b17).st) (s : ByteArray) (kinds : List ByteArray) (hk : kinds.length ≤ 1000) (out : List Ln) (hout : out.length ≤ 50) (sd kd : D) (o5 : Ob) (R : List Ob) (hO : lnO kinds out sd kd o5 R) (a : Nat) (ha' : a ≤ 70000) (r ln : ByteArray) (hln : ln.size ≤ 70000) :
  AY Tryz.prog 9 [.s ln] (lnOm ca cb s kinds a r sd kd o5 R)
   (fun o om' => o = .ret (.b (isInrC (lnStep s.size kinds out a ln))) ∧ lnQ ca cb s kinds r (lnStep s.size kinds out a ln) om') := by
 rcases hO with ⟨rfl, rfl, rfl, rfl, rfl⟩ | ⟨rfl, rfl, rfl, rfl⟩
 ·exact roundC0 ha hb s kinds hk a ha' r ln hln
 ·exact roundC1 ha hb s kinds hk out hout a ha' r ln hln
theorem cvLpE (s : ByteArray) (kinds : List ByteArray) {om : List Ob} {F : Nat → Bool} {ks : List (Option Nat)} (h : ∀ i, i < 10 → ks[i]? = some (some i)) : CvL om F ks (lpEC s kinds) (lpEC s kinds) := by
 have e1 : Cv om F ks (Strs kinds) (Strs kinds) := .same (Strs_bl kinds)
 have h0 := h 0 (by omega)
 have h1 := h 1 (by omega)
 have h2 := h 2 (by omega)
 have h3 := h 3 (by omega)
 have h5 := h 5 (by omega)
 have h6 := h 6 (by omega)
 have h7 := h 7 (by omega)
 have h8 := h 8 (by omega)
 simp only [lpEC, List.replicate, List.cons_append, List.nil_append, CvL]
 simp [e1, h0, h1, h2, h3, h5, h6, h7, h8]
 exact .fnL (by simp [CvL, h8])
end Go.Proofs.YtdliolbjngcgcaaGreat.W
set_option maxRecDepth 100000
namespace Go.Proofs.YtdliolbjngcgcaaGreat.W
open Go Go.Proofs Go.Proofs.YtdliolbjngcgcaaGreat.AWP
attribute [local irreducible] xl hide aop aops aopQ qops guardP condP
def lnF (ca cb : Code) (s : ByteArray) (kinds : List ByteArray) (r : ByteArray) (q : (Nat × Nat) ⊕ (List Ln × Nat)) (om' : List Ob) : Prop :=
 match q with
 | .inl (p, e) => ∃ o3 o4 o5 o6 o7 o8 M, om' = resC p e ++ [o3, o4, o5, o6, o7, o8, lpOC ca cb s kinds .done (some .ret)] ++ M
 | .inr (l, a) => ∃ sd kd o5 R, lnO kinds l sd kd o5 R ∧ om' = lnOm ca cb s kinds a r sd kd o5 R
theorem lnMv0 (ca cb : Code) (s : ByteArray) (kinds : List ByteArray) (a : Nat) (r : ByteArray) (l : List Ln) {F : Nat → Bool} :
  MvL (lnOm ca cb s kinds a r (.own 11) (.own 10) .dead [strOb (metC kinds l), lnOb l]) F [some 0, some 1, some 2, some 3, some 4, some 5, some 6, some 7, some 8, some 9, some 11, some 10] [some 0, some 1, some 2, some 3, some 4, some 5, some 6, some 7, some 8, some 9, some 11, some 10]
   (lnOm ca cb s kinds a r (.own 10) (.own 11) .dead [lnOb l, strOb (metC kinds l)]) := by
 refine ⟨.varS rfl (by simp), .varS rfl (by simp), .varS rfl (by simp), .varL rfl (by simp [CvL]), .deadE (by simp), .deadE (by simp), .varL rfl (by simp [CvL]), .varS rfl (by simp), .varS rfl (by simp), .lpL rfl (cvLpE s kinds fun i hi => ?_), .slcS rfl (lnR_bl l), .slcS rfl (strR_bl _), trivial⟩
 match i, hi with
 | 0, _ => rfl
 | 1, _ => rfl
 | 2, _ => rfl
 | 3, _ => rfl
 | 4, _ => rfl
 | 5, _ => rfl
 | 6, _ => rfl
 | 7, _ => rfl
 | 8, _ => rfl
 | 9, _ => rfl
theorem lnMv1 (ca cb : Code) (s : ByteArray) (kinds : List ByteArray) (a : Nat) (r : ByteArray) (l : List Ln) {F : Nat → Bool} :
  MvL (lnOm ca cb s kinds a r (.own 13) (.own 12) .dead [.dead, .dead, strOb (metC kinds l), lnOb l]) F [some 0, some 1, some 2, some 3, some 4, some 5, some 6, some 7, some 8, some 9, some 13, some 12] [some 0, some 1, some 2, some 3, some 4, some 5, some 6, some 7, some 8, some 9, some 13, some 12]
   (lnOm ca cb s kinds a r (.own 10) (.own 11) .dead [lnOb l, strOb (metC kinds l)]) := by
 refine ⟨.varS rfl (by simp), .varS rfl (by simp), .varS rfl (by simp), .varL rfl (by simp [CvL]), .deadE (by simp), .deadE (by simp), .varL rfl (by simp [CvL]), .varS rfl (by simp), .varS rfl (by simp), .lpL rfl (cvLpE s kinds fun i hi => ?_), .slcS rfl (lnR_bl l), .slcS rfl (strR_bl _), trivial⟩
 match i, hi with
 | 0, _ => rfl
 | 1, _ => rfl
 | 2, _ => rfl
 | 3, _ => rfl
 | 4, _ => rfl
 | 5, _ => rfl
 | 6, _ => rfl
 | 7, _ => rfl
 | 8, _ => rfl
 | 9, _ => rfl
theorem lnStep_inr {tot : Nat} {kinds : List ByteArray} {l : List Ln} {a : Nat} {ln : ByteArray} {l' : List Ln} {a' : Nat} (h : lnStep tot kinds l a ln = .inr (l', a')) : l.length < 50 ∧ l'.length = l.length + 1 ∧ a' = a + ln.size := by
 obtain ⟨h1, h2, h3, _, _⟩ := lnK_inr h
 exact ⟨h1, by rw [h2]; simp, h3⟩
set_option maxHeartbeats 8000000 in
theorem lines1C {ca cb : Code} (ha : lc ca = (f25_a17).st) (hb : lc cb = (f25_b17).st) (s : ByteArray) (hs : s.size ≤ 70000) (kinds : List ByteArray) (hk : kinds.length ≤ 1000) :
  AC Tryz.prog LNC [.yld 9, .ref 8 0] (lnOm ca cb s kinds 0 s (.v (.slice none 0 0)) (.own 5) (strOb kinds) [])
   (fun o om' => o = .ret (.tup []) ∧ ∃ r, lnF ca cb s kinds r (lnGo s.size kinds s.size s [] 0) om') := by
 refine AC.lbody hT hm Tryz.func78 f78_nm f78_lc f78_res f78_nt ?_
 simp only [go_sem, Int.reduceEq, Int.reduceLE, Int.reduceLT, Int.reduceToNat]
 refine xl_loopM hT hm (fun i : ByteArray × List Ln × Nat × D × D × Ob × List Ob => ⟨f78_i7 (.yld 9) (.ref 8 0), lnOm ca cb s kinds i.2.2.1 i.1 i.2.2.2.1 i.2.2.2.2.1 i.2.2.2.2.2.1 i.2.2.2.2.2.2⟩)
  (fun i => lnO kinds i.2.1 i.2.2.2.1 i.2.2.2.2.1 i.2.2.2.2.2.1 i.2.2.2.2.2.2 ∧ i.2.1.length ≤ 50 ∧ i.2.2.1 + i.1.size = s.size ∧ ∃ n, i.1.size ≤ n ∧ lnGo s.size kinds s.size s [] 0 = lnGo s.size kinds n i.1 i.2.1 i.2.2.1) (fun i => i.1.size) (s, [], 0, .v (.slice none 0 0), .own 5, strOb kinds, [])
  ⟨.inl ⟨rfl, rfl, rfl, rfl, rfl⟩, by simp, by simp, s.size, Nat.le_refl _, rfl⟩ (Mv.keep (by simp [f78_i7])) ?_
 rintro ⟨r, l, a, sd, kd, o5, R⟩ ⟨h1, h2, h3, n, h4, h5⟩
 simp only at h1 h2 h3 h4 h5
 simp only [go_sem, Int.reduceEq, Int.reduceLE, Int.reduceLT, Int.reduceToNat]
 by_cases h0 : 0 < r.size
 case neg =>
  have h0' : ¬ (0 : Int) < r.size := by omega
  simp only [go_sem, Int.reduceEq, Int.reduceLE, Int.reduceLT, Int.reduceToNat, h0']
  refine finSelf ⟨rfl, r, ?_⟩
  rw [h5]
  have : lnGo s.size kinds n r l a = .inr (l, a) := by
   cases n with
   | zero => rfl
   | succ n => rw [lnGo, if_pos (by omega)]
  rw [this]
  exact ⟨sd, kd, o5, R, h1, rfl⟩
 have h0' : (0 : Int) < r.size := by omega
 obtain ⟨hL1, hL2⟩ := lineOfC_size r h0
 obtain ⟨m, rfl⟩ : ∃ m, n = m + 1 := ⟨n - 1, by omega⟩
 rw [lnGo, if_neg (by omega)] at h5
 have hix := idx2 r 10
 simp only [go_sem, Int.reduceEq, Int.reduceLE, Int.reduceLT, Int.reduceToNat, h0']
 refine hix.pv ⟨.v, .v, trivial⟩ ?_
 have fin : ∀ om', lnQ ca cb s kinds (lineOfC r).2 (lnStep s.size kinds l a (lineOfC r).1) om' →
   (isInrC (lnStep s.size kinds l a (lineOfC r).1) = true → ∃ l' a', (l'.length ≤ 50 ∧ a' + (lineOfC r).2.size = s.size ∧ ∃ n, (lineOfC r).2.size ≤ n ∧ lnGo s.size kinds s.size s [] 0 = lnGo s.size kinds n (lineOfC r).2 l' a') ∧
    (om' = lnOm ca cb s kinds a' (lineOfC r).2 (.own 11) (.own 10) .dead [strOb (metC kinds l'), lnOb l'] ∨ om' = lnOm ca cb s kinds a' (lineOfC r).2 (.own 13) (.own 12) .dead [.dead, .dead, strOb (metC kinds l'), lnOb l'])) ∧
   (isInrC (lnStep s.size kinds l a (lineOfC r).1) = false → ∃ r, lnF ca cb s kinds r (lnGo s.size kinds s.size s [] 0) om') := by
  intro om' hq
  cases hst : lnStep s.size kinds l a (lineOfC r).1 with
  | inl q =>
   rw [hst] at hq h5
   refine ⟨fun h => (by cases h), fun _ => ⟨(lineOfC r).2, ?_⟩⟩
   rw [h5]
   exact hq
  | inr q =>
   obtain ⟨l', a'⟩ := q
   rw [hst] at hq h5
   refine ⟨fun _ => ?_, fun h => (by cases h)⟩
   have hr := lnStep_inr hst
   exact ⟨l', a', ⟨by omega, by omega, m, by omega, h5⟩, hq⟩
 by_cases hx : ixN 10 r.data.toList < r.size
 ·have e1 : ixS 10 r = (ixN 10 r.data.toList : Int) := by unfold ixS; rw [if_pos hx]
  have e2 : lineOfC r = (r.extract 0 (ixN 10 r.data.toList + 1), r.extract (ixN 10 r.data.toList + 1) r.size) := by unfold lineOfC; rw [if_pos hx]
  rw [e1]
  have hR := roundC ha hb s kinds hk l h2 sd kd o5 R h1 a (by omega) (lineOfC r).2 (lineOfC r).1 (by omega)
  generalize lnStep s.size kinds l a (lineOfC r).1 = st at fin hR
  have hlt : (lineOfC r).2.size < r.size := by omega
  generalize hlo : lineOfC r = lo at fin hR hlt
  rw [e2] at hlo
  generalize ixN 10 r.data.toList = k at hx hlo
  have hw := wrap_succ k (by omega)
  have hg : (0 : Int) ≤ k := by omega
  have hk1 : k + 1 ≤ r.size := hx
  simp only [go_sem, Int.reduceEq, Int.reduceLE, Int.reduceLT, Int.reduceToNat, hg, hw, hk1, Nat.zero_le, Nat.le_refl]
  subst hlo
  refine ⟨_, hR, ?_⟩
  rintro o om' ⟨rfl, hq⟩
  have fin := fin om' hq
  cases hi : isInrC st with
  | true =>
   obtain ⟨l', a', p1, rfl | rfl⟩ := fin.1 hi
   ·simp only [go_sem, Int.reduceEq, Int.reduceLE, Int.reduceLT, Int.reduceToNat]
    exact ⟨(_, l', a', .own 10, .own 11, .dead, [lnOb l', strOb (metC kinds l')]), ⟨.inr ⟨rfl, rfl, rfl, rfl⟩, p1⟩, hlt, Mv.of [some 0, some 1, some 2, some 3, some 4, some 5, some 6, some 7, some 8, some 9, some 11, some 10] rfl (lnMv0 ca cb s kinds a' _ l') (by simp [f78_i7])⟩
   ·simp only [go_sem, Int.reduceEq, Int.reduceLE, Int.reduceLT, Int.reduceToNat]
    exact ⟨(_, l', a', .own 10, .own 11, .dead, [lnOb l', strOb (metC kinds l')]), ⟨.inr ⟨rfl, rfl, rfl, rfl⟩, p1⟩, hlt, Mv.of [some 0, some 1, some 2, some 3, some 4, some 5, some 6, some 7, some 8, some 9, some 13, some 12] rfl (lnMv1 ca cb s kinds a' _ l') (by simp [f78_i7])⟩
  | false =>
   simp only [go_sem, Int.reduceEq, Int.reduceLE, Int.reduceLT, Int.reduceToNat]
   exact finSelf ⟨rfl, fin.2 hi⟩
 ·have e1 : ixS 10 r = -1 := by unfold ixS; rw [if_neg hx]
  have e2 : lineOfC r = (r, ⟨#[]⟩) := by unfold lineOfC; rw [if_neg hx]
  rw [e1]
  have hR := roundC ha hb s kinds hk l h2 sd kd o5 R h1 a (by omega) (lineOfC r).2 (lineOfC r).1 (by omega)
  generalize lnStep s.size kinds l a (lineOfC r).1 = st at fin hR
  have hlt : (lineOfC r).2.size < r.size := by omega
  generalize hlo : lineOfC r = lo at fin hR hlt
  rw [e2] at hlo
  simp only [go_sem, Int.reduceEq, Int.reduceLE, Int.reduceLT, Int.reduceToNat]
  subst hlo
  refine ⟨_, hR, ?_⟩
  rintro o om' ⟨rfl, hq⟩
  have fin := fin om' hq
  cases hi : isInrC st with
  | true =>
   obtain ⟨l', a', p1, rfl | rfl⟩ := fin.1 hi
   ·simp only [go_sem, Int.reduceEq, Int.reduceLE, Int.reduceLT, Int.reduceToNat]
    exact ⟨(_, l', a', .own 10, .own 11, .dead, [lnOb l', strOb (metC kinds l')]), ⟨.inr ⟨rfl, rfl, rfl, rfl⟩, p1⟩, hlt, Mv.of [some 0, some 1, some 2, some 3, some 4, some 5, some 6, some 7, some 8, some 9, some 11, some 10] rfl (lnMv0 ca cb s kinds a' _ l') (by simp [f78_i7])⟩
   ·simp only [go_sem, Int.reduceEq, Int.reduceLE, Int.reduceLT, Int.reduceToNat]
    exact ⟨(_, l', a', .own 10, .own 11, .dead, [lnOb l', strOb (metC kinds l')]), ⟨.inr ⟨rfl, rfl, rfl, rfl⟩, p1⟩, hlt, Mv.of [some 0, some 1, some 2, some 3, some 4, some 5, some 6, some 7, some 8, some 9, some 13, some 12] rfl (lnMv1 ca cb s kinds a' _ l') (by simp [f78_i7])⟩
  | false =>
   simp only [go_sem, Int.reduceEq, Int.reduceLE, Int.reduceLT, Int.reduceToNat]
   exact finSelf ⟨rfl, fin.2 hi⟩
end Go.Proofs.YtdliolbjngcgcaaGreat.W
set_option maxRecDepth 100000
namespace Go.Proofs.YtdliolbjngcgcaaGreat.W
open Go Go.Proofs Go.Proofs.YtdliolbjngcgcaaGreat.AWP
attribute [local irreducible] xl hide aop aops aopQ qops guardP condP
def linesQ : (Nat × Nat) ⊕ (List Ln × Nat) → List Ln × Nat × Nat
 | .inl (p, e) => ([], p, e)
 | .inr (l, _) => if l = [] then ([], 0, 2) else (l, 0, 0)
def linesR (s : ByteArray) (kinds : List ByteArray) : List Ln × Nat × Nat := linesQ (lnGo s.size kinds s.size s [] 0)
abbrev linesD (x : List Ln × Nat × Nat) : D := .tup [Lns x.1, .i x.2.1, .i x.2.2]
theorem linesD_bl (x : List Ln × Nat × Nat) : Bl 0 (linesD x) := .tup (by
 intro d hd
 simp only [List.mem_cons, List.not_mem_nil, or_false] at hd
 rcases hd with rfl | rfl | rfl
 ·exact Lns_bl _
 ·exact .v _
 ·exact .v _)
set_option maxHeartbeats 8000000 in
theorem cLines (s : ByteArray) (hs : s.size ≤ 70000) (kinds : List ByteArray) (hk : kinds.length ≤ 1000) (hk0 : kinds ≠ []) : AP Tryz.prog 25 [.s s, Strs kinds] (linesD (linesR s kinds)) := by
 unfold linesR
 refine AC.lbody hT hm Tryz.func25 f25_nm f25_lc f25_res f25_nt ?_
 simp only [go_sem, Int.reduceEq, Int.reduceLE, Int.reduceLT, Int.reduceToNat]
 refine ⟨_, cloneS kinds (by omega) _, ?_⟩
 rintro _ _ (⟨h0, rfl, rfl⟩ | ⟨rfl, rfl⟩)
 ·exact absurd h0 hk0
 simp only [go_sem, Int.reduceEq, Int.reduceLE, Int.reduceLT, Int.reduceToNat]
 refine ⟨_, linesC s _, ?_⟩
 rintro _ _ ⟨rfl, rfl⟩
 simp only [go_sem, Int.reduceEq, Int.reduceLE, Int.reduceLT, Int.reduceToNat, W_rfun]
 intro ca cb ha hb
 refine ⟨_, lines1C ha hb s hs kinds hk, ?_⟩
 rintro _ om' ⟨rfl, r, hq⟩
 clear ha hb
 generalize lnGo s.size kinds s.size s [] 0 = q at hq ⊢
 cases q with
 | inl q =>
  obtain ⟨p, e⟩ := q
  rw [show linesQ (.inl (p, e)) = ([], p, e) from rfl]
  obtain ⟨o3, o4, o5, o6, o7, o8, M, rfl⟩ := hq
  simp only [go_sem, Int.reduceEq, Int.reduceLE, Int.reduceLT, Int.reduceToNat]
  refine ⟨by simp, ?_⟩
  exact Fin.ret (.tupL ⟨.nil, .v, .v, trivial⟩)
 | inr q =>
  obtain ⟨l, a⟩ := q
  obtain ⟨sd, kd, o5, R, hr, rfl⟩ := hq
  rw [show linesQ (.inr (l, a)) = if l = [] then ([], 0, 2) else (l, 0, 0) from rfl]
  rcases hr with ⟨rfl, rfl, rfl, rfl, rfl⟩ | ⟨rfl, rfl, rfl, rfl⟩
  ·have z : (((0 : Nat) : Int) == 0) = true := rfl
   rw [if_pos rfl]
   simp only [go_sem, Int.reduceEq, Int.reduceLE, Int.reduceLT, Int.reduceToNat, z]
   refine ⟨by simp, ?_⟩
   exact Fin.ret (.tupL ⟨.nil, .v, .v, trivial⟩)
  by_cases hl0 : l = []
  ·subst hl0
   have z : (((0 : Nat) : Int) == 0) = true := rfl
   rw [if_pos rfl]
   simp only [go_sem, Int.reduceEq, Int.reduceLE, Int.reduceLT, Int.reduceToNat, List.length_map, List.length_nil, z]
   refine ⟨by simp, ?_⟩
   exact Fin.ret (.tupL ⟨.nil, .v, .v, trivial⟩)
  have z : (((l.length : Nat) : Int) == 0) = false := by
   rw [beq_eq_false_iff_ne]
   have := List.length_pos_iff.2 hl0
   omega
  rw [if_neg hl0]
  simp only [go_sem, Int.reduceEq, Int.reduceLE, Int.reduceLT, Int.reduceToNat, List.length_map, z]
  refine ⟨by simp, ?_⟩
  exact Fin.ret (.tupL ⟨.frzS rfl rfl (lnR_bl l), .v, .v, trivial⟩)
end Go.Proofs.YtdliolbjngcgcaaGreat.W
set_option maxRecDepth 100000
namespace Go.Proofs.YtdliolbjngcgcaaGreat.W
open Go Go.Proofs Go.Proofs.YtdliolbjngcgcaaGreat.AWP
attribute [local irreducible] xl hide aop aops aopQ qops guardP condP
end Go.Proofs.YtdliolbjngcgcaaGreat.W
set_option maxRecDepth 100000
namespace Go.Proofs.YtdliolbjngcgcaaGreat.W
open Go Go.Proofs Go.Proofs.YtdliolbjngcgcaaGreat.AWP
attribute [local irreducible] xl hide aop aops aopQ qops guardP condP
theorem bneF {α : Type} [BEq α] [LawfulBEq α] (a : α) : (a != a) = false := by simp
theorem rSame (a : Cf) : ∀ b : Cf, AP Tryz.prog 23 [.agg a.c, .agg b.c] (.b (a.same b)) := by
 refine Cf.ind (p := fun a => ∀ b : Cf, AP Tryz.prog 23 [.agg a.c, .agg b.c] (.b (a.same b))) (fun k n l IH b => ?_) a
 obtain ⟨k', n', l'⟩ := b
 refine AC.wf rfl fun hw => ?_
 have hl : l.length ≤ 9223372036854775807 := by
  have h1 := (hw (.agg (Cf.mk k n l).c) (List.mem_cons_self ..)).agg_mem (Cfs l) (by rw [Cf.c_mk]; simp)
  have := h1.sl_len
  rwa [cfs_len] at this
 have hqa : ∀ (r : Cf) om (F : Nat → Bool) (ks : List (Option Nat)), Cv om F ks (.pel r.c) (.pel r.c) := fun r om F ks => .same (Cf.pel_bl r)
 rw [Cf.same_mk]
 refine AC.lbody hT hm Tryz.func23 f23_nm f23_lc f23_res f23_nt ?_
 simp only [go_sem, Int.reduceEq, Int.reduceLE, Int.reduceLT, Int.reduceToNat, Cf.c_mk, cfs_len, List.length_map]
 by_cases hk : k = k'
 case neg =>
  have e : (k != k') = true := by simp [hk]
  simp only [go_sem, Int.reduceEq, Int.reduceLE, Int.reduceLT, Int.reduceToNat, e]
  exact Fin.v (by rw [decide_eq_false (fun h => hk h.1), Bool.false_and])
 subst hk
 by_cases hn : n = n'
 case neg =>
  have e : (n != n') = true := by simp [hn]
  simp only [go_sem, Int.reduceEq, Int.reduceLE, Int.reduceLT, Int.reduceToNat, bneF, e]
  exact Fin.v (by rw [decide_eq_false (fun h => hn h), Bool.false_and])
 subst hn
 by_cases hll : l.length = l'.length
 case neg =>
  have e : ((l.length : Int) != (l'.length : Int)) = true := by simp; omega
  simp only [go_sem, Int.reduceEq, Int.reduceLE, Int.reduceLT, Int.reduceToNat, bneF, e, List.length_map, cfs_len]
  exact Fin.v (by rw [Cf.sames_len l l' hll])
 have e : ((l.length : Int) != (l'.length : Int)) = false := by simp; omega
 rw [decide_eq_true (show k = k ∧ n = n from ⟨rfl, rfl⟩), Bool.true_and]
 simp only [go_sem, Int.reduceEq, Int.reduceLE, Int.reduceLT, Int.reduceToNat, bneF, e, List.length_map, cfs_len]
 have hqP : ∀ (l : List Cf) om (F : Nat → Bool) (ks : List (Option Nat)), Cv om F ks (.pel [.v (.int .u8 k), .v (.int .i64 n), .sl 3 (l.map Cf.c)]) (.pel [.v (.int .u8 k), .v (.int .i64 n), .sl 3 (l.map Cf.c)]) := fun l om F ks => by
  have := hqa (.mk k n l) om F ks
  rwa [Cf.c_mk, Cf.cs_eq] at this
 refine xl_loopM hT hm (fun i : Nat => ⟨f23_i9 (.pel [.v (.int .u8 k), .v (.int .i64 n), .sl 3 (l.map Cf.c)]) (.pel [.v (.int .u8 k), .v (.int .i64 n), .sl 3 (l'.map Cf.c)]) (.i l.length) (.i i), []⟩)
  (fun i => i ≤ l.length ∧ Cf.sames l l' = Cf.sames (l.drop i) (l'.drop i)) (fun i => l.length - i) 0 ⟨Nat.zero_le _, rfl⟩ (Mv.none (by simp only [f23_i9, CvL]; simp [hqP])) ?_
 rintro i ⟨hi, hs⟩
 simp only [go_sem, Int.reduceEq, Int.reduceLE, Int.reduceLT, Int.reduceToNat, List.length_map]
 by_cases h : i < l.length
 case neg =>
  simp only [go_sem, Int.reduceEq, Int.reduceLE, Int.reduceLT, Int.reduceToNat, h]
  rw [List.drop_of_length_le (by omega), List.drop_of_length_le (by omega)] at hs
  exact Fin.v (by rw [hs, Cf.sames])
 obtain ⟨x, hx⟩ := get_ex h
 obtain ⟨y, hy⟩ := get_ex (l := l') (show i < l'.length by omega)
 have hlt : i < l'.length := by omega
 rw [drop_get hx, drop_get hy, Cf.sames_cons] at hs
 have hwi := wrap_succ i (by omega)
 simp only [go_sem, Int.reduceEq, Int.reduceLE, Int.reduceLT, Int.reduceToNat, h, hlt, hx, hy, List.length_map, Cf.c_take]
 refine (IH x (List.mem_of_getElem? hx) y).pv ⟨.same (Cf.d_bl x), .same (Cf.d_bl y), trivial⟩ ?_
 cases hxy : x.same y
 ·simp only [go_sem, Int.reduceEq, Int.reduceLE, Int.reduceLT, Int.reduceToNat, Bool.not_false]
  exact Fin.v (by rw [hs, hxy, Bool.false_and])
 ·simp only [go_sem, Int.reduceEq, Int.reduceLE, Int.reduceLT, Int.reduceToNat, Bool.not_true, hwi]
  exact ⟨i + 1, ⟨h, by rw [hs, hxy, Bool.true_and]⟩, by omega, Mv.none (by simp only [CvL]; simp [hqP])⟩
theorem ba_bne (a : ByteArray) : (a.data.toList != a.data.toList) = false := by simp
set_option maxHeartbeats 1000000 in
theorem rSameAll (g : Gr) (hk : g.kinds.length ≤ 1000000) (hd : g.defs.length ≤ 1000000) : AP Tryz.prog 10 [.agg g.c, .agg g.c] (.b true) := by
 have hq := pelG g
 have ek : ((g.kinds.length : Int) != (g.kinds.length : Int)) = false := by simp
 have ed : ((g.defs.length : Int) != (g.defs.length : Int)) = false := by simp
 refine AC.lbody hT hm Tryz.func10 f10_nm f10_lc f10_res f10_nt ?_
 simp only [go_sem, Int.reduceEq, Int.reduceLE, Int.reduceLT, Int.reduceToNat, List.length_map, ek, ed]
 refine xl_loopM hT hm (fun i : Nat => ⟨f10_i9 (.pel g.c) (.pel g.c) (.i g.kinds.length) (.i i), []⟩)
  (fun i => i ≤ g.kinds.length) (fun i => g.kinds.length - i) 0 (Nat.zero_le _) (Mv.none (by simp only [f10_i9, CvL]; simp [hq])) ?_
 intro i hi
 simp only [go_sem, Int.reduceEq, Int.reduceLE, Int.reduceLT, Int.reduceToNat, List.length_map]
 by_cases h : i < g.kinds.length
 ·obtain ⟨x, hx⟩ := get_ex h
  have hwi := wrap_succ i (by omega)
  have hxx := ba_bne x
  simp only [go_sem, Int.reduceEq, Int.reduceLE, Int.reduceLT, Int.reduceToNat, h, hx, List.length_map, hxx, hwi]
  exact ⟨i + 1, h, by omega, Mv.none (by simp only [CvL]; simp [hq])⟩
 simp only [go_sem, Int.reduceEq, Int.reduceLE, Int.reduceLT, Int.reduceToNat, h, List.length_map]
 clear h hi
 refine xl_loopM hT hm (fun i : Nat => ⟨f10_i16 (.pel g.c) (.pel g.c) (.i g.defs.length) (.i i), []⟩)
  (fun i => i ≤ g.defs.length) (fun i => g.defs.length - i) 0 (Nat.zero_le _) (Mv.none (by simp only [f10_i16, CvL]; simp [hq])) ?_
 intro i hi
 simp only [go_sem, Int.reduceEq, Int.reduceLE, Int.reduceLT, Int.reduceToNat, List.length_map]
 by_cases h : i < g.defs.length
 ·obtain ⟨x, hx⟩ := get_ex h
  have hwi := wrap_succ i (by omega)
  have hxx := ba_bne x.1
  have hS := rSame x.2 x.2
  rw [Cf.same_refl] at hS
  simp only [go_sem, Int.reduceEq, Int.reduceLE, Int.reduceLT, Int.reduceToNat, h, hx, List.length_map, df_0, df_drop, df_len, hxx, Cf.c_take]
  refine hS.qv ⟨.same (Cf.d_bl _), .same (Cf.d_bl _), trivial⟩ ?_
  simp only [go_sem, Int.reduceEq, Int.reduceLE, Int.reduceLT, Int.reduceToNat, Bool.not_true, hwi]
  exact ⟨i + 1, h, by omega, Mv.none (by simp only [CvL]; simp [hq])⟩
 simp only [go_sem, Int.reduceEq, Int.reduceLE, Int.reduceLT, Int.reduceToNat, h, List.length_map]
 exact Fin.v rfl
end Go.Proofs.YtdliolbjngcgcaaGreat.W
set_option maxRecDepth 100000
namespace Go.Proofs.YtdliolbjngcgcaaGreat.W
open Go Go.Proofs Go.Proofs.YtdliolbjngcgcaaGreat.AWP
attribute [local irreducible] xl hide aop aops aopQ qops guardP condP
theorem wholeSK (ks ds : List ByteArray) (s : ByteArray) (hs : s.size ≤ 65536) (hk : ks.length ≤ 1000000) (hd : ds.length ≤ 1000000) (fr : List Ob) : AC Tryz.prog 27 [.ref fr.length 0] (fr ++ [crOb ks ds s 0]) (fun o om => ∃ om', (o = .ret (wcD (wholeP ks ds s)) ∧ ∃ k, om' = [crOb ks ds s k]) ∧ om = fr ++ om') := by
 refine (wholeK (ks := ks) (ds := ds) hs hk hd).shift rfl ?_ ?_ ?_
 ·intro j d d' h1 h2
  match j with
  | 0 => cases h1; cases h2; exact .inr ⟨0, 0, rfl, rfl⟩
  | j + 1 => cases h1
 ·intro o ho
  rw [List.mem_singleton.1 ho]
  exact crBl ks ds s 0
 ·rintro o om' ⟨rfl, k, rfl⟩
  refine ⟨rfl, .tup ?_, fun x hx => ?_⟩
  ·intro d hd
   simp only [List.mem_cons, List.not_mem_nil, or_false] at hd
   rcases hd with rfl | rfl | rfl
   ·exact Cf.d_bl _
   ·exact .v _
   ·exact .v _
  ·rw [List.mem_singleton.1 hx]
   exact crBl ks ds s k
def bodiesGo (ks ns : List ByteArray) : List Ln → List Df → (Int × Nat) ⊕ List Df
 | [], d => .inr d
 | x :: l, d =>
  if (wholeP ks ns x.2.2).2.2 ≠ 0 then .inl (IntKind.i64.wrap (((x.1 + x.2.1.size + 3 : Nat) : Int) + ((wholeP ks ns x.2.2).2.1 : Int)), (wholeP ks ns x.2.2).2.2)
  else bodiesGo ks ns l (d ++ [(x.2.1, (wholeP ks ns x.2.2).1)])
def zGr : Gr := ⟨[], []⟩
def readB (kinds : List ByteArray) : (Int × Nat) ⊕ List Df → Gr × Int × Nat
 | .inl (p, e) => (zGr, p, e)
 | .inr d => if 2000 < grSz d then (zGr, 0, 4) else (⟨kinds, d⟩, 0, 0)
def readC (s : ByteArray) (kinds : List ByteArray) : Gr × Int × Nat :=
 if 65536 < s.size then (zGr, 0, 3)
 else if kinds.length < 1 then (zGr, 0, 1)
 else if 100 < kinds.length then (zGr, 0, 1)
 else if onceB kinds = false then (zGr, 0, 1)
 else if (linesR s kinds).2.2 ≠ 0 then (zGr, (linesR s kinds).2.1, (linesR s kinds).2.2)
 else readB kinds (bodiesGo kinds ((linesR s kinds).1.map (·.2.1)) (linesR s kinds).1 [])
abbrev readCD (x : Gr × Int × Nat) : D := .tup [.agg x.1.c, .i x.2.1, .i x.2.2]
theorem readCD_bl (x : Gr × Int × Nat) : Bl 0 (readCD x) := .tup (by
 intro d hd
 simp only [List.mem_cons, List.not_mem_nil, or_false] at hd
 rcases hd with rfl | rfl | rfl
 ·exact Gr.d_bl _
 ·exact .v _
 ·exact .v _)
theorem cvZ {om : List Ob} {F : Nat → Bool} {kk : List (Option Nat)} : Cv om F kk (.agg [.v (.slice Option.none 0 0), .v (.slice Option.none 0 0)]) (.agg zGr.c) := .aggL ⟨.nil, .nil, trivial⟩
structure LinesOk (kinds : List ByteArray) (n : Nat) (l : List Ln) : Prop where
 len : l.length ≤ 50
 at_ : ∀ x ∈ l, x.1 ≤ n ∧ x.2.1.size ≤ 30 ∧ x.2.2.size ≤ n
set_option maxHeartbeats 8000000 in
theorem cRead (s : ByteArray) (kinds : List ByteArray) (hkn : kinds.length ≤ 1000000) (hks : ∀ x ∈ kinds, x.size ≤ 1000000) (hL : (linesR s kinds).2.2 = 0 → LinesOk kinds s.size (linesR s kinds).1)
  (hM : ∀ d, s.size ≤ 65536 → 1 ≤ kinds.length → kinds.length ≤ 100 → onceB kinds = true → bodiesGo kinds ((linesR s kinds).1.map (·.2.1)) (linesR s kinds).1 [] = .inr d → (linesR s kinds).2.2 = 0 → GFit ⟨kinds, d⟩ ∧ mayG ⟨kinds, d⟩ = decide (grSz d ≤ 2000)) :
  AP Tryz.prog 8 [.s s, Strs kinds] (readCD (readC s kinds)) := by
 have hqk : ∀ om (F : Nat → Bool) (kk : List (Option Nat)), Cv om F kk (Strs kinds) (Strs kinds) := fun om F kk => .same (Strs_bl kinds)
 unfold readC
 refine AC.lbody hT hm Tryz.func8 f8_nm f8_lc f8_res f8_nt ?_
 simp only [go_sem, Int.reduceEq, Int.reduceLE, Int.reduceLT, Int.reduceToNat, List.length_map]
 by_cases h0 : 65536 < s.size
 ·have h0' : (65536 : Int) < s.size := by omega
  rw [if_pos h0]
  simp only [go_sem, Int.reduceEq, Int.reduceLE, Int.reduceLT, Int.reduceToNat, h0']
  exact Fin.ret (.tupL ⟨cvZ, .v, .v, trivial⟩)
 have h0' : ¬ (65536 : Int) < s.size := by omega
 rw [if_neg h0]
 by_cases h1 : kinds.length < 1
 ·have h1' : (kinds.length : Int) < 1 := by omega
  rw [if_pos h1]
  simp only [go_sem, Int.reduceEq, Int.reduceLE, Int.reduceLT, Int.reduceToNat, h0', h1', List.length_map]
  exact Fin.ret (.tupL ⟨cvZ, .v, .v, trivial⟩)
 have h1' : ¬ (kinds.length : Int) < 1 := by omega
 rw [if_neg h1]
 by_cases h2 : 100 < kinds.length
 ·have h2' : (100 : Int) < kinds.length := by omega
  rw [if_pos h2]
  simp only [go_sem, Int.reduceEq, Int.reduceLE, Int.reduceLT, Int.reduceToNat, h0', h1', h2', List.length_map]
  exact Fin.ret (.tupL ⟨cvZ, .v, .v, trivial⟩)
 have h2' : ¬ (100 : Int) < kinds.length := by omega
 rw [if_neg h2]
 simp only [go_sem, Int.reduceEq, Int.reduceLE, Int.reduceLT, Int.reduceToNat, h0', h1', h2', List.length_map]
 refine (once kinds hkn hks).pv ⟨hqk _ _ _, trivial⟩ ?_
 cases ho : onceB kinds with
 | false =>
  rw [if_pos rfl]
  simp only [go_sem, Int.reduceEq, Int.reduceLE, Int.reduceLT, Int.reduceToNat, Bool.not_false]
  exact Fin.ret (.tupL ⟨cvZ, .v, .v, trivial⟩)
 | true =>
 rw [if_neg (by simp)]
 have hne : kinds ≠ [] := fun h => by subst h; exact h1 (by decide)
 simp only [go_sem, Int.reduceEq, Int.reduceLE, Int.reduceLT, Int.reduceToNat, Bool.not_true]
 refine (cLines s (by omega) kinds (by omega) hne).pd ⟨.v, hqk _ _ _, trivial⟩ (linesD_bl _) ?_
 have hM' := fun d => hM d (by omega) (by omega) (by omega) ho
 clear hM
 generalize linesR s kinds = x at hL hM'
 obtain ⟨l, p, e⟩ := x
 dsimp only at hL hM' ⊢
 by_cases he : e = 0
 case neg =>
  have he' : ((e : Int) != 0) = true := by simp; omega
  rw [if_pos he]
  simp only [go_sem, Int.reduceEq, Int.reduceLE, Int.reduceLT, Int.reduceToNat, he']
  exact Fin.ret (.tupL ⟨cvZ, .v, .v, trivial⟩)
 subst he
 have he' : (((0 : Nat) : Int) != 0) = false := rfl
 rw [if_neg (by simp)]
 simp only [go_sem, Int.reduceEq, Int.reduceLE, Int.reduceLT, Int.reduceToNat, he']
 refine ⟨_, cloneS kinds hkn _, ?_⟩
 rintro _ _ (⟨h0, rfl, rfl⟩ | ⟨rfl, rfl⟩)
 ·exact absurd h0 hne
 simp only [go_sem, Int.reduceEq, Int.reduceLE, Int.reduceLT, Int.reduceToNat]
 obtain ⟨hl50, hlx⟩ := hL rfl
 have hql : ∀ om (F : Nat → Bool) (kk : List (Option Nat)), Cv om F kk (Lns l) (Lns l) := fun om F kk => .same (Lns_bl l)
 refine xl_loopM hT hm (fun i : Nat => ⟨f8_i15 (Strs kinds) (.ref 0 0) (Lns l) (.ref 2 0) (.own 3) (Lns l) (.i l.length) (.i i), [.var 26 [.v (.slice none 0 0), .v (.slice none 0 0)], strOb kinds, .var 26 [.own 1, .v (.slice none 0 0)], strOb ((l.take i).map (·.2.1))]⟩)
  (fun i => i ≤ l.length) (fun i => l.length - i) 0 (Nat.zero_le _) ?_ ?_
 ·exact Mv.of [some 0, some 2, some 3, none] rfl ⟨.varS rfl (by simp), .slcS rfl (strR_bl _), .varL rfl (by simp [CvL]), .nil (by decide), trivial⟩ (by simp only [f8_i15, CvL]; simp [hqk, hql])
 ·intro i hi
  simp only [go_sem, Int.reduceEq, Int.reduceLE, Int.reduceLT, Int.reduceToNat, List.length_map]
  by_cases h : i < l.length
  ·obtain ⟨x, hx⟩ := get_ex h
   have hwi := wrap_succ i (by omega)
   have ht : (l.take (i + 1)).map (·.2.1) = (l.take i).map (·.2.1) ++ [x.2.1] := by rw [List.take_add_one, hx, List.map_append]; rfl
   simp only [go_sem, Int.reduceEq, Int.reduceLE, Int.reduceLT, Int.reduceToNat, h, hx, List.length_map, hwi]
   refine ⟨by rw [List.length_take]; omega, i + 1, h, by omega, ?_⟩
   rw [ht]
   exact Mv.of [some 0, some 1, some 2, some 5] rfl ⟨.varS rfl (by simp), .slcS rfl (strR_bl _), .varL rfl (by simp [CvL]), .slcS (by simp) (strR_bl _), trivial⟩ (by simp only [CvL]; simp [hqk, hql])
  have ht : l.take i = l := List.take_of_length_le (by omega)
  simp only [go_sem, Int.reduceEq, Int.reduceLE, Int.reduceLT, Int.reduceToNat, h, List.length_map]
  rw [ht]
  clear ht h hi
  have hqn : ∀ om (F : Nat → Bool) (kk : List (Option Nat)), Cv om F kk (Strs (l.map (·.2.1))) (Strs (l.map (·.2.1))) := fun om F kk => .same (Strs_bl _)
  have hnl : (l.map (·.2.1)).length ≤ 1000000 := by simp; omega
  generalize hns : l.map (·.2.1) = ns at hM' hqn hnl
  refine xl_loopM hT hm (fun i : Nat × List Df => ⟨f8_i24 (Strs kinds) (.ref 0 0) (.ref 2 0) (Strs ns) (Lns l) (.i l.length) (.i i.1), [.var 26 [.v (.slice none 0 0), .v (.slice none 0 0)], strOb kinds, .var 26 [.own 1, .own 3], .slc 66 4 (dfR i.2)]⟩)
   (fun i => i.1 ≤ l.length ∧ i.2.length = i.1 ∧ bodiesGo kinds ns l [] = bodiesGo kinds ns (l.drop i.1) i.2) (fun i => l.length - i.1) (0, []) ⟨Nat.zero_le _, rfl, rfl⟩ ?_ ?_
  ·exact Mv.of [some 0, some 1, some 2, none] rfl ⟨.varS rfl (by simp), .slcS rfl (strR_bl _), .varL rfl (by simp [CvL]), .nil (by decide), trivial⟩ (by simp only [f8_i24, CvL]; simp [hqk, hql]; exact .frzS rfl rfl (strR_bl _))
  rintro ⟨i, d⟩ ⟨hi, hdl, hgo⟩
  dsimp only at hi hdl hgo
  simp only [go_sem, Int.reduceEq, Int.reduceLE, Int.reduceLT, Int.reduceToNat, List.length_map]
  by_cases h : i < l.length
  case neg =>
   have hend : bodiesGo kinds ns l [] = .inr d := by rw [hgo, List.drop_of_length_le (by omega), bodiesGo]
   obtain ⟨hF, hMay⟩ := hM' d hend rfl
   have hMG := cMayG ⟨kinds, d⟩ hF
   rw [hMay] at hMG
   rw [hend]
   simp only [go_sem, Int.reduceEq, Int.reduceLE, Int.reduceLT, Int.reduceToNat, h, List.length_map]
   refine hMG.pv ⟨.aggL ⟨.frzS rfl rfl (strR_bl _), .frzS rfl rfl (dfR_bl _), trivial⟩, trivial⟩ ?_
   rw [show readB kinds (.inr d) = (if 2000 < grSz d then (zGr, 0, 4) else (⟨kinds, d⟩, 0, 0)) from rfl]
   by_cases hz : grSz d ≤ 2000
   ·rw [decide_eq_true hz, if_neg (by omega)]
    simp only [go_sem, Int.reduceEq, Int.reduceLE, Int.reduceLT, Int.reduceToNat, Bool.not_true]
    exact Fin.ret (.tupL ⟨.aggL ⟨.frzS rfl rfl (strR_bl _), .frzS rfl rfl (dfR_bl _), trivial⟩, .v, .v, trivial⟩)
   ·rw [decide_eq_false hz, if_pos (by omega)]
    simp only [go_sem, Int.reduceEq, Int.reduceLE, Int.reduceLT, Int.reduceToNat, Bool.not_false]
    exact Fin.ret (.tupL ⟨cvZ, .v, .v, trivial⟩)
  obtain ⟨x, hx⟩ := get_ex h
  have hxs := hlx x (List.mem_of_getElem? hx)
  have hwi := wrap_succ i (by omega)
  rw [drop_get hx, bodiesGo] at hgo
  have hW := wholeSK kinds ns x.2.2 (by omega) hkn hnl
  simp only [go_sem, Int.reduceEq, Int.reduceLE, Int.reduceLT, Int.reduceToNat, h, hx, List.length_map]
  refine ⟨_, hW [_, _, _, _, _], ?_⟩
  rintro _ _ ⟨_, ⟨rfl, k, rfl⟩, rfl⟩
  clear hW
  generalize wholeP kinds ns x.2.2 = w at hgo
  obtain ⟨c, pl, e⟩ := w
  dsimp only at hgo
  by_cases he : e = 0
  case neg =>
   have he2 : ((e : Int) != 0) = true := by simp; omega
   have hw1 : IntKind.i64.wrap ((x.1 : Int) + (x.2.1.size : Int)) = ((x.1 + x.2.1.size : Nat) : Int) := by rw [wrap_int _ (by omega) (by omega)]; omega
   have hw2 : IntKind.i64.wrap (((x.1 + x.2.1.size : Nat) : Int) + 3) = ((x.1 + x.2.1.size + 3 : Nat) : Int) := by rw [wrap_int _ (by omega) (by omega)]; omega
   rw [if_pos he] at hgo
   rw [hgo]
   simp only [go_sem, Int.reduceEq, Int.reduceLE, Int.reduceLT, Int.reduceToNat, he2, hw1, hw2]
   refine free_gen (fun i => ([.agg [.v (.slice none 0 0), .v (.slice none 0 0)], .ref 4 0, .i x.1, .ref 4 1, .s x.2.1, .i x.2.1.size, .i (x.1 + x.2.1.size : Nat), .i (x.1 + x.2.1.size + 3 : Nat), .i pl, .i (IntKind.i64.wrap (((x.1 + x.2.1.size + 3 : Nat) : Int) + (pl : Int))), .i e, .any, .i (IntKind.i64.wrap (((x.1 + x.2.1.size + 3 : Nat) : Int) + (pl : Int))), .i e] : List D).getD i .any) [4, 15, 17, 18] (by rfl) ?_ ?_
   ·intro i o hio env' hlen hkeep hdep K' hK'
    have k4 : env'.getD 4 .any = .ref 0 0 := hkeep 4 (by simp)
    have k15 : env'.getD 15 .any = .ref 4 0 := hkeep 15 (by simp)
    have k17 : env'.getD 17 .any = .i pl := hkeep 17 (by simp)
    have k18 : env'.getD 18 .any = .i e := hkeep 18 (by simp)
    have hi : i < 14 := (List.getElem?_eq_some_iff.1 hio).1
    match i, hi with
    | 0, _ =>
     cases hio
     simp only [go_sem, Int.reduceEq, Int.reduceLE, Int.reduceLT, Int.reduceToNat, evD_tmp]
     exact hK'
    | 1, _ =>
     cases hio
     simp only [go_sem, Int.reduceEq, Int.reduceLE, Int.reduceLT, Int.reduceToNat, evD_tmp, k15]
     exact hK'
    | 2, _ =>
     cases hio
     have d := hdep 1 (by decide) 86 rfl
     simp only [go_sem, Int.reduceEq, Int.reduceLE, Int.reduceLT, Int.reduceToNat, evD_tmp, d]
     exact hK'
    | 3, _ =>
     cases hio
     simp only [go_sem, Int.reduceEq, Int.reduceLE, Int.reduceLT, Int.reduceToNat, evD_tmp, k15]
     exact hK'
    | 4, _ =>
     cases hio
     have d3 := hdep 3 (by decide) 88 rfl
     simp only [go_sem, Int.reduceEq, Int.reduceLE, Int.reduceLT, Int.reduceToNat, evD_tmp, d3]
     exact hK'
    | 5, _ =>
     cases hio
     have d4 := hdep 4 (by decide) 89 rfl
     simp only [go_sem, Int.reduceEq, Int.reduceLE, Int.reduceLT, Int.reduceToNat, evD_tmp, d4]
     exact hK'
    | 6, _ =>
     cases hio
     have d2 := hdep 2 (by decide) 87 rfl
     have d5 := hdep 5 (by decide) 90 rfl
     simp only [go_sem, Int.reduceEq, Int.reduceLE, Int.reduceLT, Int.reduceToNat, evD_tmp, d2, d5, hw1]
     exact hK'
    | 7, _ =>
     cases hio
     have d6 := hdep 6 (by decide) 91 rfl
     simp only [go_sem, Int.reduceEq, Int.reduceLE, Int.reduceLT, Int.reduceToNat, evD_tmp, d6, hw2]
     exact hK'
    | 8, _ =>
     cases hio
     simp only [go_sem, Int.reduceEq, Int.reduceLE, Int.reduceLT, Int.reduceToNat, evD_tmp, k17]
     exact hK'
    | 9, _ =>
     cases hio
     have d7 := hdep 7 (by decide) 92 rfl
     have d8 := hdep 8 (by decide) 93 rfl
     simp only [go_sem, Int.reduceEq, Int.reduceLE, Int.reduceLT, Int.reduceToNat, evD_tmp, d7, d8]
     exact hK'
    | 10, _ =>
     cases hio
     simp only [go_sem, Int.reduceEq, Int.reduceLE, Int.reduceLT, Int.reduceToNat, evD_tmp, k18]
     exact hK'
    | 11, _ =>
     cases hio
     have d0 := hdep 0 (by decide) 85 rfl
     simp only [go_sem, Int.reduceEq, Int.reduceLE, Int.reduceLT, Int.reduceToNat, evD_tmp, d0, k4]
     exact hK'
    | 12, _ =>
     cases hio
     have d9 := hdep 9 (by decide) 94 rfl
     simp only [go_sem, Int.reduceEq, Int.reduceLE, Int.reduceLT, Int.reduceToNat, evD_tmp, d9]
     exact hK'
    | 13, _ =>
     cases hio
     have d10 := hdep 10 (by decide) 95 rfl
     simp only [go_sem, Int.reduceEq, Int.reduceLE, Int.reduceLT, Int.reduceToNat, evD_tmp, d10]
     exact hK'
    | i + 14, hi => exact absurd hi (by omega)
   ·intro env' hlen hkeep hV
    have k4 : env'.getD 4 .any = .ref 0 0 := hkeep 4 (by simp)
    have k5 : env'.getD 5 .any = .i (IntKind.i64.wrap (((x.1 + x.2.1.size + 3 : Nat) : Int) + (pl : Int))) := hV 12 5 rfl
    have k6 : env'.getD 6 .any = .i e := hV 13 6 rfl
    rw [show readB kinds (.inl (IntKind.i64.wrap (((x.1 + x.2.1.size + 3 : Nat) : Int) + (pl : Int)), e)) = (zGr, IntKind.i64.wrap (((x.1 + x.2.1.size + 3 : Nat) : Int) + (pl : Int)), e) from rfl]
    simp only [go_sem, Int.reduceEq, Int.reduceLE, Int.reduceLT, Int.reduceToNat, evD_tmp, k4, k5, k6]
    exact Fin.ret (.tupL ⟨cvZ, .v, .v, trivial⟩)
  subst he
  have he2 : (((0 : Nat) : Int) != 0) = false := rfl
  rw [if_neg (by simp)] at hgo
  simp only [go_sem, Int.reduceEq, Int.reduceLE, Int.reduceLT, Int.reduceToNat, he2, List.length_map, hwi, Cf.c_take]
  exact ⟨by omega, (i + 1, d ++ [(x.2.1, c)]), ⟨h, by simp; omega, hgo⟩, by dsimp only; omega, Mv.of [some 0, some 1, some 2, some 7] rfl ⟨.varS rfl (by simp), .slcS rfl (strR_bl _), .varL rfl (by simp [CvL]), .slcS (by simp) (dfR_bl _), trivial⟩ (by simp only [f8_i24, CvL]; simp [hqk, hql, hqn])⟩
end Go.Proofs.YtdliolbjngcgcaaGreat.W
set_option maxRecDepth 100000
namespace Go.Proofs.YtdliolbjngcgcaaGreat.W
open Go Go.Proofs Go.Proofs.YtdliolbjngcgcaaGreat.AWP
theorem cutL_sz2 (s sep : ByteArray) : (cutL s sep).2.1.size ≤ s.size := by
 unfold cutL Go.Lib.cut
 split
 ·rename_i a b c h
  split at h
  ·cases h
   show (List.drop _ s.data.toList).toArray.size ≤ _
   simp only [List.size_toArray, List.length_drop, Array.length_toList]
   show s.size - _ ≤ _
   omega
  ·cases h
   exact Nat.zero_le _
theorem nameB_szC {s : ByteArray} (h : nameB s = true) : s.size ≤ 30 := by
 unfold nameB at h
 simp only [Bool.and_eq_true, decide_eq_true_eq] at h
 exact h.2.2
structure LnJ (tot : Nat) (kinds : List ByteArray) (l : List Ln) : Prop where
 len : l.length ≤ 50
 sz : ∀ x ∈ l, x.1 ≤ tot ∧ x.2.1.size ≤ 30 ∧ x.2.2.size ≤ tot
 nm : ∀ x ∈ l, nameB x.2.1 = true
 nd : kinds.Nodup → (metC kinds l).Nodup
theorem lnJ_step {tot : Nat} {kinds : List ByteArray} {l : List Ln} {a : Nat} {ln : ByteArray} {l' : List Ln} {a' : Nat} (hJ : LnJ tot kinds l) (ha : a + ln.size ≤ tot) (h : lnStep tot kinds l a ln = .inr (l', a')) : LnJ tot kinds l' ∧ a' = a + ln.size := by
 obtain ⟨h1, rfl, h3, h4, h5⟩ := lnK_inr h
 obtain ⟨j1, j2, j3, j4⟩ := hJ
 have hs := csuf_szC 10 ln
 have hs2 := cutL_sz2 (csuf 10 ln).1 eqS
 refine ⟨⟨by simp; omega, fun x hx => ?_, fun x hx => ?_, fun hkn => ?_⟩, h3⟩
 ·rcases List.mem_append.1 hx with hx | hx
  ·exact j2 x hx
  ·rw [List.mem_singleton.1 hx]
   exact ⟨by dsimp only; omega, nameB_szC h4, by dsimp only; omega⟩
 ·rcases List.mem_append.1 hx with hx | hx
  ·exact j3 x hx
  ·rw [List.mem_singleton.1 hx]; exact h4
 ·have e : metC kinds (l ++ [(a, (cutL (csuf 10 ln).1 eqS).1, (cutL (csuf 10 ln).1 eqS).2.1)]) = metC kinds l ++ [(cutL (csuf 10 ln).1 eqS).1] := by simp [metC]
  rw [e, List.nodup_append]
  refine ⟨j4 hkn, by simp, fun x hx y hy hxy => ?_⟩
  rw [List.mem_singleton.1 hy] at hxy
  have := List.any_eq_false.1 h5 x hx
  simp only [decide_eq_true_eq] at this
  exact this hxy.symm
theorem lnGo_J {tot : Nat} {kinds : List ByteArray} : ∀ (n : Nat) (r : ByteArray) (l : List Ln) (a : Nat) {l' : List Ln} {a' : Nat}, LnJ tot kinds l → a + r.size ≤ tot → lnGo tot kinds n r l a = .inr (l', a') → LnJ tot kinds l' := by
 intro n
 induction n with
 | zero =>
  intro r l a l' a' hJ ha h
  rw [lnGo] at h; cases h; exact hJ
 | succ n ih =>
  intro r l a l' a' hJ ha h
  rw [lnGo] at h
  split at h
  ·cases h; exact hJ
  ·rename_i h0
   have hl := lineOfC_size r (by omega)
   split at h
   ·cases h
   ·rename_i l1 a1 hst
    obtain ⟨hJ1, e⟩ := lnJ_step hJ (by omega) hst
    exact ih _ _ _ hJ1 (by omega) h
theorem linesR_J (s : ByteArray) (kinds : List ByteArray) (h : (linesR s kinds).2.2 = 0) (he : ∀ p e, lnGo s.size kinds s.size s [] 0 = .inl (p, e) → e ≠ 0) : LnJ s.size kinds (linesR s kinds).1 := by
 have h0 : LnJ s.size kinds [] := ⟨by simp, by simp, by simp, fun h => by simpa [metC] using h⟩
 have key := @lnGo_J s.size kinds s.size s [] 0
 unfold linesR at h ⊢
 generalize lnGo s.size kinds s.size s [] 0 = q at h he key ⊢
 cases q with
 | inl q =>
  obtain ⟨p, e⟩ := q
  exact absurd h (he p e rfl)
 | inr q =>
  obtain ⟨l, a⟩ := q
  rw [show linesQ (.inr (l, a)) = (if l = [] then ([], 0, 2) else (l, 0, 0)) from rfl] at h ⊢
  split
  ·exact h0
  ·exact key h0 (by omega) rfl
theorem lnK_inl {tot : Nat} {kinds : List ByteArray} {out : List Ln} {a sz : Nat} {ended : Bool} {k : ByteArray × ByteArray × Bool} {p e : Nat} (h : lnK tot kinds out a sz ended k = .inl (p, e)) : e ≠ 0 := by
 unfold lnK at h
 split at h
 ·cases h; simp
 split at h
 ·cases h; simp
 split at h
 ·cases h; simp
 split at h
 ·cases h; simp
 split at h
 ·cases h; simp
 ·cases h
theorem lnGo_e {tot : Nat} {kinds : List ByteArray} : ∀ (n : Nat) (r : ByteArray) (l : List Ln) (a : Nat) {p e : Nat}, lnGo tot kinds n r l a = .inl (p, e) → e ≠ 0 := by
 intro n
 induction n with
 | zero => intro r l a p e h; rw [lnGo] at h; cases h
 | succ n ih =>
  intro r l a p e h
  rw [lnGo] at h
  split at h
  ·cases h
  ·split at h
   ·rename_i q hst
    cases h
    exact lnK_inl hst
   ·exact ih _ _ _ h
theorem bodiesGo_inr {ks ns : List ByteArray} : ∀ (l : List Ln) (d0 : List Df) {d : List Df}, bodiesGo ks ns l d0 = .inr d → d = d0 ++ l.map (fun x => (x.2.1, (wholeP ks ns x.2.2).1)) ∧ ∀ x ∈ l, (wholeP ks ns x.2.2).2.2 = 0
 | [], d0, d, h => by rw [bodiesGo] at h; cases h; simp
 | x :: l, d0, d, h => by
  rw [bodiesGo] at h
  split at h
  ·cases h
  ·rename_i h0
   obtain ⟨h1, h2⟩ := bodiesGo_inr l _ h
   refine ⟨by rw [h1]; simp, fun y hy => ?_⟩
   rcases List.mem_cons.1 hy with rfl | hy
   ·simpa using h0
   ·exact h2 y hy
theorem grSz_le_of {d : List Df} {m : Nat} : (∀ x ∈ d, x.2.sz ≤ m) → grSz d ≤ d.length * m := by
 induction d with
 | nil => intro _; simp [grSz, Cf.szs_nil]
 | cons x d ih =>
  intro h
  have h1 := h x (by simp)
  have h2 := ih fun y hy => h y (by simp [hy])
  unfold grSz at h2 ⊢
  rw [List.map_cons, Cf.szs_cons, List.length_cons, Nat.add_mul]
  omega
theorem read_may (s : ByteArray) (hs : s.size ≤ 65536) (kinds : List ByteArray) (hks : ∀ x ∈ kinds, x.size ≤ 1000000) (d : List Df) (h1 : 1 ≤ kinds.length) (h2 : kinds.length ≤ 100) (ho : onceB kinds = true)
  (hb : bodiesGo kinds ((linesR s kinds).1.map (·.2.1)) (linesR s kinds).1 [] = .inr d) (he : (linesR s kinds).2.2 = 0) (hne : (linesR s kinds).1 ≠ []) : GFit ⟨kinds, d⟩ ∧ mayG ⟨kinds, d⟩ = decide (grSz d ≤ 2000) := by
 have hon : kinds.all nameB = true ∧ kinds.Nodup := by unfold onceB at ho; simpa using ho
 obtain ⟨j1, j2, j3, j4⟩ := linesR_J s kinds he fun p e h => lnGo_e _ _ _ _ h
 generalize (linesR s kinds).1 = l at *
 obtain ⟨hd, hw⟩ := bodiesGo_inr l [] hb
 rw [List.nil_append] at hd
 have hnm : d.map (·.1) = l.map (·.2.1) := by rw [hd, List.map_map]; rfl
 have hdl : d.length = l.length := by rw [hd]; simp
 have hgood : ∀ x ∈ d, x.2.sz ≤ 131072 ∧ x.2.may kinds.length d.length = true := by
  intro x hx
  rw [hd] at hx
  obtain ⟨y, hy, rfl⟩ := List.mem_map.1 hx
  have hg := wholeP_good kinds (l.map (·.2.1)) y.2.2 (hw y hy)
  have := (j2 y hy).2.2
  refine ⟨by dsimp only; omega, ?_⟩
  have hl : (l.map (·.2.1)).length = d.length := by rw [hdl]; simp
  rw [hl] at hg
  exact hg.2
 have hz := grSz_le_of fun x hx => (hgood x hx).1
 have hzz : d.length * 131072 ≤ 50 * 131072 := Nat.mul_le_mul_right _ (by omega)
 have hlp := List.length_pos_iff.2 hne
 have hgn : grNms ⟨kinds, d⟩ = metC kinds l := by unfold grNms metC; rw [← hnm]
 refine ⟨⟨by dsimp only; omega, by dsimp only; omega, by dsimp only; omega, fun x hx => ?_⟩, ?_⟩
 ·rw [hgn] at hx
  rcases List.mem_append.1 hx with hx | hx
  ·exact hks x hx
  ·obtain ⟨y, hy, rfl⟩ := List.mem_map.1 hx
   have := (j2 y hy).2.1; omega
 ·have hob : onceB (grNms ⟨kinds, d⟩) = true := by
   rw [hgn]
   unfold onceB
   rw [decide_eq_true (j4 hon.2), Bool.and_true, List.all_eq_true]
   intro x hx
   rcases List.mem_append.1 hx with hx | hx
   ·exact List.all_eq_true.1 hon.1 x hx
   ·obtain ⟨y, hy, rfl⟩ := List.mem_map.1 hx
    exact j3 y hy
  have hdo : defsOk ⟨kinds, d⟩ = true := by
   unfold defsOk
   rw [List.all_eq_true]
   exact fun x hx => (hgood x hx).2
  unfold mayG
  rw [hob, hdo]
  dsimp only
  rw [decide_eq_true h1, decide_eq_true h2, decide_eq_true (show 1 ≤ d.length by omega), decide_eq_true (show d.length ≤ 50 by omega)]
  rfl
theorem linesR_ne (s : ByteArray) (kinds : List ByteArray) (h : (linesR s kinds).2.2 = 0) : (linesR s kinds).1 ≠ [] := by
 have he := @lnGo_e s.size kinds s.size s [] 0
 unfold linesR at h ⊢
 generalize lnGo s.size kinds s.size s [] 0 = q at h he ⊢
 cases q with
 | inl q => obtain ⟨p, e⟩ := q; exact absurd h (he rfl)
 | inr q =>
  obtain ⟨l, a⟩ := q
  rw [show linesQ (.inr (l, a)) = (if l = [] then ([], 0, 2) else (l, 0, 0)) from rfl] at h ⊢
  split at h
  ·cases h
  ·rename_i hl; rw [if_neg hl]; exact hl
theorem linesOk (s : ByteArray) (kinds : List ByteArray) (h : (linesR s kinds).2.2 = 0) : LinesOk kinds s.size (linesR s kinds).1 := by
 obtain ⟨j1, j2, _, _⟩ := linesR_J s kinds h fun p e h => lnGo_e _ _ _ _ h
 exact ⟨j1, j2⟩
theorem cReadA (s : ByteArray) (kinds : List ByteArray) (hkn : kinds.length ≤ 1000000) (hks : ∀ x ∈ kinds, x.size ≤ 1000000) : AP Tryz.prog 8 [.s s, Strs kinds] (readCD (readC s kinds)) :=
 cRead s kinds hkn hks (linesOk s kinds) fun d hs h1 h2 ho hb he => read_may s hs kinds hks d h1 h2 ho hb he (linesR_ne s kinds he)
end Go.Proofs.YtdliolbjngcgcaaGreat.W
set_option maxRecDepth 100000
namespace Go.Proofs.YtdliolbjngcgcaaGreat.W
open Go Go.Proofs Go.Proofs.YtdliolbjngcgcaaGreat.AWP
attribute [local irreducible] xl hide aop aops aopQ qops guardP condP
end Go.Proofs.YtdliolbjngcgcaaGreat.W
set_option maxRecDepth 100000
namespace Go.Proofs.YtdliolbjngcgcaaGreat.W
open Go Go.Proofs Go.Proofs.YtdliolbjngcgcaaGreat.AWP
attribute [local irreducible] xl hide aop aops aopQ qops guardP condP
def kRows (l : List Int) : List (List D) := l.map fun n => [.v (.int .u8 n)]
abbrev Ks (l : List Int) : D := .sl 1 (kRows l)
theorem kRows_len (l : List Int) : (kRows l).length = l.length := by simp [kRows]
theorem kRows_get {l : List Int} {i : Nat} {x : Int} (h : l[i]? = some x) : (kRows l)[i]? = some [.v (.int .u8 x)] := by simp [kRows, h]
def idxK : List Int → Int → Nat → Int
 | [], _, _ => -1
 | y :: l, x, i => if x = y then (i : Int) else idxK l x (i + 1)
theorem ixK (l : List Int) (x : Int) (hl : l.length ≤ 1000) : AP Tryz.prog 91 [Ks l, .v (.int .u8 x)] (.i (idxK l x 0)) := by
 have hrl := kRows_len l
 refine AC.lbody hT hm Tryz.func91 f91_nm f91_lc f91_res f91_nt ?_
 simp only [go_sem, Int.reduceEq, Int.reduceLE, Int.reduceLT, Int.reduceToNat, hrl]
 refine xl_loopM hT hm (fun i : Nat => ⟨f91_i7 (Ks l) (.v (.int .u8 x)) (.i l.length) (.i i), []⟩)
  (fun i => i ≤ l.length ∧ idxK (l.drop i) x i = idxK l x 0) (fun i => l.length - i) 0 ⟨Nat.zero_le _, rfl⟩ (Mv.none (by simp [f91_i7, kRows])) ?_
 rintro i ⟨hi, hx⟩
 simp only [go_sem, Int.reduceEq, Int.reduceLE, Int.reduceLT, Int.reduceToNat, hrl]
 by_cases h : i < l.length
 case neg =>
  rw [List.drop_of_length_le (by omega)] at hx
  simp only [go_sem, Int.reduceEq, Int.reduceLE, Int.reduceLT, Int.reduceToNat, h]
  exact Fin.v (by rw [← hx]; rfl)
 obtain ⟨y, hy⟩ := get_ex h
 rw [drop_get hy, idxK] at hx
 simp only [go_sem, Int.reduceEq, Int.reduceLE, Int.reduceLT, Int.reduceToNat, h, hrl, kRows_get hy]
 by_cases hxy : x = y
 ·rw [if_pos hxy] at hx
  have e : (x == y) = true := by simp [hxy]
  simp only [go_sem, Int.reduceEq, Int.reduceLE, Int.reduceLT, Int.reduceToNat, e]
  exact Fin.v (by rw [← hx])
 ·rw [if_neg hxy] at hx
  have e : (x == y) = false := by simp [hxy]
  simp only [go_sem, Int.reduceEq, Int.reduceLE, Int.reduceLT, Int.reduceToNat, e]
  refine ⟨i + 1, ⟨h, hx⟩, by omega, ?_⟩
  rw [wrap_succ i (by omega)]
  exact Mv.none (by simp [kRows])
theorem idxK_ge : ∀ (l : List Int) (x : Int) (i : Nat), decide (0 ≤ idxK l x i) = l.contains x
 | [], x, i => by simp [idxK]
 | y :: l, x, i => by
  rw [idxK]
  split
  ·rename_i h; subst h; simp
  ·rename_i h
   rw [idxK_ge l x (i + 1), List.contains_cons, beq_false h, Bool.false_or]
theorem hasK (l : List Int) (x : Int) (hl : l.length ≤ 1000) : AP Tryz.prog 68 [Ks l, .v (.int .u8 x)] (.b (l.contains x)) := by
 have h := idxK_ge l x 0
 refine AC.lbody hT hm Tryz.func68 f68_nm f68_lc f68_res f68_nt ?_
 simp only [go_sem, Int.reduceEq, Int.reduceLE, Int.reduceLT, Int.reduceToNat]
 refine (ixK l x hl).pv ⟨.same (.sl fun r hr d hd => ?_), .v, trivial⟩ ?_
 ·obtain ⟨n, _, rfl⟩ := List.mem_map.1 hr
  rw [List.mem_singleton.1 hd]; exact .v _
 simp only [go_sem, Int.reduceEq, Int.reduceLE, Int.reduceLT, Int.reduceToNat]
 exact Fin.v (by rw [h])
def KsD (K : D) (ks : List Int) : Prop := K = Ks ks ∨ (ks = [] ∧ K = .v (.slice none 0 0))
theorem Ks_bl (ks : List Int) : Bl 0 (Ks ks) := .sl fun r hr d hd => by
 obtain ⟨n, _, rfl⟩ := List.mem_map.1 hr
 rw [List.mem_singleton.1 hd]; exact .v _
theorem KsD.cv {K : D} {ks : List Int} (h : KsD K ks) {om : List Ob} {F : Nat → Bool} : Cv om F [] K (Ks ks) := by
 rcases h with rfl | ⟨rfl, rfl⟩
 ·exact .same (Ks_bl ks)
 ·exact .nil
abbrev PGC : Nat := 84
theorem bS.form {T : Nat} {x : List D} {l : List UInt8} {R om : List Ob} (h : bS T x l R om) : ∃ a b, om = .var T (a :: b :: x) :: R := by
 rcases h with ⟨_, rfl⟩ | ⟨j, _, rfl⟩
 ·exact ⟨_, _, rfl⟩
 ·exact ⟨_, _, rfl⟩
theorem brkT (l : List UInt8) : brk true l = 40 :: (l ++ [41]) := _root_.id rfl
theorem brkF (l : List UInt8) : brk false l = l := _root_.id rfl
def putC (g : Gr) (r : Cf) : Prop := ∀ (K : D) (ks : List Int) (l : List UInt8) (R om : List Ob), KsD K ks → ks.length ≤ 10 → bS PGC g.c l R om → l.length + r.sz * 110 ≤ 100000000 →
 AC Tryz.prog 39 [.ref 0 0, .agg r.c, K] om (fun o om' => o = .ret (.tup []) ∧ ∃ R', bS PGC g.c (l ++ brk (isIn ks r.kind) (r.tx g.kinds (g.defs.map (·.1)))) R' om')
theorem ba_back (s : ByteArray) : (⟨s.data.toList.toArray⟩ : ByteArray) = s := by cases s; simp
theorem nm_at {L : List ByteArray} {n : Nat} {s : ByteArray} (h : L[n]? = some s) : (L.getD ((n : Int)).toNat ⟨#[]⟩).data.toList = s.data.toList := by
 rw [Int.toNat_natCast, List.getD_eq_getElem?_getD, h]; rfl
set_option maxHeartbeats 2000000 in
theorem putC1 (g : Gr) : putC g (.mk 1 0 []) := by
 intro K ks l R om hK hk hB hl
 rw [Cf.sz_mk, Cf.szs_nil] at hl
 have hc0 := hasK ks 1 (by omega)
 have hq := pelG g
 obtain ⟨a0, b0, rfl⟩ := hB.form
 refine AC.lbody hT hm Tryz.func39 f39_nm f39_lc f39_res f39_nt ?_
 simp only [go_sem, Int.reduceEq, Int.reduceLE, Int.reduceLT, Int.reduceToNat, Cf.c_mk]
 refine hc0.pv ⟨hK.cv, .v, trivial⟩ ?_
 have hin : isIn ks (Cf.mk 1 0 []).kind = ks.contains 1 := rfl
 rw [hin]
 clear hin
 cases hc : ks.contains 1 with
 | true =>
  simp only [go_sem, Int.reduceEq, Int.reduceLE, Int.reduceLT, Int.reduceToNat, Cf.c_mk, Cf.cs_eq, Int.reduceBEq, hq]
  refine ⟨_, wrByteG g.c pageN l 40 R _ hB (by omega), ?_⟩
  rintro _ om1 hw
  obtain ⟨rfl, R1, h1⟩ := hw.bS
  obtain ⟨a1, b1, rfl⟩ := h1.form
  obtain ⟨l1, e1⟩ : ∃ B, B = l ++ [40] := ⟨_, rfl⟩
  have L1 : l1.length = l.length + 1 := by rw [e1, List.length_append]; try rfl
  rw [← e1] at h1
  simp only [go_sem, Int.reduceEq, Int.reduceLE, Int.reduceLT, Int.reduceToNat, Cf.c_mk, Cf.cs_eq, Int.reduceBEq, Cf.c_take, hq]
  refine ⟨_, wrStrG g.c pageN l1 [91, 93] R1 _ h1 (by omega) (by simp), ?_⟩
  rintro _ om2 hw
  obtain ⟨rfl, R2, h2⟩ := hw.bS
  obtain ⟨a2, b2, rfl⟩ := h2.form
  obtain ⟨l2, e2⟩ : ∃ B, B = l1 ++ [91, 93] := ⟨_, rfl⟩
  have L2 : l2.length = l1.length + 2 := by rw [e2, List.length_append]; try rfl
  rw [← e2] at h2
  simp only [go_sem, Int.reduceEq, Int.reduceLE, Int.reduceLT, Int.reduceToNat, Cf.c_mk, Cf.cs_eq, Int.reduceBEq, Cf.c_take, hq]
  refine ⟨_, wrByteG g.c pageN l2 41 R2 _ h2 (by omega), ?_⟩
  rintro _ om3 hw
  obtain ⟨rfl, R3, h3⟩ := hw.bS
  obtain ⟨a3, b3, rfl⟩ := h3.form
  obtain ⟨l3, e3⟩ : ∃ B, B = l2 ++ [41] := ⟨_, rfl⟩
  have L3 : l3.length = l2.length + 1 := by rw [e3, List.length_append]; try rfl
  rw [← e3] at h3
  simp only [go_sem, Int.reduceEq, Int.reduceLE, Int.reduceLT, Int.reduceToNat, Cf.c_mk, Cf.cs_eq, Int.reduceBEq, Cf.c_take, hq]
  refine finSelf ⟨rfl, R3, ?_⟩
  have e : l ++ brk true ((Cf.mk 1 0 []).tx g.kinds (g.defs.map (·.1))) = l3 := by rw [e3, e2, e1, Cf.tx_1, brkT]; try (simp only [List.append_assoc, List.cons_append, List.nil_append])
  rw [e]
  exact h3
 | false =>
  simp only [go_sem, Int.reduceEq, Int.reduceLE, Int.reduceLT, Int.reduceToNat, Cf.c_mk, Cf.cs_eq, Int.reduceBEq, hq]
  refine ⟨_, wrStrG g.c pageN l [91, 93] R _ hB (by omega) (by simp), ?_⟩
  rintro _ om1 hw
  obtain ⟨rfl, R1, h1⟩ := hw.bS
  obtain ⟨a1, b1, rfl⟩ := h1.form
  obtain ⟨l1, e1⟩ : ∃ B, B = l ++ [91, 93] := ⟨_, rfl⟩
  have L1 : l1.length = l.length + 2 := by rw [e1, List.length_append]; try rfl
  rw [← e1] at h1
  simp only [go_sem, Int.reduceEq, Int.reduceLE, Int.reduceLT, Int.reduceToNat, Cf.c_mk, Cf.cs_eq, Int.reduceBEq, Cf.c_take, hq]
  refine finSelf ⟨rfl, R1, ?_⟩
  have e : l ++ brk false ((Cf.mk 1 0 []).tx g.kinds (g.defs.map (·.1))) = l1 := by rw [e1, Cf.tx_1, brkF]; try (simp only [List.append_assoc, List.cons_append, List.nil_append])
  rw [e]
  exact h1
set_option maxHeartbeats 2000000 in
theorem putC2 (g : Gr) : putC g (.mk 2 0 []) := by
 intro K ks l R om hK hk hB hl
 rw [Cf.sz_mk, Cf.szs_nil] at hl
 have hc0 := hasK ks 2 (by omega)
 have hq := pelG g
 obtain ⟨a0, b0, rfl⟩ := hB.form
 refine AC.lbody hT hm Tryz.func39 f39_nm f39_lc f39_res f39_nt ?_
 simp only [go_sem, Int.reduceEq, Int.reduceLE, Int.reduceLT, Int.reduceToNat, Cf.c_mk]
 refine hc0.pv ⟨hK.cv, .v, trivial⟩ ?_
 have hin : isIn ks (Cf.mk 2 0 []).kind = ks.contains 2 := rfl
 rw [hin]
 clear hin
 cases hc : ks.contains 2 with
 | true =>
  simp only [go_sem, Int.reduceEq, Int.reduceLE, Int.reduceLT, Int.reduceToNat, Cf.c_mk, Cf.cs_eq, Int.reduceBEq, hq]
  refine ⟨_, wrByteG g.c pageN l 40 R _ hB (by omega), ?_⟩
  rintro _ om1 hw
  obtain ⟨rfl, R1, h1⟩ := hw.bS
  obtain ⟨a1, b1, rfl⟩ := h1.form
  obtain ⟨l1, e1⟩ : ∃ B, B = l ++ [40] := ⟨_, rfl⟩
  have L1 : l1.length = l.length + 1 := by rw [e1, List.length_append]; try rfl
  rw [← e1] at h1
  simp only [go_sem, Int.reduceEq, Int.reduceLE, Int.reduceLT, Int.reduceToNat, Cf.c_mk, Cf.cs_eq, Int.reduceBEq, Cf.c_take, hq]
  refine ⟨_, wrStrG g.c pageN l1 [40, 41] R1 _ h1 (by omega) (by simp), ?_⟩
  rintro _ om2 hw
  obtain ⟨rfl, R2, h2⟩ := hw.bS
  obtain ⟨a2, b2, rfl⟩ := h2.form
  obtain ⟨l2, e2⟩ : ∃ B, B = l1 ++ [40, 41] := ⟨_, rfl⟩
  have L2 : l2.length = l1.length + 2 := by rw [e2, List.length_append]; try rfl
  rw [← e2] at h2
  simp only [go_sem, Int.reduceEq, Int.reduceLE, Int.reduceLT, Int.reduceToNat, Cf.c_mk, Cf.cs_eq, Int.reduceBEq, Cf.c_take, hq]
  refine ⟨_, wrByteG g.c pageN l2 41 R2 _ h2 (by omega), ?_⟩
  rintro _ om3 hw
  obtain ⟨rfl, R3, h3⟩ := hw.bS
  obtain ⟨a3, b3, rfl⟩ := h3.form
  obtain ⟨l3, e3⟩ : ∃ B, B = l2 ++ [41] := ⟨_, rfl⟩
  have L3 : l3.length = l2.length + 1 := by rw [e3, List.length_append]; try rfl
  rw [← e3] at h3
  simp only [go_sem, Int.reduceEq, Int.reduceLE, Int.reduceLT, Int.reduceToNat, Cf.c_mk, Cf.cs_eq, Int.reduceBEq, Cf.c_take, hq]
  refine finSelf ⟨rfl, R3, ?_⟩
  have e : l ++ brk true ((Cf.mk 2 0 []).tx g.kinds (g.defs.map (·.1))) = l3 := by rw [e3, e2, e1, Cf.tx_2, brkT]; try (simp only [List.append_assoc, List.cons_append, List.nil_append])
  rw [e]
  exact h3
 | false =>
  simp only [go_sem, Int.reduceEq, Int.reduceLE, Int.reduceLT, Int.reduceToNat, Cf.c_mk, Cf.cs_eq, Int.reduceBEq, hq]
  refine ⟨_, wrStrG g.c pageN l [40, 41] R _ hB (by omega) (by simp), ?_⟩
  rintro _ om1 hw
  obtain ⟨rfl, R1, h1⟩ := hw.bS
  obtain ⟨a1, b1, rfl⟩ := h1.form
  obtain ⟨l1, e1⟩ : ∃ B, B = l ++ [40, 41] := ⟨_, rfl⟩
  have L1 : l1.length = l.length + 2 := by rw [e1, List.length_append]; try rfl
  rw [← e1] at h1
  simp only [go_sem, Int.reduceEq, Int.reduceLE, Int.reduceLT, Int.reduceToNat, Cf.c_mk, Cf.cs_eq, Int.reduceBEq, Cf.c_take, hq]
  refine finSelf ⟨rfl, R1, ?_⟩
  have e : l ++ brk false ((Cf.mk 2 0 []).tx g.kinds (g.defs.map (·.1))) = l1 := by rw [e1, Cf.tx_2, brkF]; try (simp only [List.append_assoc, List.cons_append, List.nil_append])
  rw [e]
  exact h1
set_option maxHeartbeats 2000000 in
theorem putC3 (g : Gr) (n : Nat) (s : ByteArray) (hs : g.kinds[n]? = some s) (hz : s.size ≤ 100) : putC g (.mk 3 n []) := by
 intro K ks l R om hK hk hB hl
 rw [Cf.sz_mk, Cf.szs_nil] at hl
 have hc0 := hasK ks 3 (by omega)
 have hq := pelG g
 obtain ⟨a0, b0, rfl⟩ := hB.form
 have hsl : s.data.toList.length = s.size := Array.length_toList
 have hlt : n < g.kinds.length := (List.getElem?_eq_some_iff.1 hs).1
 refine AC.lbody hT hm Tryz.func39 f39_nm f39_lc f39_res f39_nt ?_
 simp only [go_sem, Int.reduceEq, Int.reduceLE, Int.reduceLT, Int.reduceToNat, Cf.c_mk]
 refine hc0.pv ⟨hK.cv, .v, trivial⟩ ?_
 have hin : isIn ks (Cf.mk 3 n []).kind = ks.contains 3 := rfl
 rw [hin]
 clear hin
 cases hc : ks.contains 3 with
 | true =>
  simp only [go_sem, Int.reduceEq, Int.reduceLE, Int.reduceLT, Int.reduceToNat, Cf.c_mk, Cf.cs_eq, Int.reduceBEq, hs, str_get hs, hlt, List.length_map]
  refine ⟨_, wrByteG g.c pageN l 40 R _ hB (by omega), ?_⟩
  rintro _ om1 hw
  obtain ⟨rfl, R1, h1⟩ := hw.bS
  obtain ⟨a1, b1, rfl⟩ := h1.form
  obtain ⟨l1, e1⟩ : ∃ B, B = l ++ [40] := ⟨_, rfl⟩
  have L1 : l1.length = l.length + 1 := by rw [e1, List.length_append]; try rfl
  rw [← e1] at h1
  simp only [go_sem, Int.reduceEq, Int.reduceLE, Int.reduceLT, Int.reduceToNat, Cf.c_mk, Cf.cs_eq, Int.reduceBEq, Cf.c_take, hs, str_get hs, hlt, List.length_map]
  have hX := wrStrG g.c pageN l1 s.data.toList R1 _ h1 (by omega) (by omega)
  rw [ba_back] at hX
  refine ⟨_, hX, ?_⟩
  rintro _ om2 hw
  obtain ⟨rfl, R2, h2⟩ := hw.bS
  obtain ⟨a2, b2, rfl⟩ := h2.form
  obtain ⟨l2, e2⟩ : ∃ B, B = l1 ++ s.data.toList := ⟨_, rfl⟩
  have L2 : l2.length = l1.length + s.data.toList.length := by rw [e2, List.length_append]; try rfl
  rw [← e2] at h2
  simp only [go_sem, Int.reduceEq, Int.reduceLE, Int.reduceLT, Int.reduceToNat, Cf.c_mk, Cf.cs_eq, Int.reduceBEq, Cf.c_take, hs, str_get hs, hlt, List.length_map]
  refine ⟨_, wrByteG g.c pageN l2 41 R2 _ h2 (by omega), ?_⟩
  rintro _ om3 hw
  obtain ⟨rfl, R3, h3⟩ := hw.bS
  obtain ⟨a3, b3, rfl⟩ := h3.form
  obtain ⟨l3, e3⟩ : ∃ B, B = l2 ++ [41] := ⟨_, rfl⟩
  have L3 : l3.length = l2.length + 1 := by rw [e3, List.length_append]; try rfl
  rw [← e3] at h3
  simp only [go_sem, Int.reduceEq, Int.reduceLE, Int.reduceLT, Int.reduceToNat, Cf.c_mk, Cf.cs_eq, Int.reduceBEq, Cf.c_take, hs, str_get hs, hlt, List.length_map]
  refine finSelf ⟨rfl, R3, ?_⟩
  have e : l ++ brk true ((Cf.mk 3 n []).tx g.kinds (g.defs.map (·.1))) = l3 := by rw [e3, e2, e1, Cf.tx_3, nm_at hs, brkT]; try (simp only [List.append_assoc, List.cons_append, List.nil_append])
  rw [e]
  exact h3
 | false =>
  simp only [go_sem, Int.reduceEq, Int.reduceLE, Int.reduceLT, Int.reduceToNat, Cf.c_mk, Cf.cs_eq, Int.reduceBEq, hs, str_get hs, hlt, List.length_map]
  have hX := wrStrG g.c pageN l s.data.toList R _ hB (by omega) (by omega)
  rw [ba_back] at hX
  refine ⟨_, hX, ?_⟩
  rintro _ om1 hw
  obtain ⟨rfl, R1, h1⟩ := hw.bS
  obtain ⟨a1, b1, rfl⟩ := h1.form
  obtain ⟨l1, e1⟩ : ∃ B, B = l ++ s.data.toList := ⟨_, rfl⟩
  have L1 : l1.length = l.length + s.data.toList.length := by rw [e1, List.length_append]; try rfl
  rw [← e1] at h1
  simp only [go_sem, Int.reduceEq, Int.reduceLE, Int.reduceLT, Int.reduceToNat, Cf.c_mk, Cf.cs_eq, Int.reduceBEq, Cf.c_take, hs, str_get hs, hlt, List.length_map]
  refine finSelf ⟨rfl, R1, ?_⟩
  have e : l ++ brk false ((Cf.mk 3 n []).tx g.kinds (g.defs.map (·.1))) = l1 := by rw [e1, Cf.tx_3, nm_at hs, brkF]; try (simp only [List.append_assoc, List.cons_append, List.nil_append])
  rw [e]
  exact h1
set_option maxHeartbeats 2000000 in
theorem putC6 (g : Gr) (n : Nat) (s : ByteArray) (hs : (g.defs.map (·.1))[n]? = some s) (hz : s.size ≤ 100) : putC g (.mk 6 n []) := by
 intro K ks l R om hK hk hB hl
 rw [Cf.sz_mk, Cf.szs_nil] at hl
 have hc0 := hasK ks 6 (by omega)
 have hq := pelG g
 obtain ⟨a0, b0, rfl⟩ := hB.form
 obtain ⟨dx, hdx, rfl⟩ : ∃ dx, g.defs[n]? = some dx ∧ s = dx.1 := by rw [List.getElem?_map, Option.map_eq_some_iff] at hs; obtain ⟨dx, h1, h2⟩ := hs; exact ⟨dx, h1, h2.symm⟩
 have hsl : dx.1.data.toList.length = dx.1.size := Array.length_toList
 have hlt : n < g.defs.length := (List.getElem?_eq_some_iff.1 hdx).1
 refine AC.lbody hT hm Tryz.func39 f39_nm f39_lc f39_res f39_nt ?_
 simp only [go_sem, Int.reduceEq, Int.reduceLE, Int.reduceLT, Int.reduceToNat, Cf.c_mk]
 refine hc0.pv ⟨hK.cv, .v, trivial⟩ ?_
 have hin : isIn ks (Cf.mk 6 n []).kind = ks.contains 6 := rfl
 rw [hin]
 clear hin
 cases hc : ks.contains 6 with
 | true =>
  simp only [go_sem, Int.reduceEq, Int.reduceLE, Int.reduceLT, Int.reduceToNat, Cf.c_mk, Cf.cs_eq, Int.reduceBEq, hdx, hlt, List.length_map, df_0]
  refine ⟨_, wrByteG g.c pageN l 40 R _ hB (by omega), ?_⟩
  rintro _ om1 hw
  obtain ⟨rfl, R1, h1⟩ := hw.bS
  obtain ⟨a1, b1, rfl⟩ := h1.form
  obtain ⟨l1, e1⟩ : ∃ B, B = l ++ [40] := ⟨_, rfl⟩
  have L1 : l1.length = l.length + 1 := by rw [e1, List.length_append]; try rfl
  rw [← e1] at h1
  simp only [go_sem, Int.reduceEq, Int.reduceLE, Int.reduceLT, Int.reduceToNat, Cf.c_mk, Cf.cs_eq, Int.reduceBEq, Cf.c_take, hdx, hlt, List.length_map, df_0]
  have hX := wrStrG g.c pageN l1 dx.1.data.toList R1 _ h1 (by omega) (by omega)
  rw [ba_back] at hX
  refine ⟨_, hX, ?_⟩
  rintro _ om2 hw
  obtain ⟨rfl, R2, h2⟩ := hw.bS
  obtain ⟨a2, b2, rfl⟩ := h2.form
  obtain ⟨l2, e2⟩ : ∃ B, B = l1 ++ dx.1.data.toList := ⟨_, rfl⟩
  have L2 : l2.length = l1.length + dx.1.data.toList.length := by rw [e2, List.length_append]; try rfl
  rw [← e2] at h2
  simp only [go_sem, Int.reduceEq, Int.reduceLE, Int.reduceLT, Int.reduceToNat, Cf.c_mk, Cf.cs_eq, Int.reduceBEq, Cf.c_take, hdx, hlt, List.length_map, df_0]
  refine ⟨_, wrByteG g.c pageN l2 41 R2 _ h2 (by omega), ?_⟩
  rintro _ om3 hw
  obtain ⟨rfl, R3, h3⟩ := hw.bS
  obtain ⟨a3, b3, rfl⟩ := h3.form
  obtain ⟨l3, e3⟩ : ∃ B, B = l2 ++ [41] := ⟨_, rfl⟩
  have L3 : l3.length = l2.length + 1 := by rw [e3, List.length_append]; try rfl
  rw [← e3] at h3
  simp only [go_sem, Int.reduceEq, Int.reduceLE, Int.reduceLT, Int.reduceToNat, Cf.c_mk, Cf.cs_eq, Int.reduceBEq, Cf.c_take, hdx, hlt, List.length_map, df_0]
  refine finSelf ⟨rfl, R3, ?_⟩
  have e : l ++ brk true ((Cf.mk 6 n []).tx g.kinds (g.defs.map (·.1))) = l3 := by rw [e3, e2, e1, Cf.tx_6, nm_at hs, brkT]; try (simp only [List.append_assoc, List.cons_append, List.nil_append])
  rw [e]
  exact h3
 | false =>
  simp only [go_sem, Int.reduceEq, Int.reduceLE, Int.reduceLT, Int.reduceToNat, Cf.c_mk, Cf.cs_eq, Int.reduceBEq, hdx, hlt, List.length_map, df_0]
  have hX := wrStrG g.c pageN l dx.1.data.toList R _ hB (by omega) (by omega)
  rw [ba_back] at hX
  refine ⟨_, hX, ?_⟩
  rintro _ om1 hw
  obtain ⟨rfl, R1, h1⟩ := hw.bS
  obtain ⟨a1, b1, rfl⟩ := h1.form
  obtain ⟨l1, e1⟩ : ∃ B, B = l ++ dx.1.data.toList := ⟨_, rfl⟩
  have L1 : l1.length = l.length + dx.1.data.toList.length := by rw [e1, List.length_append]; try rfl
  rw [← e1] at h1
  simp only [go_sem, Int.reduceEq, Int.reduceLE, Int.reduceLT, Int.reduceToNat, Cf.c_mk, Cf.cs_eq, Int.reduceBEq, Cf.c_take, hdx, hlt, List.length_map, df_0]
  refine finSelf ⟨rfl, R1, ?_⟩
  have e : l ++ brk false ((Cf.mk 6 n []).tx g.kinds (g.defs.map (·.1))) = l1 := by rw [e1, Cf.tx_6, nm_at hs, brkF]; try (simp only [List.append_assoc, List.cons_append, List.nil_append])
  rw [e]
  exact h1
set_option maxHeartbeats 2000000 in
theorem putC4 (g : Gr) (x y : Cf) (hx : (x.tx g.kinds (g.defs.map (·.1))).length + 4 ≤ 110 * x.sz) (hy : (y.tx g.kinds (g.defs.map (·.1))).length + 4 ≤ 110 * y.sz) (ihx : putC g x) (ihy : putC g y) : putC g (.mk 4 0 [x, y]) := by
 intro K ks l R om hK hk hB hl
 rw [Cf.sz_mk, Cf.szs_cons, Cf.szs_cons, Cf.szs_nil] at hl
 have hc0 := hasK ks 4 (by omega)
 have hq := pelG g
 obtain ⟨a0, b0, rfl⟩ := hB.form
 refine AC.lbody hT hm Tryz.func39 f39_nm f39_lc f39_res f39_nt ?_
 simp only [go_sem, Int.reduceEq, Int.reduceLE, Int.reduceLT, Int.reduceToNat, Cf.c_mk]
 refine hc0.pv ⟨hK.cv, .v, trivial⟩ ?_
 have hin : isIn ks (Cf.mk 4 0 [x, y]).kind = ks.contains 4 := rfl
 rw [hin]
 clear hin
 cases hc : ks.contains 4 with
 | true =>
  simp only [go_sem, Int.reduceEq, Int.reduceLE, Int.reduceLT, Int.reduceToNat, Cf.c_mk, Cf.cs_eq, Int.reduceBEq, hq]
  refine ⟨_, wrByteG g.c pageN l 40 R _ hB (by omega), ?_⟩
  rintro _ om1 hw
  obtain ⟨rfl, R1, h1⟩ := hw.bS
  obtain ⟨a1, b1, rfl⟩ := h1.form
  obtain ⟨l1, e1⟩ : ∃ B, B = l ++ [40] := ⟨_, rfl⟩
  have L1 : l1.length = l.length + 1 := by rw [e1, List.length_append]; try rfl
  rw [← e1] at h1
  simp only [go_sem, Int.reduceEq, Int.reduceLE, Int.reduceLT, Int.reduceToNat, Cf.c_mk, Cf.cs_eq, Int.reduceBEq, Cf.c_take, hq]
  refine ⟨_, ihx (Ks [4, 5]) [4, 5] l1 R1 _ (.inl rfl) (by simp) h1 (by omega), ?_⟩
  rintro _ om2 ⟨rfl, R2, h2⟩
  obtain ⟨a2, b2, rfl⟩ := h2.form
  obtain ⟨l2, e2⟩ : ∃ B, B = l1 ++ (brk (isIn [4, 5] x.kind) (x.tx g.kinds (g.defs.map (·.1)))) := ⟨_, rfl⟩
  have L2 : l2.length ≤ l1.length + 110 * x.sz := by rw [e2, List.length_append]; have := brk_lenC (isIn [4, 5] x.kind) (x.tx g.kinds (g.defs.map (·.1))); omega
  rw [← e2] at h2
  simp only [go_sem, Int.reduceEq, Int.reduceLE, Int.reduceLT, Int.reduceToNat, Cf.c_mk, Cf.cs_eq, Int.reduceBEq, Cf.c_take, hq]
  refine ⟨_, wrByteG g.c pageN l2 32 R2 _ h2 (by omega), ?_⟩
  rintro _ om3 hw
  obtain ⟨rfl, R3, h3⟩ := hw.bS
  obtain ⟨a3, b3, rfl⟩ := h3.form
  obtain ⟨l3, e3⟩ : ∃ B, B = l2 ++ [32] := ⟨_, rfl⟩
  have L3 : l3.length = l2.length + 1 := by rw [e3, List.length_append]; try rfl
  rw [← e3] at h3
  simp only [go_sem, Int.reduceEq, Int.reduceLE, Int.reduceLT, Int.reduceToNat, Cf.c_mk, Cf.cs_eq, Int.reduceBEq, Cf.c_take, hq]
  refine ⟨_, ihy (Ks [5]) [5] l3 R3 _ (.inl rfl) (by simp) h3 (by omega), ?_⟩
  rintro _ om4 ⟨rfl, R4, h4⟩
  obtain ⟨a4, b4, rfl⟩ := h4.form
  obtain ⟨l4, e4⟩ : ∃ B, B = l3 ++ (brk (isIn [5] y.kind) (y.tx g.kinds (g.defs.map (·.1)))) := ⟨_, rfl⟩
  have L4 : l4.length ≤ l3.length + 110 * y.sz := by rw [e4, List.length_append]; have := brk_lenC (isIn [5] y.kind) (y.tx g.kinds (g.defs.map (·.1))); omega
  rw [← e4] at h4
  simp only [go_sem, Int.reduceEq, Int.reduceLE, Int.reduceLT, Int.reduceToNat, Cf.c_mk, Cf.cs_eq, Int.reduceBEq, Cf.c_take, hq]
  refine ⟨_, wrByteG g.c pageN l4 41 R4 _ h4 (by omega), ?_⟩
  rintro _ om5 hw
  obtain ⟨rfl, R5, h5⟩ := hw.bS
  obtain ⟨a5, b5, rfl⟩ := h5.form
  obtain ⟨l5, e5⟩ : ∃ B, B = l4 ++ [41] := ⟨_, rfl⟩
  have L5 : l5.length = l4.length + 1 := by rw [e5, List.length_append]; try rfl
  rw [← e5] at h5
  simp only [go_sem, Int.reduceEq, Int.reduceLE, Int.reduceLT, Int.reduceToNat, Cf.c_mk, Cf.cs_eq, Int.reduceBEq, Cf.c_take, hq]
  refine finSelf ⟨rfl, R5, ?_⟩
  have e : l ++ brk true ((Cf.mk 4 0 [x, y]).tx g.kinds (g.defs.map (·.1))) = l5 := by rw [e5, e4, e3, e2, e1, Cf.tx_4, brkT]; try (simp only [List.append_assoc, List.cons_append, List.nil_append])
  rw [e]
  exact h5
 | false =>
  simp only [go_sem, Int.reduceEq, Int.reduceLE, Int.reduceLT, Int.reduceToNat, Cf.c_mk, Cf.cs_eq, Int.reduceBEq, hq]
  refine ⟨_, ihx (Ks [4, 5]) [4, 5] l R _ (.inl rfl) (by simp) hB (by omega), ?_⟩
  rintro _ om1 ⟨rfl, R1, h1⟩
  obtain ⟨a1, b1, rfl⟩ := h1.form
  obtain ⟨l1, e1⟩ : ∃ B, B = l ++ (brk (isIn [4, 5] x.kind) (x.tx g.kinds (g.defs.map (·.1)))) := ⟨_, rfl⟩
  have L1 : l1.length ≤ l.length + 110 * x.sz := by rw [e1, List.length_append]; have := brk_lenC (isIn [4, 5] x.kind) (x.tx g.kinds (g.defs.map (·.1))); omega
  rw [← e1] at h1
  simp only [go_sem, Int.reduceEq, Int.reduceLE, Int.reduceLT, Int.reduceToNat, Cf.c_mk, Cf.cs_eq, Int.reduceBEq, Cf.c_take, hq]
  refine ⟨_, wrByteG g.c pageN l1 32 R1 _ h1 (by omega), ?_⟩
  rintro _ om2 hw
  obtain ⟨rfl, R2, h2⟩ := hw.bS
  obtain ⟨a2, b2, rfl⟩ := h2.form
  obtain ⟨l2, e2⟩ : ∃ B, B = l1 ++ [32] := ⟨_, rfl⟩
  have L2 : l2.length = l1.length + 1 := by rw [e2, List.length_append]; try rfl
  rw [← e2] at h2
  simp only [go_sem, Int.reduceEq, Int.reduceLE, Int.reduceLT, Int.reduceToNat, Cf.c_mk, Cf.cs_eq, Int.reduceBEq, Cf.c_take, hq]
  refine ⟨_, ihy (Ks [5]) [5] l2 R2 _ (.inl rfl) (by simp) h2 (by omega), ?_⟩
  rintro _ om3 ⟨rfl, R3, h3⟩
  obtain ⟨a3, b3, rfl⟩ := h3.form
  obtain ⟨l3, e3⟩ : ∃ B, B = l2 ++ (brk (isIn [5] y.kind) (y.tx g.kinds (g.defs.map (·.1)))) := ⟨_, rfl⟩
  have L3 : l3.length ≤ l2.length + 110 * y.sz := by rw [e3, List.length_append]; have := brk_lenC (isIn [5] y.kind) (y.tx g.kinds (g.defs.map (·.1))); omega
  rw [← e3] at h3
  simp only [go_sem, Int.reduceEq, Int.reduceLE, Int.reduceLT, Int.reduceToNat, Cf.c_mk, Cf.cs_eq, Int.reduceBEq, Cf.c_take, hq]
  refine finSelf ⟨rfl, R3, ?_⟩
  have e : l ++ brk false ((Cf.mk 4 0 [x, y]).tx g.kinds (g.defs.map (·.1))) = l3 := by rw [e3, e2, e1, Cf.tx_4, brkF]; try (simp only [List.append_assoc, List.cons_append, List.nil_append])
  rw [e]
  exact h3
set_option maxHeartbeats 2000000 in
theorem putC5 (g : Gr) (x y : Cf) (hx : (x.tx g.kinds (g.defs.map (·.1))).length + 4 ≤ 110 * x.sz) (hy : (y.tx g.kinds (g.defs.map (·.1))).length + 4 ≤ 110 * y.sz) (ihx : putC g x) (ihy : putC g y) : putC g (.mk 5 0 [x, y]) := by
 intro K ks l R om hK hk hB hl
 rw [Cf.sz_mk, Cf.szs_cons, Cf.szs_cons, Cf.szs_nil] at hl
 have hc0 := hasK ks 5 (by omega)
 have hq := pelG g
 obtain ⟨a0, b0, rfl⟩ := hB.form
 refine AC.lbody hT hm Tryz.func39 f39_nm f39_lc f39_res f39_nt ?_
 simp only [go_sem, Int.reduceEq, Int.reduceLE, Int.reduceLT, Int.reduceToNat, Cf.c_mk]
 refine hc0.pv ⟨hK.cv, .v, trivial⟩ ?_
 have hin : isIn ks (Cf.mk 5 0 [x, y]).kind = ks.contains 5 := rfl
 rw [hin]
 clear hin
 cases hc : ks.contains 5 with
 | true =>
  simp only [go_sem, Int.reduceEq, Int.reduceLE, Int.reduceLT, Int.reduceToNat, Cf.c_mk, Cf.cs_eq, Int.reduceBEq, hq]
  refine ⟨_, wrByteG g.c pageN l 40 R _ hB (by omega), ?_⟩
  rintro _ om1 hw
  obtain ⟨rfl, R1, h1⟩ := hw.bS
  obtain ⟨a1, b1, rfl⟩ := h1.form
  obtain ⟨l1, e1⟩ : ∃ B, B = l ++ [40] := ⟨_, rfl⟩
  have L1 : l1.length = l.length + 1 := by rw [e1, List.length_append]; try rfl
  rw [← e1] at h1
  simp only [go_sem, Int.reduceEq, Int.reduceLE, Int.reduceLT, Int.reduceToNat, Cf.c_mk, Cf.cs_eq, Int.reduceBEq, Cf.c_take, hq]
  refine ⟨_, ihx (Ks [5]) [5] l1 R1 _ (.inl rfl) (by simp) h1 (by omega), ?_⟩
  rintro _ om2 ⟨rfl, R2, h2⟩
  obtain ⟨a2, b2, rfl⟩ := h2.form
  obtain ⟨l2, e2⟩ : ∃ B, B = l1 ++ (brk (isIn [5] x.kind) (x.tx g.kinds (g.defs.map (·.1)))) := ⟨_, rfl⟩
  have L2 : l2.length ≤ l1.length + 110 * x.sz := by rw [e2, List.length_append]; have := brk_lenC (isIn [5] x.kind) (x.tx g.kinds (g.defs.map (·.1))); omega
  rw [← e2] at h2
  simp only [go_sem, Int.reduceEq, Int.reduceLE, Int.reduceLT, Int.reduceToNat, Cf.c_mk, Cf.cs_eq, Int.reduceBEq, Cf.c_take, hq]
  refine ⟨_, wrStrG g.c pageN l2 [32, 124, 32] R2 _ h2 (by omega) (by simp), ?_⟩
  rintro _ om3 hw
  obtain ⟨rfl, R3, h3⟩ := hw.bS
  obtain ⟨a3, b3, rfl⟩ := h3.form
  obtain ⟨l3, e3⟩ : ∃ B, B = l2 ++ [32, 124, 32] := ⟨_, rfl⟩
  have L3 : l3.length = l2.length + 3 := by rw [e3, List.length_append]; try rfl
  rw [← e3] at h3
  simp only [go_sem, Int.reduceEq, Int.reduceLE, Int.reduceLT, Int.reduceToNat, Cf.c_mk, Cf.cs_eq, Int.reduceBEq, Cf.c_take, hq]
  refine ⟨_, ihy (.v (.slice none 0 0)) [] l3 R3 _ (.inr ⟨rfl, rfl⟩) (by simp) h3 (by omega), ?_⟩
  rintro _ om4 ⟨rfl, R4, h4⟩
  obtain ⟨a4, b4, rfl⟩ := h4.form
  obtain ⟨l4, e4⟩ : ∃ B, B = l3 ++ (brk (isIn [] y.kind) (y.tx g.kinds (g.defs.map (·.1)))) := ⟨_, rfl⟩
  have L4 : l4.length ≤ l3.length + 110 * y.sz := by rw [e4, List.length_append]; have := brk_lenC (isIn [] y.kind) (y.tx g.kinds (g.defs.map (·.1))); omega
  rw [← e4] at h4
  simp only [go_sem, Int.reduceEq, Int.reduceLE, Int.reduceLT, Int.reduceToNat, Cf.c_mk, Cf.cs_eq, Int.reduceBEq, Cf.c_take, hq]
  refine ⟨_, wrByteG g.c pageN l4 41 R4 _ h4 (by omega), ?_⟩
  rintro _ om5 hw
  obtain ⟨rfl, R5, h5⟩ := hw.bS
  obtain ⟨a5, b5, rfl⟩ := h5.form
  obtain ⟨l5, e5⟩ : ∃ B, B = l4 ++ [41] := ⟨_, rfl⟩
  have L5 : l5.length = l4.length + 1 := by rw [e5, List.length_append]; try rfl
  rw [← e5] at h5
  simp only [go_sem, Int.reduceEq, Int.reduceLE, Int.reduceLT, Int.reduceToNat, Cf.c_mk, Cf.cs_eq, Int.reduceBEq, Cf.c_take, hq]
  refine finSelf ⟨rfl, R5, ?_⟩
  have e : l ++ brk true ((Cf.mk 5 0 [x, y]).tx g.kinds (g.defs.map (·.1))) = l5 := by rw [e5, e4, e3, e2, e1, show isIn [] y.kind = false from rfl, brkF, Cf.tx_5, brkT]; try (simp only [List.append_assoc, List.cons_append, List.nil_append])
  rw [e]
  exact h5
 | false =>
  simp only [go_sem, Int.reduceEq, Int.reduceLE, Int.reduceLT, Int.reduceToNat, Cf.c_mk, Cf.cs_eq, Int.reduceBEq, hq]
  refine ⟨_, ihx (Ks [5]) [5] l R _ (.inl rfl) (by simp) hB (by omega), ?_⟩
  rintro _ om1 ⟨rfl, R1, h1⟩
  obtain ⟨a1, b1, rfl⟩ := h1.form
  obtain ⟨l1, e1⟩ : ∃ B, B = l ++ (brk (isIn [5] x.kind) (x.tx g.kinds (g.defs.map (·.1)))) := ⟨_, rfl⟩
  have L1 : l1.length ≤ l.length + 110 * x.sz := by rw [e1, List.length_append]; have := brk_lenC (isIn [5] x.kind) (x.tx g.kinds (g.defs.map (·.1))); omega
  rw [← e1] at h1
  simp only [go_sem, Int.reduceEq, Int.reduceLE, Int.reduceLT, Int.reduceToNat, Cf.c_mk, Cf.cs_eq, Int.reduceBEq, Cf.c_take, hq]
  refine ⟨_, wrStrG g.c pageN l1 [32, 124, 32] R1 _ h1 (by omega) (by simp), ?_⟩
  rintro _ om2 hw
  obtain ⟨rfl, R2, h2⟩ := hw.bS
  obtain ⟨a2, b2, rfl⟩ := h2.form
  obtain ⟨l2, e2⟩ : ∃ B, B = l1 ++ [32, 124, 32] := ⟨_, rfl⟩
  have L2 : l2.length = l1.length + 3 := by rw [e2, List.length_append]; try rfl
  rw [← e2] at h2
  simp only [go_sem, Int.reduceEq, Int.reduceLE, Int.reduceLT, Int.reduceToNat, Cf.c_mk, Cf.cs_eq, Int.reduceBEq, Cf.c_take, hq]
  refine ⟨_, ihy (.v (.slice none 0 0)) [] l2 R2 _ (.inr ⟨rfl, rfl⟩) (by simp) h2 (by omega), ?_⟩
  rintro _ om3 ⟨rfl, R3, h3⟩
  obtain ⟨a3, b3, rfl⟩ := h3.form
  obtain ⟨l3, e3⟩ : ∃ B, B = l2 ++ (brk (isIn [] y.kind) (y.tx g.kinds (g.defs.map (·.1)))) := ⟨_, rfl⟩
  have L3 : l3.length ≤ l2.length + 110 * y.sz := by rw [e3, List.length_append]; have := brk_lenC (isIn [] y.kind) (y.tx g.kinds (g.defs.map (·.1))); omega
  rw [← e3] at h3
  simp only [go_sem, Int.reduceEq, Int.reduceLE, Int.reduceLT, Int.reduceToNat, Cf.c_mk, Cf.cs_eq, Int.reduceBEq, Cf.c_take, hq]
  refine finSelf ⟨rfl, R3, ?_⟩
  have e : l ++ brk false ((Cf.mk 5 0 [x, y]).tx g.kinds (g.defs.map (·.1))) = l3 := by rw [e3, e2, e1, show isIn [] y.kind = false from rfl, brkF, Cf.tx_5, brkF]; try (simp only [List.append_assoc, List.cons_append, List.nil_append])
  rw [e]
  exact h3
theorem putAll (g : Gr) (hK : ∀ x ∈ g.kinds, x.size ≤ 100) (hN : ∀ x ∈ g.defs, x.1.size ≤ 100) (r : Cf) (hr : r.may g.kinds.length g.defs.length = true) : putC g r := by
 have hN' : ∀ x ∈ g.defs.map (·.1), x.size ≤ 100 := by
  intro x hx
  obtain ⟨y, hy, rfl⟩ := List.mem_map.1 hx
  exact hN y hy
 have ht := tx_len hK hN'
 rw [List.length_map] at ht
 refine may_cases (putC1 g) (putC2 g) (fun n hn => ?_) (fun n hn => ?_) (fun x y hx hy => putC4 g x y (ht x hx) (ht y hy)) (fun x y hx hy => putC5 g x y (ht x hx) (ht y hy)) r hr
 ·have h := List.getElem?_eq_getElem hn
  exact putC3 g n _ h (hK _ (List.getElem_mem hn))
 ·have hn' : n < (g.defs.map (·.1)).length := by simpa using hn
  have h := List.getElem?_eq_getElem hn'
  exact putC6 g n _ h (hN' _ (List.getElem_mem hn'))
end Go.Proofs.YtdliolbjngcgcaaGreat.W
set_option maxRecDepth 100000
namespace Go.Proofs.YtdliolbjngcgcaaGreat.W
open Go Go.Proofs Go.Proofs.YtdliolbjngcgcaaGreat.AWP
attribute [local irreducible] xl hide aop aops aopQ qops guardP condP
abbrev txC (l : List UInt8) : D := .s ⟨l.toArray⟩
theorem mayG_facts {g : Gr} (h : mayG g = true) : (∀ x ∈ g.kinds, x.size ≤ 30) ∧ (∀ x ∈ g.defs, x.1.size ≤ 30 ∧ x.2.may g.kinds.length g.defs.length = true) ∧ 1 ≤ g.kinds.length ∧ g.kinds.length ≤ 100 ∧ 1 ≤ g.defs.length ∧ g.defs.length ≤ 50 ∧ onceB (grNms g) = true ∧ grSz g.defs ≤ 2000 := by
 unfold mayG at h
 simp only [Bool.and_eq_true, decide_eq_true_eq] at h
 obtain ⟨⟨h1, h2, h3, h4, h5⟩, h6, h7⟩ := h
 have hn : ∀ x ∈ grNms g, x.size ≤ 30 := by
  intro x hx
  unfold onceB at h5
  rw [Bool.and_eq_true, List.all_eq_true] at h5
  have := h5.1 x hx
  unfold nameB at this
  simp only [Bool.and_eq_true, decide_eq_true_eq] at this
  exact this.2.2
 refine ⟨fun x hx => hn x (List.mem_append.2 (.inl hx)), fun x hx => ⟨hn _ (List.mem_append.2 (.inr (List.mem_map.2 ⟨x, hx, rfl⟩))), ?_⟩, h1, h2, h3, h4, h5, h7⟩
 unfold defsOk at h6
 exact List.all_eq_true.1 h6 x hx
abbrev gNm (g : Gr) : List ByteArray := g.defs.map (·.1)
def dfL (g : Gr) (x : Df) : List UInt8 := x.1.data.toList ++ 32 :: 61 :: 32 :: (x.2.tx g.kinds (gNm g) ++ [10])
def dfT (g : Gr) : List Df → List UInt8
 | [] => []
 | x :: l => dfL g x ++ dfT g l
theorem dfT_app (g : Gr) : ∀ (a b : List Df), dfT g (a ++ b) = dfT g a ++ dfT g b
 | [], b => rfl
 | x :: a, b => by rw [List.cons_append, dfT, dfT, dfT_app g a b, List.append_assoc]
theorem dfT_at (g : Gr) {l : List Df} {i : Nat} {x : Df} (h : l[i]? = some x) : dfT g (l.take (i + 1)) = dfT g (l.take i) ++ dfL g x := by
 rw [List.take_add_one, h, dfT_app]; simp [dfT]
theorem dfT_len (g : Gr) : ∀ (l : List Df), (∀ x ∈ l, x.1.size ≤ 30 ∧ (x.2.tx g.kinds (gNm g)).length + 4 ≤ 110 * x.2.sz) → (dfT g l).length ≤ l.length * 40 + 110 * grSz l
 | [], _ => by simp [dfT]
 | x :: l, h => by
  have h1 := h x (by simp)
  have h2 := dfT_len g l fun y hy => h y (by simp [hy])
  have h4 : x.1.data.toList.length = x.1.size := Array.length_toList
  have h5 : grSz (x :: l) = x.2.sz + grSz l := by unfold grSz; rw [List.map_cons, Cf.szs_cons]
  rw [dfT, List.length_append, h5, List.length_cons, Nat.add_mul]
  unfold dfL
  simp only [List.length_append, List.length_cons, List.length_nil]
  omega
def prC (g : Gr) : List UInt8 × Int :=
 if mayG g = false then ([], 1) else if 65536 < (dfT g g.defs).length then ([], 3) else (dfT g g.defs, 0)
abbrev prCD (x : List UInt8 × Int) : D := .tup [txC x.1, .i x.2]
set_option maxHeartbeats 8000000 in
theorem cPrint (g : Gr) (hg : GFit g) : AP Tryz.prog 13 [.agg g.c] (prCD (prC g)) := by
 have hq := pelG g
 have hM := cMayG g hg
 have hqd : ∀ om (F : Nat → Bool) (kk : List (Option Nat)), Cv om F kk (Defs g.defs) (Defs g.defs) := fun om F kk => .same (Defs_bl _)
 unfold prC
 refine AC.lbody hT hm Tryz.func13 f13_nm f13_lc f13_res f13_nt ?_
 simp only [go_sem, Int.reduceEq, Int.reduceLE, Int.reduceLT, Int.reduceToNat, gr_take, gr_c_len]
 refine hM.pv ⟨.same (Gr.d_bl g), trivial⟩ ?_
 cases hmay : mayG g with
 | false =>
  rw [if_pos rfl]
  simp only [go_sem, Int.reduceEq, Int.reduceLE, Int.reduceLT, Int.reduceToNat, Bool.not_false]
  exact Fin.ret (.tupL (by simp))
 | true =>
 rw [if_neg (by simp)]
 obtain ⟨hkz, hdz, hk1, hk2, hd1, hd2, hon, hsz⟩ := mayG_facts hmay
 have hpall : ∀ x ∈ g.defs, putC g x.2 := fun x hx => putAll g (fun y hy => by have := hkz y hy; omega) (fun y hy => by have := (hdz y hy).1; omega) x.2 (hdz x hx).2
 have htx : ∀ x ∈ g.defs, (x.2.tx g.kinds (gNm g)).length + 4 ≤ 110 * x.2.sz := fun x hx => by
  refine tx_len (fun y hy => by have := hkz y hy; omega) (fun y hy => ?_) x.2 (by rw [List.length_map]; exact (hdz x hx).2)
  obtain ⟨z, hz, rfl⟩ := List.mem_map.1 hy
  have := (hdz z hz).1; omega
 have hbd : ∀ i, (dfT g (g.defs.take i)).length ≤ 1000000 := fun i => by
  have h1 := dfT_len g (g.defs.take i) fun x hx => ⟨(hdz x (List.mem_of_mem_take hx)).1, htx x (List.mem_of_mem_take hx)⟩
  have h2 := grSz_le g.defs i
  have h3 : (g.defs.take i).length ≤ 50 := by rw [List.length_take]; omega
  have h4 : (g.defs.take i).length * 40 ≤ 50 * 40 := Nat.mul_le_mul_right _ h3
  omega
 simp only [go_sem, Int.reduceEq, Int.reduceLE, Int.reduceLT, Int.reduceToNat, Bool.not_true, List.length_map, gr_take, gr_c_len]
 refine xl_loopM hT hm (fun i : Nat × List Ob × List Ob => ⟨f13_i11 (.ref 0 0) (Defs g.defs) (.i g.defs.length) (.i i.1), i.2.2⟩)
  (fun i => i.1 ≤ g.defs.length ∧ bS PGC g.c (dfT g (g.defs.take i.1)) i.2.1 i.2.2) (fun i => g.defs.length - i.1) (0, [], _) ⟨Nat.zero_le _, .inl ⟨rfl, rfl⟩⟩ (Mv.keep (by simp [f13_i11])) ?_
 rintro ⟨i, R, om⟩ ⟨hi, hB⟩
 simp only at hi hB
 obtain ⟨a0, b0, rfl⟩ := hB.form
 simp only [go_sem, Int.reduceEq, Int.reduceLE, Int.reduceLT, Int.reduceToNat, List.length_map]
 by_cases h : i < g.defs.length
 case neg =>
  have ht : g.defs.take i = g.defs := List.take_of_length_le (by omega)
  rw [ht] at hB
  simp only [go_sem, Int.reduceEq, Int.reduceLE, Int.reduceLT, Int.reduceToNat, h]
  refine ⟨_, lenG g.c _ R _ hB, ?_⟩
  rintro _ _ ⟨rfl, rfl⟩
  by_cases hlen : 65536 < (dfT g g.defs).length
  ·rw [if_pos hlen]
   have hlen' : (65536 : Int) < ((dfT g g.defs).length : Nat) := by omega
   simp only [go_sem, Int.reduceEq, Int.reduceLE, Int.reduceLT, Int.reduceToNat, hlen']
   exact Fin.ret (.tupL (by simp))
  ·rw [if_neg hlen]
   have hlen' : ¬ (65536 : Int) < ((dfT g g.defs).length : Nat) := by omega
   simp only [go_sem, Int.reduceEq, Int.reduceLE, Int.reduceLT, Int.reduceToNat, hlen']
   refine ⟨_, strOfG g.c _ R _ hB ?_, ?_⟩
   ·obtain ⟨x, l', hx⟩ : ∃ x l', g.defs = x :: l' := by
     cases hd : g.defs with
     | nil => rw [hd] at hd1; simp at hd1
     | cons x l' => exact ⟨x, l', rfl⟩
    rw [hx, dfT]
    intro h
    have := (List.append_eq_nil_iff.1 h).1
    unfold dfL at this
    simp at this
   rintro _ om' rfl
   simp only [go_sem, Int.reduceEq, Int.reduceLE, Int.reduceLT, Int.reduceToNat]
   exact Fin.ret (.tupL ⟨.v, .v, trivial⟩)
 obtain ⟨x, hx⟩ := get_ex h
 have hmx := List.mem_of_getElem? hx
 have hwi := wrap_succ i (by omega)
 have hbi := hbd i
 have hxz := (hdz x hmx).1
 have hsz1 : x.2.sz ≤ 2000 := by have := grSz_mem hmx; omega
 have hs1 : x.1.size ≤ 9223372036854775804 := by omega
 have hs2 : x.1.size + 3 ≤ 9223372036854775807 := by omega
 have hP := hpall x hmx
 have hdl : x.1.data.toList.length = x.1.size := Array.length_toList
 have e1 : x.1 ++ ⟨#[32, 61, 32]⟩ = (⟨(x.1.data.toList ++ [32, 61, 32]).toArray⟩ : ByteArray) := by
  refine ByteArray.ext ?_
  simp [ByteArray.data_append]
 simp only [go_sem, Int.reduceEq, Int.reduceLE, Int.reduceLT, Int.reduceToNat, List.length_map, h, hx, df_0, df_len, df_take, df_put, df_drop, get_con, set_con, hs1, hs2, e1]
 have hB' : bS PGC g.c (dfT g (g.defs.take i)) (R ++ [.var 66 (dfC x)]) (.var PGC (a0 :: b0 :: g.c) :: (R ++ [.var 66 (dfC x)])) := by
  rcases hB with ⟨h1, h2⟩ | ⟨j, h1, h2⟩
  ·injection h2 with h2 _; injection h2 with _ h2; injection h2 with h3 h4; injection h4 with h4 _; subst h3; subst h4
   exact .inl ⟨h1, rfl⟩
  ·injection h2 with h2 _; injection h2 with _ h2; injection h2 with h3 h4; injection h4 with h4 _; subst h3; subst h4
   exact .inr ⟨j, by rw [List.getElem?_append_left (List.getElem?_eq_some_iff.1 h1).1]; exact h1, rfl⟩
 refine ⟨_, wrStrG g.c pageN (dfT g (g.defs.take i)) (x.1.data.toList ++ [32, 61, 32]) _ _ hB' (by omega) (by simp only [List.length_append, List.length_cons, List.length_nil]; omega), ?_⟩
 intro o om' hw
 obtain ⟨rfl, R1, r1, r2, rfl⟩ := hw
 have hR1 : R1[R.length]? = some (.var 66 (dfC x)) := (r2 R.length _ (by simp)).resolve_left (by rintro ⟨l, hl⟩; cases hl)
 have hR1l : R.length < R1.length := (List.getElem?_eq_some_iff.1 hR1).1
 have hget : (R1 ++ [byOb (dfT g (g.defs.take i) ++ (x.1.data.toList ++ [32, 61, 32]))])[R.length]? = some (.var 66 (dfC x)) := by rw [List.getElem?_append_left hR1l]; exact hR1
 have hB2 : bS PGC g.c (dfT g (g.defs.take i) ++ (x.1.data.toList ++ [32, 61, 32])) (R1 ++ [byOb (dfT g (g.defs.take i) ++ (x.1.data.toList ++ [32, 61, 32]))]) (.var PGC (.ref 0 0 :: .own (R1.length + 1) :: g.c) :: (R1 ++ [byOb (dfT g (g.defs.take i) ++ (x.1.data.toList ++ [32, 61, 32]))])) := .inr ⟨R1.length, by simp, rfl⟩
 obtain ⟨B, hBq⟩ : ∃ B, B = dfT g (g.defs.take i) ++ (x.1.data.toList ++ [32, 61, 32]) := ⟨_, rfl⟩
 have hBl : B.length = (dfT g (g.defs.take i)).length + x.1.size + 3 := by rw [hBq]; simp only [List.length_append, List.length_cons, List.length_nil]; omega
 rw [← hBq] at hget hB2 ⊢
 clear r2 hR1
 generalize R1 ++ [byOb B] = R2 at hget hB2 ⊢
 simp only [go_sem, Int.reduceEq, Int.reduceLE, Int.reduceLT, Int.reduceToNat, hget, df_drop, df_len, Cf.c_take]
 refine ⟨_, hP (.v (.slice none 0 0)) [] B R2 _ (.inr ⟨rfl, rfl⟩) (by simp) hB2 (by omega), ?_⟩
 rintro _ om3 ⟨rfl, R3, h3⟩
 rw [show brk (isIn [] x.2.kind) (x.2.tx g.kinds (g.defs.map (·.1))) = x.2.tx g.kinds (gNm g) from rfl] at h3
 have htl := htx x hmx
 have hBl2 : (B ++ x.2.tx g.kinds (gNm g)).length ≤ 10000000 := by rw [List.length_append]; omega
 obtain ⟨a3, b3, rfl⟩ := h3.form
 simp only [go_sem, Int.reduceEq, Int.reduceLE, Int.reduceLT, Int.reduceToNat]
 refine ⟨_, wrByteG g.c pageN (B ++ x.2.tx g.kinds (gNm g)) 10 R3 _ h3 (by omega), ?_⟩
 rintro _ om4 hw
 obtain ⟨rfl, R4, h4⟩ := hw.bS
 obtain ⟨a4, b4, rfl⟩ := h4.form
 simp only [go_sem, Int.reduceEq, Int.reduceLE, Int.reduceLT, Int.reduceToNat, hwi]
 refine ⟨(i + 1, R4, _), ⟨h, ?_⟩, by dsimp only; omega, Mv.keep (by simp [f13_i11, hqd])⟩
 have e : dfT g (g.defs.take (i + 1)) = B ++ x.2.tx g.kinds (gNm g) ++ [10] := by rw [dfT_at g hx, hBq]; simp [dfL]
 dsimp only
 rw [e]
 exact h4
end Go.Proofs.YtdliolbjngcgcaaGreat.W
set_option maxRecDepth 100000
namespace Go.Proofs.YtdliolbjngcgcaaGreat.W
open Go Go.Proofs Go.Proofs.YtdliolbjngcgcaaGreat.AWP
attribute [local irreducible] xl hide aop aops aopQ qops guardP condP
def s21 : ByteArray := ⟨#[115, 32, 61, 32, 97, 32, 115, 32, 98, 32, 124, 32, 40, 41, 10]⟩
def k21 : List ByteArray := [⟨#[97]⟩, ⟨#[98]⟩]
theorem GFit_may {g : Gr} (h : mayG g = true) : GFit g := by
 obtain ⟨h1, h2, h3, h4, h5, h6, h7, h8⟩ := mayG_facts h
 refine ⟨by omega, by omega, by omega, fun x hx => ?_⟩
 rcases List.mem_append.1 hx with hx | hx
 ·have := h1 x hx; omega
 ·obtain ⟨y, hy, rfl⟩ := List.mem_map.1 hx
  have := (h2 y hy).1; omega
set_option maxHeartbeats 4000000 in
theorem awake21 : AP Tryz.prog 7 [] (.b true) := by
 have e1 : (readC s21 k21).2 = (0, 0) := by decide +kernel
 have e2 : prC (readC s21 k21).1 = (s21.data.toList, 0) := by decide +kernel
 have e3 : mayG (readC s21 k21).1 = true := by decide +kernel
 have hR := cReadA s21 k21 (by decide) (by decide)
 have hF := GFit_may e3
 have hP := cPrint _ hF
 rw [e2] at hP
 have hM := cMayS [(readC s21 k21).1] (by decide) (by simpa using hF)
 have e4 : [(readC s21 k21).1].all mayG = true := by simp [e3]
 rw [e4] at hM
 have hs : (⟨s21.data.toList.toArray⟩ : ByteArray) = s21 := by simp
 generalize readC s21 k21 = p at *
 obtain ⟨g, a, b⟩ := p
 cases e1
 have c1 : (((0 : Nat) : Int) == 0) = true := rfl
 have c2 : (s21.data.toList == [115, 32, 61, 32, 97, 32, 115, 32, 98, 32, 124, 32, 40, 41, 10]) = true := by decide
 have hk : Strs k21 = .sl 1 [[.s ⟨#[97]⟩], [.s ⟨#[98]⟩]] := rfl
 refine AC.lbody hT hm Tryz.func7 f7_nm f7_lc f7_res f7_nt ?_
 simp only [go_sem, Int.reduceEq, Int.reduceLE, Int.reduceLT, Int.reduceToNat]
 refine hR.pd ⟨.v, .same (Strs_bl k21), trivial⟩ (readCD_bl _) ?_
 simp only [go_sem, Int.reduceEq, Int.reduceLE, Int.reduceLT, Int.reduceToNat, gr_take, gr_c_len]
 dsimp only at hP hM
 refine hP.pd ⟨.same (Gr.d_bl g), trivial⟩ (.tup (by simp)) ?_
 have c3 : ((⟨s21.data.toList.toArray⟩ : ByteArray).data.toList == [115, 32, 61, 32, 97, 32, 115, 32, 98, 32, 124, 32, 40, 41, 10]) = true := by rw [hs]; exact c2
 simp only [go_sem, Int.reduceEq, Int.reduceLE, Int.reduceLT, Int.reduceToNat, c1, c2, c3, gr_take, gr_c_len]
 refine hM.pv ⟨.same (Grs_bl [g]), trivial⟩ ?_
 simp only [go_sem, Int.reduceEq, Int.reduceLE, Int.reduceLT, Int.reduceToNat]
 exact Fin.v rfl
end Go.Proofs.YtdliolbjngcgcaaGreat.W
set_option maxRecDepth 100000
namespace Go.Proofs.YtdliolbjngcgcaaGreat.W
open Go Go.Proofs Go.Proofs.YtdliolbjngcgcaaGreat.AWP
attribute [local irreducible] xl hide aop aops aopQ qops guardP condP
theorem rRound (l : List UInt8) (b : Bool) (hl : l.length ≤ 1000000) : AP Tryz.prog 43 [.s ⟨l.toArray⟩, .b b] (.s ⟨(brk b l).toArray⟩) := by
 cases b with
 | false =>
  refine AC.lbody hT hm Tryz.func43 f43_nm f43_lc f43_res f43_nt ?_
  simp only [go_sem, Int.reduceEq, Int.reduceLE, Int.reduceLT, Int.reduceToNat]
  exact Fin.v rfl
 | true =>
  have s1 : (⟨#[40]⟩ : ByteArray) ++ ⟨l.toArray⟩ = ⟨(40 :: l).toArray⟩ := ba_app [40] l
  have s2 : (⟨(40 :: l).toArray⟩ : ByteArray) ++ ⟨#[41]⟩ = ⟨(40 :: (l ++ [41])).toArray⟩ := ba_app (40 :: l) [41]
  have z1 : (⟨#[40]⟩ : ByteArray).size + (⟨l.toArray⟩ : ByteArray).size ≤ 9223372036854775807 := by rw [ba_size l]; show 1 + _ ≤ _; omega
  have z2 : (⟨(40 :: l).toArray⟩ : ByteArray).size + (⟨#[41]⟩ : ByteArray).size ≤ 9223372036854775807 := by rw [ba_size (40 :: l)]; show _ + 1 ≤ _; simp only [List.length_cons]; omega
  have z3 : 1 + l.length ≤ 9223372036854775807 := by omega
  have z4 : l.length + 1 + 1 ≤ 9223372036854775807 := by omega
  refine AC.lbody hT hm Tryz.func43 f43_nm f43_lc f43_res f43_nt ?_
  simp only [go_sem, Int.reduceEq, Int.reduceLE, Int.reduceLT, Int.reduceToNat, s1, z1, s2, z2, z3, z4]
  exact Fin.v rfl
theorem stFit_cf (x : Cf) : stFit T 40 (.agg x.c) := ⟨_, _, rfl, rfl, by cases x; rw [Cf.c_mk]; rfl⟩
def txP (g : Gr) (r : Cf) : Prop := r.sz ≤ 4000 → AP Tryz.prog 16 [.agg g.c, .agg r.c] (.s ⟨(r.tx g.kinds (gNm g)).toArray⟩)
theorem txP1 (g : Gr) : txP g (.mk 1 0 []) := by
 intro _
 rw [Cf.tx_1]
 refine AC.lbody hT hm Tryz.func16 f16_nm f16_lc f16_res f16_nt ?_
 simp only [go_sem, Int.reduceEq, Int.reduceLE, Int.reduceLT, Int.reduceToNat, Cf.c_mk, Int.reduceBEq]
 exact Fin.v rfl
theorem txP2 (g : Gr) : txP g (.mk 2 0 []) := by
 intro _
 rw [Cf.tx_2]
 refine AC.lbody hT hm Tryz.func16 f16_nm f16_lc f16_res f16_nt ?_
 simp only [go_sem, Int.reduceEq, Int.reduceLE, Int.reduceLT, Int.reduceToNat, Cf.c_mk, Int.reduceBEq]
 exact Fin.v rfl
theorem txP3 (g : Gr) (n : Nat) (s : ByteArray) (hs : g.kinds[n]? = some s) : txP g (.mk 3 n []) := by
 intro _
 have hlt : n < g.kinds.length := (List.getElem?_eq_some_iff.1 hs).1
 rw [Cf.tx_3, nm_at hs, ba_back]
 refine AC.lbody hT hm Tryz.func16 f16_nm f16_lc f16_res f16_nt ?_
 simp only [go_sem, Int.reduceEq, Int.reduceLE, Int.reduceLT, Int.reduceToNat, Cf.c_mk, Int.reduceBEq, hs, str_get hs, hlt, List.length_map]
 exact Fin.v rfl
theorem txP6 (g : Gr) (n : Nat) (dx : Df) (hs : g.defs[n]? = some dx) : txP g (.mk 6 n []) := by
 intro _
 have hlt : n < g.defs.length := (List.getElem?_eq_some_iff.1 hs).1
 have hs' : (gNm g)[n]? = some dx.1 := by rw [List.getElem?_map, hs]; rfl
 rw [Cf.tx_6, nm_at hs', ba_back]
 refine AC.lbody hT hm Tryz.func16 f16_nm f16_lc f16_res f16_nt ?_
 simp only [go_sem, Int.reduceEq, Int.reduceLE, Int.reduceLT, Int.reduceToNat, Cf.c_mk, Int.reduceBEq, hs, hlt, List.length_map, df_0]
 exact Fin.v rfl
set_option maxHeartbeats 1000000 in
theorem txP4 (g : Gr) (x y : Cf) (hx : (x.tx g.kinds (gNm g)).length + 4 ≤ 110 * x.sz) (hy : (y.tx g.kinds (gNm g)).length + 4 ≤ 110 * y.sz) (ihx : txP g x) (ihy : txP g y) : txP g (.mk 4 0 [x, y]) := by
 intro hz
 rw [Cf.sz_mk, Cf.szs_cons, Cf.szs_cons, Cf.szs_nil] at hz
 have h1 := ihx (by omega)
 have h2 := ihy (by omega)
 have hq := pelG g
 rw [Cf.tx_4]
 generalize x.tx g.kinds (gNm g) = lx at *
 generalize y.tx g.kinds (gNm g) = ly at *
 have hbx := brk_lenC (isIn [4, 5] x.kind) lx
 have hby := brk_lenC (isIn [5] y.kind) ly
 have r1 := rRound lx (isIn [4, 5] x.kind) (by omega)
 have r2 := rRound ly (isIn [5] y.kind) (by omega)
 refine AC.lbody hT hm Tryz.func16 f16_nm f16_lc f16_res f16_nt ?_
 simp only [go_sem, Int.reduceEq, Int.reduceLE, Int.reduceLT, Int.reduceToNat, Cf.c_mk, Cf.cs_eq, Int.reduceBEq, Cf.c_take, ne_eq, reduceCtorEq, not_false_eq_true, implies_true]
 have c0 := Cf.c_0 x
 have c1 := Cf.c_0 y
 have i5 : (y.kind == 5) = isIn [5] y.kind := by unfold isIn; simp; rfl
 have i45 : isIn [4, 5] x.kind = ((x.kind == 4) || (x.kind == 5)) := by unfold isIn; simp; rfl
 generalize isIn [5] y.kind = by5 at *
 refine ⟨stFit_cf x, ?_⟩
 refine h1.qv ⟨.same (Gr.d_bl g), .same (Cf.d_bl x), trivial⟩ ?_
 generalize hBq : brk by5 ly = B at *
 cases k4 : (x.kind == 4) with
 | true =>
  rw [k4, Bool.true_or] at i45
  rw [i45] at r1 hbx ⊢
  generalize hAq : brk true lx = A at *
  simp only [go_sem, Int.reduceEq, Int.reduceLE, Int.reduceLT, Int.reduceToNat, c0, c1, k4, Cf.c_len, Cf.c_take]
  refine r1.qv ⟨.v, .v, trivial⟩ ?_
  have hA : A.length ≤ 9223372036854775806 := by omega
  have e1 : (⟨A.toArray⟩ : ByteArray) ++ ⟨#[32]⟩ = ⟨(A ++ [32]).toArray⟩ := ba_app A [32]
  have e2 : (⟨(A ++ [32]).toArray⟩ : ByteArray) ++ ⟨B.toArray⟩ = ⟨((A ++ [32]) ++ B).toArray⟩ := ba_app (A ++ [32]) B
  have hB : A.length + 1 + B.length ≤ 9223372036854775807 := by omega
  simp only [go_sem, Int.reduceEq, Int.reduceLE, Int.reduceLT, Int.reduceToNat, c0, c1, k4, Cf.c_len, Cf.c_take, hA, e1]
  refine h2.qv ⟨.same (Gr.d_bl g), .same (Cf.d_bl y), trivial⟩ ?_
  simp only [go_sem, Int.reduceEq, Int.reduceLE, Int.reduceLT, Int.reduceToNat, c0, c1, i5, Cf.c_len, Cf.c_take]
  refine r2.qv ⟨.v, .v, trivial⟩ ?_
  simp only [go_sem, Int.reduceEq, Int.reduceLE, Int.reduceLT, Int.reduceToNat, e2, hB]
  exact Fin.v rfl
 | false =>
  rw [k4, Bool.false_or] at i45
  rw [i45] at r1 hbx ⊢
  generalize hAq : brk (x.kind == 5) lx = A at *
  simp only [go_sem, Int.reduceEq, Int.reduceLE, Int.reduceLT, Int.reduceToNat, c0, c1, k4, Cf.c_len, Cf.c_take]
  refine r1.qv ⟨.v, .v, trivial⟩ ?_
  have hA : A.length ≤ 9223372036854775806 := by omega
  have e1 : (⟨A.toArray⟩ : ByteArray) ++ ⟨#[32]⟩ = ⟨(A ++ [32]).toArray⟩ := ba_app A [32]
  have e2 : (⟨(A ++ [32]).toArray⟩ : ByteArray) ++ ⟨B.toArray⟩ = ⟨((A ++ [32]) ++ B).toArray⟩ := ba_app (A ++ [32]) B
  have hB : A.length + 1 + B.length ≤ 9223372036854775807 := by omega
  simp only [go_sem, Int.reduceEq, Int.reduceLE, Int.reduceLT, Int.reduceToNat, c0, c1, k4, Cf.c_len, Cf.c_take, hA, e1]
  refine h2.qv ⟨.same (Gr.d_bl g), .same (Cf.d_bl y), trivial⟩ ?_
  simp only [go_sem, Int.reduceEq, Int.reduceLE, Int.reduceLT, Int.reduceToNat, c0, c1, i5, Cf.c_len, Cf.c_take]
  refine r2.qv ⟨.v, .v, trivial⟩ ?_
  simp only [go_sem, Int.reduceEq, Int.reduceLE, Int.reduceLT, Int.reduceToNat, e2, hB]
  exact Fin.v rfl
set_option maxHeartbeats 1000000 in
theorem txP5 (g : Gr) (x y : Cf) (hx : (x.tx g.kinds (gNm g)).length + 4 ≤ 110 * x.sz) (hy : (y.tx g.kinds (gNm g)).length + 4 ≤ 110 * y.sz) (ihx : txP g x) (ihy : txP g y) : txP g (.mk 5 0 [x, y]) := by
 intro hz
 rw [Cf.sz_mk, Cf.szs_cons, Cf.szs_cons, Cf.szs_nil] at hz
 have h1 := ihx (by omega)
 have h2 := ihy (by omega)
 have hq := pelG g
 rw [Cf.tx_5]
 generalize x.tx g.kinds (gNm g) = lx at *
 generalize y.tx g.kinds (gNm g) = B at *
 have hbx := brk_lenC (isIn [5] x.kind) lx
 have r1 := rRound lx (isIn [5] x.kind) (by omega)
 have c0 := Cf.c_0 x
 have i5 : (x.kind == 5) = isIn [5] x.kind := by unfold isIn; simp; rfl
 generalize isIn [5] x.kind = bx5 at *
 generalize hAq : brk bx5 lx = A at *
 have hA : A.length + 3 ≤ 9223372036854775807 := by omega
 have hA2 : A.length ≤ 9223372036854775804 := by omega
 have e1 : (⟨A.toArray⟩ : ByteArray) ++ ⟨#[32, 124, 32]⟩ = ⟨(A ++ [32, 124, 32]).toArray⟩ := ba_app A [32, 124, 32]
 have e2 : (⟨(A ++ [32, 124, 32]).toArray⟩ : ByteArray) ++ ⟨B.toArray⟩ = ⟨((A ++ [32, 124, 32]) ++ B).toArray⟩ := ba_app (A ++ [32, 124, 32]) B
 have hB : A.length + 3 + B.length ≤ 9223372036854775807 := by omega
 refine AC.lbody hT hm Tryz.func16 f16_nm f16_lc f16_res f16_nt ?_
 simp only [go_sem, Int.reduceEq, Int.reduceLE, Int.reduceLT, Int.reduceToNat, Cf.c_mk, Cf.cs_eq, Int.reduceBEq, Cf.c_take, ne_eq, reduceCtorEq, not_false_eq_true, implies_true]
 refine ⟨stFit_cf x, ?_⟩
 refine h1.qv ⟨.same (Gr.d_bl g), .same (Cf.d_bl x), trivial⟩ ?_
 simp only [go_sem, Int.reduceEq, Int.reduceLE, Int.reduceLT, Int.reduceToNat, c0, i5, Cf.c_len, Cf.c_take]
 refine r1.qv ⟨.v, .v, trivial⟩ ?_
 simp only [go_sem, Int.reduceEq, Int.reduceLE, Int.reduceLT, Int.reduceToNat, c0, i5, Cf.c_len, Cf.c_take, hA, hA2, e1]
 refine h2.qv ⟨.same (Gr.d_bl g), .same (Cf.d_bl y), trivial⟩ ?_
 simp only [go_sem, Int.reduceEq, Int.reduceLE, Int.reduceLT, Int.reduceToNat, e2, hB]
 exact Fin.v rfl
theorem txAll (g : Gr) (hK : ∀ x ∈ g.kinds, x.size ≤ 100) (hN : ∀ x ∈ g.defs, x.1.size ≤ 100) (r : Cf) (hr : r.may g.kinds.length g.defs.length = true) : txP g r := by
 have hN' : ∀ x ∈ g.defs.map (·.1), x.size ≤ 100 := by
  intro x hx
  obtain ⟨y, hy, rfl⟩ := List.mem_map.1 hx
  exact hN y hy
 have ht := tx_len hK hN'
 rw [List.length_map] at ht
 refine may_cases (txP1 g) (txP2 g) (fun n hn => ?_) (fun n hn => ?_) (fun x y hx hy => txP4 g x y (ht x hx) (ht y hy)) (fun x y hx hy => txP5 g x y (ht x hx) (ht y hy)) r hr
 ·exact txP3 g n _ (List.getElem?_eq_getElem hn)
 ·exact txP6 g n _ (List.getElem?_eq_getElem hn)
end Go.Proofs.YtdliolbjngcgcaaGreat.W
set_option maxRecDepth 100000
namespace Go.Proofs.YtdliolbjngcgcaaGreat.W
open Go Go.Proofs Go.Proofs.YtdliolbjngcgcaaGreat.AWP
attribute [local irreducible] xl hide aop aops aopQ qops guardP condP
set_option maxHeartbeats 4000000 in
theorem rPrint (g : Gr) (hmay : mayG g = true) : AP Tryz.prog 17 [.agg g.c] (.s ⟨(dfT g g.defs).toArray⟩) := by
 have hq := pelG g
 obtain ⟨hkz, hdz, hk1, hk2, hd1, hd2, hon, hsz⟩ := mayG_facts hmay
 have hpall : ∀ x ∈ g.defs, txP g x.2 := fun x hx => txAll g (fun y hy => by have := hkz y hy; omega) (fun y hy => by have := (hdz y hy).1; omega) x.2 (hdz x hx).2
 have htx : ∀ x ∈ g.defs, (x.2.tx g.kinds (gNm g)).length + 4 ≤ 110 * x.2.sz := fun x hx => by
  refine tx_len (fun y hy => by have := hkz y hy; omega) (fun y hy => ?_) x.2 (by rw [List.length_map]; exact (hdz x hx).2)
  obtain ⟨z, hz, rfl⟩ := List.mem_map.1 hy
  have := (hdz z hz).1; omega
 have hbd : ∀ i, (dfT g (g.defs.take i)).length ≤ 1000000 := fun i => by
  have h1 := dfT_len g (g.defs.take i) fun x hx => ⟨(hdz x (List.mem_of_mem_take hx)).1, htx x (List.mem_of_mem_take hx)⟩
  have h2 := grSz_le g.defs i
  have h3 : (g.defs.take i).length ≤ 50 := by rw [List.length_take]; omega
  have h4 : (g.defs.take i).length * 40 ≤ 50 * 40 := Nat.mul_le_mul_right _ h3
  omega
 refine AC.lbody hT hm Tryz.func17 f17_nm f17_lc f17_res f17_nt ?_
 simp only [go_sem, Int.reduceEq, Int.reduceLE, Int.reduceLT, Int.reduceToNat, List.length_map]
 refine xl_loopM hT hm (fun i : Nat => ⟨f17_i7 (.pel g.c) (.s ⟨(dfT g (g.defs.take i)).toArray⟩) (.i g.defs.length) (.i i), []⟩)
  (fun i => i ≤ g.defs.length) (fun i => g.defs.length - i) 0 (Nat.zero_le _) (Mv.none (by simp only [f17_i7, CvL]; simp [hq]; rfl)) ?_
 intro i hi
 simp only [go_sem, Int.reduceEq, Int.reduceLE, Int.reduceLT, Int.reduceToNat, List.length_map]
 by_cases h : i < g.defs.length
 case neg =>
  have ht : g.defs.take i = g.defs := List.take_of_length_le (by omega)
  simp only [go_sem, Int.reduceEq, Int.reduceLE, Int.reduceLT, Int.reduceToNat, h, List.length_map]
  rw [ht]
  exact Fin.v rfl
 obtain ⟨x, hx⟩ := get_ex h
 have hmx := List.mem_of_getElem? hx
 have hwi := wrap_succ i (by omega)
 have hsz1 : x.2.sz ≤ 2000 := by have := grSz_mem hmx; omega
 have hP := hpall x hmx (by omega)
 have htl := htx x hmx
 have hn := (hdz x hmx).1
 have hbi := hbd i
 have hdl : x.1.data.toList.length = x.1.size := Array.length_toList
 have ht := dfT_at g hx
 unfold dfL at ht
 generalize dfT g (g.defs.take i) = A at hbi ht ⊢
 generalize x.2.tx g.kinds (gNm g) = B at hP htl ht ⊢
 obtain ⟨C, hC⟩ : ∃ C, C = A ++ x.1.data.toList := ⟨_, rfl⟩
 have e1 : (⟨A.toArray⟩ : ByteArray) ++ x.1 = ⟨C.toArray⟩ := by
  conv => lhs; rw [← ba_back x.1]
  rw [hC]; exact ba_app A x.1.data.toList
 have hCl : C.length = A.length + x.1.size := by rw [hC, List.length_append, hdl]
 have e2 : (⟨C.toArray⟩ : ByteArray) ++ ⟨#[32, 61, 32]⟩ = ⟨(C ++ [32, 61, 32]).toArray⟩ := ba_app C [32, 61, 32]
 have e3 : (⟨(C ++ [32, 61, 32]).toArray⟩ : ByteArray) ++ ⟨B.toArray⟩ = ⟨((C ++ [32, 61, 32]) ++ B).toArray⟩ := ba_app (C ++ [32, 61, 32]) B
 obtain ⟨E, hE⟩ : ∃ E, E = (C ++ [32, 61, 32]) ++ B := ⟨_, rfl⟩
 have hEl : E.length = C.length + 3 + B.length := by rw [hE, List.length_append, List.length_append]; rfl
 rw [← hE] at e3
 have e4 : (⟨E.toArray⟩ : ByteArray) ++ ⟨#[10]⟩ = ⟨(E ++ [10]).toArray⟩ := ba_app E [10]
 have z1 : A.length + x.1.size ≤ 9223372036854775807 := by omega
 have z2 : C.length + 3 ≤ 9223372036854775807 := by omega
 have z2' : C.length ≤ 9223372036854775804 := by omega
 have z3 : C.length + 3 + B.length ≤ 9223372036854775807 := by omega
 have z4 : E.length ≤ 9223372036854775806 := by omega
 have z4' : E.length + 1 ≤ 9223372036854775807 := by omega
 simp only [go_sem, Int.reduceEq, Int.reduceLE, Int.reduceLT, Int.reduceToNat, h, hx, List.length_map, df_0, df_drop, df_len, Cf.c_take, gr_take, gr_c_len, e1, e2, z1, z2, z2']
 refine hP.qv ⟨.same (Gr.d_bl g), .same (Cf.d_bl _), trivial⟩ ?_
 simp only [go_sem, Int.reduceEq, Int.reduceLE, Int.reduceLT, Int.reduceToNat, e3, e4, z3, z4, z4', hwi]
 have e : dfT g (g.defs.take (i + 1)) = E ++ [10] := by rw [ht, hE, hC]; simp
 exact ⟨i + 1, h, by omega, Mv.none (by rw [e]; simp only [CvL]; simp [hq])⟩
theorem tx_ne {K N : List ByteArray} (hK : ∀ x ∈ K, 1 ≤ x.size) (hN : ∀ x ∈ N, 1 ≤ x.size) : ∀ r : Cf, r.may K.length N.length = true → r.tx K N ≠ [] := by
 have hnm : ∀ (L : List ByteArray), (∀ x ∈ L, 1 ≤ x.size) → ∀ n : Nat, n < L.length → (L.getD n ⟨#[]⟩).data.toList ≠ [] := by
  intro L hL n hn h
  rw [List.getD_eq_getElem?_getD, List.getElem?_eq_getElem hn, Option.getD_some] at h
  have h1 := hL _ (List.getElem_mem hn)
  have h2 : L[n].data.toList.length = L[n].size := Array.length_toList
  rw [h] at h2
  simp at h2
  omega
 refine may_cases ?_ ?_ ?_ ?_ ?_ ?_
 ·rw [Cf.tx_1]; simp
 ·rw [Cf.tx_2]; simp
 ·intro n hn
  rw [Cf.tx_3, Int.toNat_natCast]; exact hnm K hK n hn
 ·intro n hn
  rw [Cf.tx_6, Int.toNat_natCast]; exact hnm N hN n hn
 ·intro x y _ _ hx hy
  rw [Cf.tx_4]; simp
 ·intro x y _ _ hx hy
  rw [Cf.tx_5]; simp
def fitsB (g : Gr) (c : Cf) : Bool := mayG g && (c.may g.kinds.length g.defs.length && decide (c.sz ≤ 2000))
def textC (g : Gr) (c : Cf) : List UInt8 := if fitsB g c = true then c.tx g.kinds (gNm g) else []
theorem names_pos {g : Gr} (h : mayG g = true) : (∀ x ∈ g.kinds, 1 ≤ x.size) ∧ ∀ x ∈ gNm g, 1 ≤ x.size := by
 have hon := (mayG_facts h).2.2.2.2.2.2.1
 have hn : ∀ x ∈ grNms g, 1 ≤ x.size := by
  intro x hx
  unfold onceB at hon
  rw [Bool.and_eq_true, List.all_eq_true] at hon
  have := hon.1 x hx
  unfold nameB at this
  simp only [Bool.and_eq_true, decide_eq_true_eq] at this
  exact this.2.1
 exact ⟨fun x hx => hn x (List.mem_append.2 (.inl hx)), fun x hx => hn x (List.mem_append.2 (.inr hx))⟩
set_option maxHeartbeats 2000000 in
theorem cText (g : Gr) (c : Cf) (hg : GFit g) (hc : c.sz ≤ 1099511627776) : AP Tryz.prog 19 [.agg g.c, .agg c.c] (txC (textC g c)) := by
 have hF := cFits g c hg hc
 unfold textC fitsB
 refine AC.lbody hT hm Tryz.func19 f19_nm f19_lc f19_res f19_nt ?_
 simp only [go_sem, Int.reduceEq, Int.reduceLE, Int.reduceLT, Int.reduceToNat, gr_take, gr_c_len, Cf.c_take]
 refine hF.pv ⟨.same (Gr.d_bl g), .same (one_blC _), trivial⟩ ?_
 cases hf : (mayG g && (c.may g.kinds.length g.defs.length && decide (c.sz ≤ 2000))) with
 | false =>
  simp only [go_sem, Int.reduceEq, Int.reduceLE, Int.reduceLT, Int.reduceToNat, Bool.not_false]
  exact Fin.v rfl
 | true =>
 rw [if_pos rfl]
 simp only [Bool.and_eq_true, decide_eq_true_eq] at hf
 obtain ⟨hm1, hm2, hm3⟩ := hf
 obtain ⟨hkz, hdz, _⟩ := mayG_facts hm1
 have hP := putAll g (fun y hy => by have := hkz y hy; omega) (fun y hy => by have := (hdz y hy).1; omega) c hm2
 have hne := tx_ne (names_pos hm1).1 (names_pos hm1).2 c (by rw [List.length_map]; exact hm2)
 simp only [go_sem, Int.reduceEq, Int.reduceLE, Int.reduceLT, Int.reduceToNat, Bool.not_true, gr_take, gr_c_len, Cf.c_take]
 refine ⟨_, hP (.v (.slice none 0 0)) [] [] [] _ (.inr ⟨rfl, rfl⟩) (by simp) (.inl ⟨rfl, rfl⟩) (by simp; omega), ?_⟩
 rintro _ om3 ⟨rfl, R3, h3⟩
 rw [List.nil_append, show brk (isIn [] c.kind) (c.tx g.kinds (g.defs.map (·.1))) = c.tx g.kinds (gNm g) from rfl] at h3
 obtain ⟨a3, b3, rfl⟩ := h3.form
 simp only [go_sem, Int.reduceEq, Int.reduceLE, Int.reduceLT, Int.reduceToNat]
 refine ⟨_, strOfG g.c _ R3 _ h3 hne, ?_⟩
 rintro _ om' rfl
 simp only [go_sem, Int.reduceEq, Int.reduceLE, Int.reduceLT, Int.reduceToNat]
 exact Fin.v rfl
end Go.Proofs.YtdliolbjngcgcaaGreat.W
set_option maxRecDepth 100000
namespace Go.Proofs.YtdliolbjngcgcaaGreat.W
open Go Go.Proofs Go.Proofs.YtdliolbjngcgcaaGreat.AWP
attribute [local irreducible] xl hide aop aops aopQ qops guardP condP
def greatD (x : Df) : Bool := decide (100 < x.1.size) || decide (60 < x.2.cnt 60)
def greatB (g : Gr) : Bool := decide (12 < g.kinds.length) || (decide (12 < g.defs.length) || ((g.kinds.any fun x => decide (100 < x.size)) || g.defs.any greatD))
theorem any_drop {α : Type} {p : α → Bool} {l : List α} {i : Nat} {x : α} (h : l[i]? = some x) : (l.drop i).any p = (p x || (l.drop (i + 1)).any p) := by rw [drop_get h, List.any_cons]
set_option maxHeartbeats 2000000 in
theorem rGreat (g : Gr) : AP Tryz.prog 11 [.agg g.c] (.b (greatB g)) := by
 have hq := pelG g
 unfold greatB
 refine AC.lbody hT hm Tryz.func11 f11_nm f11_lc f11_res f11_nt ?_
 simp only [go_sem, Int.reduceEq, Int.reduceLE, Int.reduceLT, Int.reduceToNat, List.length_map]
 by_cases h1 : 12 < g.kinds.length
 ·have h1' : (12 : Int) < g.kinds.length := by omega
  simp only [go_sem, Int.reduceEq, Int.reduceLE, Int.reduceLT, Int.reduceToNat, h1', List.length_map]
  exact Fin.v (by rw [decide_eq_true h1, Bool.true_or])
 have h1' : ¬ (12 : Int) < g.kinds.length := by omega
 by_cases h2 : 12 < g.defs.length
 ·have h2' : (12 : Int) < g.defs.length := by omega
  simp only [go_sem, Int.reduceEq, Int.reduceLE, Int.reduceLT, Int.reduceToNat, h1', h2', List.length_map]
  exact Fin.v (by rw [decide_eq_true h2, Bool.true_or, Bool.or_true])
 have h2' : ¬ (12 : Int) < g.defs.length := by omega
 rw [decide_eq_false h1, decide_eq_false h2, Bool.false_or, Bool.false_or]
 simp only [go_sem, Int.reduceEq, Int.reduceLE, Int.reduceLT, Int.reduceToNat, h1', h2', List.length_map]
 refine xl_loopM hT hm (fun i : Nat => ⟨f11_i9 (.pel g.c) (.i g.kinds.length) (.i i), []⟩)
  (fun i => i ≤ g.kinds.length ∧ (g.kinds.any fun x => decide (100 < x.size)) = (g.kinds.drop i).any fun x => decide (100 < x.size)) (fun i => g.kinds.length - i) 0 ⟨Nat.zero_le _, rfl⟩ (Mv.none (by simp only [f11_i9, CvL]; simp [hq])) ?_
 rintro i ⟨hi, hn⟩
 simp only [go_sem, Int.reduceEq, Int.reduceLE, Int.reduceLT, Int.reduceToNat, List.length_map]
 by_cases h : i < g.kinds.length
 ·obtain ⟨x, hx⟩ := get_ex h
  have hwi := wrap_succ i (by omega)
  have hst := any_drop (p := fun x : ByteArray => decide (100 < x.size)) hx
  by_cases h3 : 100 < x.size
  ·have h3' : (100 : Int) < x.size := by omega
   simp only [go_sem, Int.reduceEq, Int.reduceLE, Int.reduceLT, Int.reduceToNat, h, hx, str_get hx, h3', List.length_map]
   exact Fin.v (by rw [hn, hst, decide_eq_true h3, Bool.true_or, Bool.true_or])
  ·have h3' : ¬ (100 : Int) < x.size := by omega
   simp only [go_sem, Int.reduceEq, Int.reduceLE, Int.reduceLT, Int.reduceToNat, h, hx, str_get hx, h3', List.length_map, hwi]
   exact ⟨i + 1, ⟨h, by rw [hn, hst, decide_eq_false h3, Bool.false_or]⟩, by omega, Mv.none (by simp only [CvL]; simp [hq])⟩
 have e1 : (g.kinds.any fun x => decide (100 < x.size)) = false := by rw [hn, drop_end h]; rfl
 rw [e1, Bool.false_or]
 simp only [go_sem, Int.reduceEq, Int.reduceLE, Int.reduceLT, Int.reduceToNat, h, List.length_map]
 clear h hi hn
 refine xl_loopM hT hm (fun i : Nat => ⟨f11_i16 (.pel g.c) (.i g.defs.length) (.i i), []⟩)
  (fun i => i ≤ g.defs.length ∧ g.defs.any greatD = (g.defs.drop i).any greatD) (fun i => g.defs.length - i) 0 ⟨Nat.zero_le _, rfl⟩ (Mv.none (by simp only [f11_i16, CvL]; simp [hq])) ?_
 rintro i ⟨hi, hn⟩
 simp only [go_sem, Int.reduceEq, Int.reduceLE, Int.reduceLT, Int.reduceToNat, List.length_map]
 by_cases h : i < g.defs.length
 ·obtain ⟨x, hx⟩ := get_ex h
  have hwi := wrap_succ i (by omega)
  have hst := any_drop (p := greatD) hx
  by_cases h3 : 100 < x.1.size
  ·have h3' : (100 : Int) < x.1.size := by omega
   simp only [go_sem, Int.reduceEq, Int.reduceLE, Int.reduceLT, Int.reduceToNat, h, hx, df_0, h3', List.length_map]
   exact Fin.v (by rw [hn, hst]; unfold greatD; rw [decide_eq_true h3, Bool.true_or, Bool.true_or])
  ·have h3' : ¬ (100 : Int) < x.1.size := by omega
   simp only [go_sem, Int.reduceEq, Int.reduceLE, Int.reduceLT, Int.reduceToNat, h, hx, df_0, df_drop, df_len, h3', List.length_map, Cf.c_take]
   refine (rCount 60 x.2).pv ⟨.same (Cf.d_bl _), .v, trivial⟩ ?_
   by_cases h4 : 60 < x.2.cnt 60
   ·simp only [go_sem, Int.reduceEq, Int.reduceLE, Int.reduceLT, Int.reduceToNat, h4]
    exact Fin.v (by rw [hn, hst]; unfold greatD; rw [decide_eq_true h4, Bool.or_true, Bool.true_or])
   ·simp only [go_sem, Int.reduceEq, Int.reduceLE, Int.reduceLT, Int.reduceToNat, h4, hwi]
    exact ⟨i + 1, ⟨h, by rw [hn, hst]; unfold greatD; rw [decide_eq_false h3, decide_eq_false h4]; rfl⟩, by omega, Mv.none (by simp only [CvL]; simp [hq])⟩
 have e2 : g.defs.any greatD = false := by rw [hn, drop_end h]; rfl
 simp only [go_sem, Int.reduceEq, Int.reduceLE, Int.reduceLT, Int.reduceToNat, h, List.length_map]
 exact Fin.v (by rw [e2])
end Go.Proofs.YtdliolbjngcgcaaGreat.W
set_option maxRecDepth 100000
namespace Go.Proofs.YtdliolbjngcgcaaGreat.W
open Go Go.Proofs Go.Proofs.YtdliolbjngcgcaaGreat.AWP
attribute [local irreducible] xl hide aop aops aopQ qops guardP condP
theorem tx_len30 {K N : List ByteArray} (hK : ∀ x ∈ K, x.size ≤ 30) (hN : ∀ x ∈ N, x.size ≤ 30) : ∀ r : Cf, r.may K.length N.length = true → (r.tx K N).length + 4 ≤ 40 * r.sz := by
 have hnm : ∀ (L : List ByteArray), (∀ x ∈ L, x.size ≤ 30) → ∀ n : Nat, n < L.length → (L.getD n ⟨#[]⟩).data.toList.length ≤ 30 := by
  intro L hL n hn
  rw [List.getD_eq_getElem?_getD, List.getElem?_eq_getElem hn, Option.getD_some, Array.length_toList]
  exact hL _ (List.getElem_mem hn)
 have two : ∀ (k : Int) (x y : Cf), (Cf.mk k 0 [x, y]).sz = 1 + (x.sz + y.sz) := fun k x y => by rw [Cf.sz_mk, Cf.szs_cons, Cf.szs_cons, Cf.szs_nil]; omega
 have one : ∀ (k n : Int), (Cf.mk k n []).sz = 1 := fun k n => by rw [Cf.sz_mk, Cf.szs_nil]
 refine may_cases ?_ ?_ ?_ ?_ ?_ ?_
 ·rw [Cf.tx_1, one]; decide
 ·rw [Cf.tx_2, one]; decide
 ·intro n hn
  have := hnm K hK n hn
  rw [Cf.tx_3, one, Int.toNat_natCast]; omega
 ·intro n hn
  have := hnm N hN n hn
  rw [Cf.tx_6, one, Int.toNat_natCast]; omega
 ·intro x y _ _ hx hy
  have h1 := brk_lenC (isIn [4, 5] x.kind) (x.tx K N)
  have h2 := brk_lenC (isIn [5] y.kind) (y.tx K N)
  rw [Cf.tx_4, two, List.length_append, List.length_cons]; omega
 ·intro x y _ _ hx hy
  have h1 := brk_lenC (isIn [5] x.kind) (x.tx K N)
  rw [Cf.tx_5, two, List.length_append, List.length_cons, List.length_cons, List.length_cons]; omega
theorem dfT_len30 (g : Gr) : ∀ (l : List Df), (∀ x ∈ l, x.1.size ≤ 30 ∧ (x.2.tx g.kinds (gNm g)).length + 4 ≤ 40 * x.2.sz) → (dfT g l).length ≤ l.length * 40 + 40 * grSz l
 | [], _ => by simp [dfT]
 | x :: l, h => by
  have h1 := h x (by simp)
  have h2 := dfT_len30 g l fun y hy => h y (by simp [hy])
  have h4 : x.1.data.toList.length = x.1.size := Array.length_toList
  have h5 : grSz (x :: l) = x.2.sz + grSz l := by unfold grSz; rw [List.map_cons, Cf.szs_cons]
  rw [dfT, List.length_append, h5, List.length_cons, Nat.add_mul]
  unfold dfL
  simp only [List.length_append, List.length_cons, List.length_nil]
  omega
theorem great_fit {g : Gr} (h : greatB g = false) (hz : ∀ x ∈ g.defs, x.2.sz ≤ 1099511627776) : GFit g ∧ g.kinds.length ≤ 12 ∧ g.defs.length ≤ 12 ∧ (∀ x ∈ g.kinds, x.size ≤ 100) ∧ (∀ x ∈ g.defs, x.1.size ≤ 100 ∧ x.2.sz ≤ 60) ∧ grSz g.defs ≤ 720 := by
 unfold greatB at h
 simp only [Bool.or_eq_false_iff, decide_eq_false_iff_not] at h
 obtain ⟨h1, h2, h3, h4⟩ := h
 have hk : ∀ x ∈ g.kinds, x.size ≤ 100 := by
  intro x hx
  have := List.any_eq_false.1 h3 x hx
  simp only [decide_eq_true_eq] at this
  omega
 have hd : ∀ x ∈ g.defs, x.1.size ≤ 100 ∧ x.2.sz ≤ 60 := by
  intro x hx
  have := List.any_eq_false.1 h4 x hx
  unfold greatD at this
  simp only [Bool.or_eq_true, decide_eq_true_eq, not_or] at this
  have hc := Cf.cnt_ok 60 x.2 (hz x hx)
  have := hc.1 (by omega)
  exact ⟨by omega, by omega⟩
 have hs := grSz_le_of fun x hx => (hd x hx).2
 have hs2 : g.defs.length * 60 ≤ 12 * 60 := Nat.mul_le_mul_right _ (by omega)
 refine ⟨⟨by omega, by omega, by omega, fun x hx => ?_⟩, by omega, by omega, hk, hd, by omega⟩
 rcases List.mem_append.1 hx with hx | hx
 ·have := hk x hx; omega
 ·obtain ⟨y, hy, rfl⟩ := List.mem_map.1 hx
  have := (hd y hy).1; omega
theorem prC_fit {g : Gr} (hm : mayG g = true) (hs : grSz g.defs ≤ 720) (hd : g.defs.length ≤ 12) : prC g = (dfT g g.defs, 0) := by
 obtain ⟨hkz, hdz, _⟩ := mayG_facts hm
 have hN : ∀ x ∈ gNm g, x.size ≤ 30 := by
  intro x hx
  obtain ⟨y, hy, rfl⟩ := List.mem_map.1 hx
  exact (hdz y hy).1
 have hlen := dfT_len30 g g.defs fun x hx => ⟨(hdz x hx).1, tx_len30 hkz hN x.2 (by rw [List.length_map]; exact (hdz x hx).2)⟩
 unfold prC
 rw [hm, if_neg (by simp), if_neg]
 have : g.defs.length * 40 ≤ 12 * 40 := Nat.mul_le_mul_right _ hd
 omega
end Go.Proofs.YtdliolbjngcgcaaGreat.W
set_option maxRecDepth 100000
namespace Go.Proofs.YtdliolbjngcgcaaGreat.W
open Go Go.Proofs Go.Proofs.YtdliolbjngcgcaaGreat.AWP
attribute [local irreducible] xl hide aop aops aopQ qops guardP condP
theorem all_take {α : Type} {p : α → Bool} {l : List α} {i : Nat} {x : α} (h : l[i]? = some x) : (l.take (i + 1)).all p = ((l.take i).all p && p x) := by
 rw [List.take_add_one, h, List.all_append]; simp
theorem gr_put (ty : Nat) (a : List D) (ha : a.length = 2) (g : Gr) : obPut (.var ty a) 0 g.c = some (.var ty g.c) := by
 rw [obPut_var (by simp [ha]), splc_all (by simp [ha])]
set_option maxHeartbeats 16000000 in
theorem cfxMaysL (l : List Gr) (c : Cf) (hc : c.sz ≤ 1099511627776) (hl : ∀ g ∈ l, ∀ x ∈ g.defs, x.2.sz ≤ 1099511627776) : AP Tryz.prog 5 [Grs l, .agg c.c] (.b true) := by
 have hq : ∀ om (F : Nat → Bool) (kk : List (Option Nat)), Cv om F kk (Grs l) (Grs l) := fun om F kk => .same (Grs_bl l)
 have hqc : ∀ om (F : Nat → Bool) (kk : List (Option Nat)), Cv om F kk (.pel c.c) (.pel c.c) := fun om F kk => .same (Cf.pel_bl c)
 refine AC.lbody hT hm Tryz.func5 f5_nm f5_lc f5_res f5_nt ?_
 simp only [go_sem, Int.reduceEq, Int.reduceLE, Int.reduceLT, Int.reduceToNat, List.length_map]
 by_cases h5 : 5 < l.length
 ·have h5' : (5 : Int) < l.length := by omega
  simp only [go_sem, Int.reduceEq, Int.reduceLE, Int.reduceLT, Int.reduceToNat, h5', List.length_map]
  refine awake21.pv (by simp) ?_
  simp only [go_sem, Int.reduceEq, Int.reduceLE, Int.reduceLT, Int.reduceToNat]
  exact Fin.v rfl
 have h5' : ¬ (5 : Int) < l.length := by omega
 simp only [go_sem, Int.reduceEq, Int.reduceLE, Int.reduceLT, Int.reduceToNat, h5', List.length_map, Cf.c_take]
 refine (rWide c).pv ⟨.same (Cf.d_bl c), trivial⟩ ?_
 cases hw : wide21B c with
 | true =>
  simp only [go_sem, Int.reduceEq, Int.reduceLE, Int.reduceLT, Int.reduceToNat]
  refine awake21.pv (by simp) ?_
  simp only [go_sem, Int.reduceEq, Int.reduceLE, Int.reduceLT, Int.reduceToNat]
  exact Fin.v rfl
 | false =>
 simp only [go_sem, Int.reduceEq, Int.reduceLE, Int.reduceLT, Int.reduceToNat]
 refine xl_loopM hT hm (fun i : Nat => ⟨f5_i23 (Grs l) (.pel c.c) (.b ((l.take i).all mayG)) (.i i), []⟩)
  (fun i => i ≤ l.length ∧ ∀ g ∈ l.take i, GFit g) (fun i => l.length - i) 0 ⟨Nat.zero_le _, by simp⟩ (Mv.none (by simp only [f5_i23, CvL]; simp [hq, hqc])) ?_
 rintro i ⟨hi, hgf⟩
 simp only [go_sem, Int.reduceEq, Int.reduceLE, Int.reduceLT, Int.reduceToNat, List.length_map]
 by_cases h : i < l.length
 case neg =>
  have ht : l.take i = l := List.take_of_length_le (by omega)
  rw [ht] at hgf ⊢
  simp only [go_sem, Int.reduceEq, Int.reduceLE, Int.reduceLT, Int.reduceToNat, h, List.length_map]
  refine (cMayS l (by omega) hgf).pv ⟨hq _ _ _, trivial⟩ ?_
  have e : ((l.all mayG) == (l.all mayG)) = true := by simp
  simp only [go_sem, Int.reduceEq, Int.reduceLE, Int.reduceLT, Int.reduceToNat, e]
  refine awake21.pv (by simp) ?_
  simp only [go_sem, Int.reduceEq, Int.reduceLE, Int.reduceLT, Int.reduceToNat]
  exact Fin.v rfl
 obtain ⟨g, hg⟩ := get_ex h
 have hgm := List.mem_of_getElem? hg
 have hwi := wrap_succ i (by omega)
 have hat := all_take (p := mayG) hg
 simp only [go_sem, Int.reduceEq, Int.reduceLE, Int.reduceLT, Int.reduceToNat, h, hg, grs_get hg, List.length_map, gr_c_len, gr_take, gr_put]
 refine (rGreat g).pv ⟨.same (Gr.d_bl g), trivial⟩ ?_
 cases hgr : greatB g with
 | true =>
  simp only [go_sem, Int.reduceEq, Int.reduceLE, Int.reduceLT, Int.reduceToNat]
  refine awake21.pv (by simp) ?_
  simp only [go_sem, Int.reduceEq, Int.reduceLE, Int.reduceLT, Int.reduceToNat]
  exact Fin.v rfl
 | false =>
 obtain ⟨hF, hk, hd, hkz, hdz, hsz⟩ := great_fit hgr (hl g hgm)
 simp only [go_sem, Int.reduceEq, Int.reduceLE, Int.reduceLT, Int.reduceToNat, gr_c_len, gr_take]
 refine (rMayG g hF.nodes hF.kinds hF.defs).pv ⟨.same (Gr.d_bl g), trivial⟩ ?_
 have hgf' : ∀ x ∈ l.take (i + 1), GFit x := by
  intro x hx
  rw [List.take_add_one, hg] at hx
  rcases List.mem_append.1 hx with hx | hx
  ·exact hgf x hx
  ·simp at hx; rw [hx]; exact hF
 have hwant : ((l.take i).all mayG && mayG g) = (l.take (i + 1)).all mayG := hat.symm
 have hFi := rFits g c hF.nodes hF.kinds hF.defs hc
 have hCF := cFits g c hF hc
 have hCP := cPrint g hF
 have hCT := cText g c hF hc
 have hfe : (mayG g && (c.may g.kinds.length g.defs.length && decide (c.sz ≤ 2000))) = fitsB g c := rfl
 rw [hfe] at hFi hCF
 generalize hW : (l.take i).all mayG = want at hwant
 have htx : fitsB g c = true → AP Tryz.prog 16 [.agg g.c, .agg c.c] (txC (textC g c)) := by
  intro hf
  unfold textC
  rw [if_pos hf]
  unfold fitsB at hf
  simp only [Bool.and_eq_true, decide_eq_true_eq] at hf
  exact txAll g hkz (fun x hx => (hdz x hx).1) c hf.2.1 (by omega)
 have htn : fitsB g c = false → textC g c = [] := fun hf => by unfold textC; rw [hf]; rfl
 have bne1 : ∀ b : Bool, (b != b) = false := by intro b; cases b <;> rfl
 have bne2 : ∀ x : List UInt8, ((⟨x.toArray⟩ : ByteArray).data.toList != (⟨x.toArray⟩ : ByteArray).data.toList) = false := fun x => by simp
 have bne3 : ∀ x : List UInt8, (x != x) = false := fun x => by simp
 have bne4 : ∀ x : Int, (x != x) = false := fun x => by simp
 have bneT : (true != true) = false := rfl
 have bneF' : (false != false) = false := rfl
 cases hm : mayG g with
 | true =>
  have hPr := prC_fit hm hsz hd
  rw [hPr] at hCP
  rw [hm, Bool.and_true] at hwant
  cases hwv : want with
  | true =>
   rw [hwv] at hwant
   simp only [go_sem, Int.reduceEq, Int.reduceLE, Int.reduceLT, Int.reduceToNat, gr_c_len, gr_take, Cf.c_take, hwi, Bool.not_true, Bool.not_false, bneT, bneF', bne4]
   refine hFi.pv ⟨.same (Gr.d_bl g), .same (Cf.d_bl c), trivial⟩ ?_
   cases hf : fitsB g c with
   | true =>
    rw [hf] at hCF
    simp only [go_sem, Int.reduceEq, Int.reduceLE, Int.reduceLT, Int.reduceToNat, gr_c_len, gr_take, Cf.c_take, hwi, Bool.not_true, Bool.not_false, bneT, bneF', bne4]
    refine (htx hf).pv ⟨.same (Gr.d_bl g), .same (Cf.d_bl c), trivial⟩ ?_
    simp only [go_sem, Int.reduceEq, Int.reduceLE, Int.reduceLT, Int.reduceToNat, gr_c_len, gr_take, Cf.c_take, hwi, Bool.not_true, Bool.not_false, bneT, bneF', bne4]
    refine (rPrint g hm).pv ⟨.same (Gr.d_bl g), trivial⟩ ?_
    simp only [go_sem, Int.reduceEq, Int.reduceLE, Int.reduceLT, Int.reduceToNat, gr_c_len, gr_take, Cf.c_take, hwi, Bool.not_true, Bool.not_false, bneT, bneF', bne4]
    refine hCP.pd ⟨.same (Gr.d_bl g), trivial⟩ (.tup (by simp)) ?_
    simp only [go_sem, Int.reduceEq, Int.reduceLE, Int.reduceLT, Int.reduceToNat, gr_c_len, gr_take, Cf.c_take, hwi, Bool.not_true, Bool.not_false, bneT, bneF', bne4]
    refine hCF.pv ⟨.same (Gr.d_bl g), .same (one_blC c), trivial⟩ ?_
    simp only [go_sem, Int.reduceEq, Int.reduceLE, Int.reduceLT, Int.reduceToNat, gr_c_len, gr_take, Cf.c_take, hwi, Bool.not_true, Bool.not_false, bneT, bneF', bne4]
    refine hCT.pv ⟨.same (Gr.d_bl g), .same (Cf.d_bl c), trivial⟩ ?_
    simp only [go_sem, Int.reduceEq, Int.reduceLE, Int.reduceLT, Int.reduceToNat, gr_c_len, gr_take, Cf.c_take, hwi, Bool.not_true, Bool.not_false, bneT, bneF', bne4, bne2, bne3]
    exact ⟨i + 1, ⟨h, hgf'⟩, by omega, Mv.none (by rw [← hwant]; simp only [CvL]; simp [hq, hqc])⟩
   | false =>
    rw [hf] at hCF
    rw [htn hf] at hCT
    simp only [go_sem, Int.reduceEq, Int.reduceLE, Int.reduceLT, Int.reduceToNat, gr_c_len, gr_take, Cf.c_take, hwi, Bool.not_true, Bool.not_false, bneT, bneF', bne4]
    refine (rPrint g hm).pv ⟨.same (Gr.d_bl g), trivial⟩ ?_
    simp only [go_sem, Int.reduceEq, Int.reduceLE, Int.reduceLT, Int.reduceToNat, gr_c_len, gr_take, Cf.c_take, hwi, Bool.not_true, Bool.not_false, bneT, bneF', bne4]
    refine hCP.pd ⟨.same (Gr.d_bl g), trivial⟩ (.tup (by simp)) ?_
    simp only [go_sem, Int.reduceEq, Int.reduceLE, Int.reduceLT, Int.reduceToNat, gr_c_len, gr_take, Cf.c_take, hwi, Bool.not_true, Bool.not_false, bneT, bneF', bne4]
    refine hCF.pv ⟨.same (Gr.d_bl g), .same (one_blC c), trivial⟩ ?_
    simp only [go_sem, Int.reduceEq, Int.reduceLE, Int.reduceLT, Int.reduceToNat, gr_c_len, gr_take, Cf.c_take, hwi, Bool.not_true, Bool.not_false, bneT, bneF', bne4]
    refine hCT.pv ⟨.same (Gr.d_bl g), .same (Cf.d_bl c), trivial⟩ ?_
    simp only [go_sem, Int.reduceEq, Int.reduceLE, Int.reduceLT, Int.reduceToNat, gr_c_len, gr_take, Cf.c_take, hwi, Bool.not_true, Bool.not_false, bneT, bneF', bne4, bne2, bne3]
    exact ⟨i + 1, ⟨h, hgf'⟩, by omega, Mv.none (by rw [← hwant]; simp only [CvL]; simp [hq, hqc])⟩
  | false =>
   rw [hwv] at hwant
   simp only [go_sem, Int.reduceEq, Int.reduceLE, Int.reduceLT, Int.reduceToNat, gr_c_len, gr_take, Cf.c_take, hwi, Bool.not_true, Bool.not_false, bneT, bneF', bne4]
   refine hFi.pv ⟨.same (Gr.d_bl g), .same (Cf.d_bl c), trivial⟩ ?_
   cases hf : fitsB g c with
   | true =>
    rw [hf] at hCF
    simp only [go_sem, Int.reduceEq, Int.reduceLE, Int.reduceLT, Int.reduceToNat, gr_c_len, gr_take, Cf.c_take, hwi, Bool.not_true, Bool.not_false, bneT, bneF', bne4]
    refine (htx hf).pv ⟨.same (Gr.d_bl g), .same (Cf.d_bl c), trivial⟩ ?_
    simp only [go_sem, Int.reduceEq, Int.reduceLE, Int.reduceLT, Int.reduceToNat, gr_c_len, gr_take, Cf.c_take, hwi, Bool.not_true, Bool.not_false, bneT, bneF', bne4]
    refine (rPrint g hm).pv ⟨.same (Gr.d_bl g), trivial⟩ ?_
    simp only [go_sem, Int.reduceEq, Int.reduceLE, Int.reduceLT, Int.reduceToNat, gr_c_len, gr_take, Cf.c_take, hwi, Bool.not_true, Bool.not_false, bneT, bneF', bne4]
    refine hCP.pd ⟨.same (Gr.d_bl g), trivial⟩ (.tup (by simp)) ?_
    simp only [go_sem, Int.reduceEq, Int.reduceLE, Int.reduceLT, Int.reduceToNat, gr_c_len, gr_take, Cf.c_take, hwi, Bool.not_true, Bool.not_false, bneT, bneF', bne4]
    refine hCF.pv ⟨.same (Gr.d_bl g), .same (one_blC c), trivial⟩ ?_
    simp only [go_sem, Int.reduceEq, Int.reduceLE, Int.reduceLT, Int.reduceToNat, gr_c_len, gr_take, Cf.c_take, hwi, Bool.not_true, Bool.not_false, bneT, bneF', bne4]
    refine hCT.pv ⟨.same (Gr.d_bl g), .same (Cf.d_bl c), trivial⟩ ?_
    simp only [go_sem, Int.reduceEq, Int.reduceLE, Int.reduceLT, Int.reduceToNat, gr_c_len, gr_take, Cf.c_take, hwi, Bool.not_true, Bool.not_false, bneT, bneF', bne4, bne2, bne3]
    exact ⟨i + 1, ⟨h, hgf'⟩, by omega, Mv.none (by rw [← hwant]; simp only [CvL]; simp [hq, hqc])⟩
   | false =>
    rw [hf] at hCF
    rw [htn hf] at hCT
    simp only [go_sem, Int.reduceEq, Int.reduceLE, Int.reduceLT, Int.reduceToNat, gr_c_len, gr_take, Cf.c_take, hwi, Bool.not_true, Bool.not_false, bneT, bneF', bne4]
    refine (rPrint g hm).pv ⟨.same (Gr.d_bl g), trivial⟩ ?_
    simp only [go_sem, Int.reduceEq, Int.reduceLE, Int.reduceLT, Int.reduceToNat, gr_c_len, gr_take, Cf.c_take, hwi, Bool.not_true, Bool.not_false, bneT, bneF', bne4]
    refine hCP.pd ⟨.same (Gr.d_bl g), trivial⟩ (.tup (by simp)) ?_
    simp only [go_sem, Int.reduceEq, Int.reduceLE, Int.reduceLT, Int.reduceToNat, gr_c_len, gr_take, Cf.c_take, hwi, Bool.not_true, Bool.not_false, bneT, bneF', bne4]
    refine hCF.pv ⟨.same (Gr.d_bl g), .same (one_blC c), trivial⟩ ?_
    simp only [go_sem, Int.reduceEq, Int.reduceLE, Int.reduceLT, Int.reduceToNat, gr_c_len, gr_take, Cf.c_take, hwi, Bool.not_true, Bool.not_false, bneT, bneF', bne4]
    refine hCT.pv ⟨.same (Gr.d_bl g), .same (Cf.d_bl c), trivial⟩ ?_
    simp only [go_sem, Int.reduceEq, Int.reduceLE, Int.reduceLT, Int.reduceToNat, gr_c_len, gr_take, Cf.c_take, hwi, Bool.not_true, Bool.not_false, bneT, bneF', bne4, bne2, bne3]
    exact ⟨i + 1, ⟨h, hgf'⟩, by omega, Mv.none (by rw [← hwant]; simp only [CvL]; simp [hq, hqc])⟩
 | false =>
  have hPr : prC g = ([], 1) := by unfold prC; rw [hm]; rfl
  rw [hPr] at hCP
  have hf : fitsB g c = false := by unfold fitsB; rw [hm]; rfl
  rw [hf] at hFi hCF
  rw [htn hf] at hCT
  rw [hm, Bool.and_false] at hwant
  cases hwv : want with
  | true =>
   simp only [go_sem, Int.reduceEq, Int.reduceLE, Int.reduceLT, Int.reduceToNat, gr_c_len, gr_take, Cf.c_take, hwi, Bool.not_true, Bool.not_false, bneT, bneF', bne4]
   refine hFi.pv ⟨.same (Gr.d_bl g), .same (Cf.d_bl c), trivial⟩ ?_
   simp only [go_sem, Int.reduceEq, Int.reduceLE, Int.reduceLT, Int.reduceToNat, gr_c_len, gr_take, Cf.c_take, hwi, Bool.not_true, Bool.not_false, bneT, bneF', bne4]
   refine hCP.pd ⟨.same (Gr.d_bl g), trivial⟩ (.tup (by simp)) ?_
   simp only [go_sem, Int.reduceEq, Int.reduceLE, Int.reduceLT, Int.reduceToNat, gr_c_len, gr_take, Cf.c_take, hwi, Bool.not_true, Bool.not_false, bneT, bneF', bne4]
   refine hCF.pv ⟨.same (Gr.d_bl g), .same (one_blC c), trivial⟩ ?_
   simp only [go_sem, Int.reduceEq, Int.reduceLE, Int.reduceLT, Int.reduceToNat, gr_c_len, gr_take, Cf.c_take, hwi, Bool.not_true, Bool.not_false, bneT, bneF', bne4]
   refine hCT.pv ⟨.same (Gr.d_bl g), .same (Cf.d_bl c), trivial⟩ ?_
   simp only [go_sem, Int.reduceEq, Int.reduceLE, Int.reduceLT, Int.reduceToNat, gr_c_len, gr_take, Cf.c_take, hwi, Bool.not_true, Bool.not_false, bneT, bneF', bne4, bne2, bne3]
   exact ⟨i + 1, ⟨h, hgf'⟩, by omega, Mv.none (by rw [← hwant]; simp only [CvL]; simp [hq, hqc])⟩
  | false =>
   simp only [go_sem, Int.reduceEq, Int.reduceLE, Int.reduceLT, Int.reduceToNat, gr_c_len, gr_take, Cf.c_take, hwi, Bool.not_true, Bool.not_false, bneT, bneF', bne4]
   refine hFi.pv ⟨.same (Gr.d_bl g), .same (Cf.d_bl c), trivial⟩ ?_
   simp only [go_sem, Int.reduceEq, Int.reduceLE, Int.reduceLT, Int.reduceToNat, gr_c_len, gr_take, Cf.c_take, hwi, Bool.not_true, Bool.not_false, bneT, bneF', bne4]
   refine hCP.pd ⟨.same (Gr.d_bl g), trivial⟩ (.tup (by simp)) ?_
   simp only [go_sem, Int.reduceEq, Int.reduceLE, Int.reduceLT, Int.reduceToNat, gr_c_len, gr_take, Cf.c_take, hwi, Bool.not_true, Bool.not_false, bneT, bneF', bne4]
   refine hCF.pv ⟨.same (Gr.d_bl g), .same (one_blC c), trivial⟩ ?_
   simp only [go_sem, Int.reduceEq, Int.reduceLE, Int.reduceLT, Int.reduceToNat, gr_c_len, gr_take, Cf.c_take, hwi, Bool.not_true, Bool.not_false, bneT, bneF', bne4]
   refine hCT.pv ⟨.same (Gr.d_bl g), .same (Cf.d_bl c), trivial⟩ ?_
   simp only [go_sem, Int.reduceEq, Int.reduceLE, Int.reduceLT, Int.reduceToNat, gr_c_len, gr_take, Cf.c_take, hwi, Bool.not_true, Bool.not_false, bneT, bneF', bne4, bne2, bne3]
   exact ⟨i + 1, ⟨h, hgf'⟩, by omega, Mv.none (by rw [← hwant]; simp only [CvL]; simp [hq, hqc])⟩
end Go.Proofs.YtdliolbjngcgcaaGreat.W
set_option maxRecDepth 100000
namespace Go.Proofs.YtdliolbjngcgcaaGreat.W
open Go Go.Proofs Go.Proofs.YtdliolbjngcgcaaGreat.AWP Go.Proofs.YtdliolbjngcgcaaGreat
open Go.ChangeShapes Go.WideShapes Go.ChangeAt Go.RowKit
theorem cU8c : Tryz.prog.cellsOf 5 = 1 := by kernel_rfl
theorem cIntc : Tryz.prog.cellsOf 3 = 1 := by kernel_rfl
theorem cStrc : Tryz.prog.cellsOf 9 = 1 := by kernel_rfl
theorem cCfsc : Tryz.prog.cellsOf 38 = 1 := by kernel_rfl
theorem cCfc : Tryz.prog.cellsOf 40 = 3 := by kernel_rfl
theorem cfT : ∃ f0 f1 f2 : Field, Tryz.prog.underlying 40 = some (.struct #[f0, f1, f2]) ∧ (f0.type = 5 ∧ f0.offset = 0) ∧ (f1.type = 3 ∧ f1.offset = 1) ∧ (f2.type = 38 ∧ f2.offset = 1 + 1) :=
 ⟨_, _, _, Tryz.underlying40, ⟨rfl, rfl⟩, ⟨rfl, rfl⟩, ⟨rfl, rfl⟩⟩
theorem bulk_slice {H : Type} : ∀ (ds : List (DataW H)) (l : List Cf), ds.length = l.length → (∀ (i : Nat) (a : Cf) (d : DataW H), l[i]? = some a → ds[i]? = some d → a.sz ≤ Rows.uptoBulk d) → Cf.szs l ≤ Rows.uptoBulkAll ds
 | [], [], _, _ => by rw [Cf.szs_nil]; exact Nat.zero_le _
 | d :: ds, x :: l, hl, h => by
  have h1 := h 0 x d rfl rfl
  have h2 := bulk_slice ds l (by simpa using hl) fun i a e ha he => h (i + 1) a e (by simpa using ha) (by simpa using he)
  rw [Cf.szs_cons, Rows.uptoBulkAll]; omega
 | [], x :: l, hl, _ => by simp at hl
 | d :: ds, [], hl, _ => by simp at hl
theorem cf_readB {H : Type} {enc : TypeId × Value → H} {W : World} {sp : Nat → Bool} {hd : Bool} : ∀ (n : Nat) (cs : List Value) (x : DataW H × List MemPlace), DataW.trod enc Tryz.prog W 0 sp hd n 40 cs = some x → ∃ r : Cf, CellsL (envAt W) cs r.c ∧ r.sz ≤ Rows.uptoBulk x.1 := by
 intro n
 induction n using Nat.strongRecOn with
 | _ n ih =>
  intro cs x hx
  obtain ⟨k, m, l, d, d', d2, h1, h2, h3, h4, h5⟩ := struct3_read (c := fun k : Int => [D.v (.int .u8 k)]) (c' := fun k : Int => [D.v (.int .i64 k)]) (c2 := fun l : List Cf => [Cfs l]) (k0 := 1) (k1 := 1) (k2 := 1) cfT cU8c cIntc cCfsc cCfc (fun _ _ => True) (fun _ _ => True) (fun l d => Cf.szs l ≤ Rows.uptoBulk d)
   (fun m hm cs x hx => by obtain ⟨z, _, h, _⟩ := int_read Tryz.underlying5 hx; exact ⟨z, h, trivial⟩)
   (fun m hm cs x hx => by obtain ⟨z, _, h, _⟩ := int_read Tryz.underlying3 hx; exact ⟨z, h, trivial⟩)
   (fun m hm cs x hx => by
    obtain ⟨l, y, e1, e2, e3, e4⟩ := slice_read (c := Cf.c) (sz := 3) Tryz.underlying38 cCfc (by decide) Cf.c_len (fun r d => r.sz ≤ Rows.uptoBulk d) (n := m) (fun m' hm' cs x hx => ih m' (by omega) cs x hx) hx
    refine ⟨l, ?_, ?_⟩
    ·rw [e1]
     refine CellsL.one e2 ?_
     show Rd _ (.sl 3 (Cf.cs l)) y
     rw [Cf.cs_eq]; exact e3
    ·rcases e4 with ⟨rfl, _⟩ | ⟨ds, rest, e5, e6, e7⟩
     ·rw [Cf.szs_nil]; exact Nat.zero_le _
     ·have := bulk_slice ds l e6 e7
      rw [e5, Rows.uptoBulk]; omega) hx
  refine ⟨.mk k m l, by rw [Cf.c_mk]; exact h1, ?_⟩
  rw [h2, Cf.sz_mk, Rows.uptoBulk, Rows.uptoBulkAll, Rows.uptoBulkAll, Rows.uptoBulkAll, Rows.uptoBulkAll]
  omega
end Go.Proofs.YtdliolbjngcgcaaGreat.W
set_option maxRecDepth 100000
namespace Go.Proofs.YtdliolbjngcgcaaGreat.W
open Go Go.Proofs Go.Proofs.YtdliolbjngcgcaaGreat.AWP Go.Proofs.YtdliolbjngcgcaaGreat
open Go.ChangeShapes Go.WideShapes Go.ChangeAt Go.RowKit
theorem cDefc : Tryz.prog.cellsOf 66 = 4 := by kernel_rfl
theorem cStrsc : Tryz.prog.cellsOf 22 = 1 := by kernel_rfl
theorem cDefsc : Tryz.prog.cellsOf 24 = 1 := by kernel_rfl
theorem cGrc : Tryz.prog.cellsOf 26 = 2 := by kernel_rfl
theorem dfTy : ∃ f0 f1 : Field, Tryz.prog.underlying 66 = some (.struct #[f0, f1]) ∧ (f0.type = 9 ∧ f0.offset = 0) ∧ (f1.type = 40 ∧ f1.offset = 1) :=
 ⟨_, _, Tryz.underlying66, ⟨rfl, rfl⟩, ⟨rfl, rfl⟩⟩
theorem grTy : ∃ f0 f1 : Field, Tryz.prog.underlying 26 = some (.struct #[f0, f1]) ∧ (f0.type = 22 ∧ f0.offset = 0) ∧ (f1.type = 24 ∧ f1.offset = 1) :=
 ⟨_, _, Tryz.underlying26, ⟨rfl, rfl⟩, ⟨rfl, rfl⟩⟩
theorem bulk_mem {H : Type} : ∀ {ds : List (DataW H)} {d : DataW H}, d ∈ ds → Rows.uptoBulk d ≤ Rows.uptoBulkAll ds
 | e :: ds, d, h => by
  rw [Rows.uptoBulkAll]
  rcases List.mem_cons.1 h with rfl | h
  ·omega
  ·have := bulk_mem h; omega
section
variable {H : Type} {enc : TypeId × Value → H} {W : World} {sp : Nat → Bool} {hd : Bool}
theorem df_read {n : Nat} {cs : List Value} {x : DataW H × List MemPlace} (hx : DataW.trod enc Tryz.prog W 0 sp hd n 66 cs = some x) : ∃ r : Df, CellsL (envAt W) cs (dfC r) ∧ r.2.sz ≤ Rows.uptoBulk x.1 := by
 obtain ⟨s, r, d, d', h1, h2, _, h4⟩ := struct2_read (c := fun s : ByteArray => [D.s s]) (c' := Cf.c) (k0 := 1) (k1 := 3) dfTy cStrc cCfc cDefc (fun _ _ => True) (fun r d => r.sz ≤ Rows.uptoBulk d)
  (fun m hm cs x hx => by obtain ⟨s, h, _⟩ := str_read Tryz.underlying9 hx; exact ⟨s, h, trivial⟩)
  (fun m hm cs x hx => cf_readB m cs x hx) hx
 refine ⟨(s, r), h1, ?_⟩
 rw [h2, Rows.uptoBulk, Rows.uptoBulkAll, Rows.uptoBulkAll, Rows.uptoBulkAll]
 dsimp only
 omega
theorem gr_read {n : Nat} {cs : List Value} {x : DataW H × List MemPlace} (hx : DataW.trod enc Tryz.prog W 0 sp hd n 26 cs = some x) : ∃ g : Gr, CellsL (envAt W) cs g.c ∧ ∀ y ∈ g.defs, y.2.sz ≤ Rows.uptoBulk x.1 := by
 obtain ⟨ks, dl, d, d', h1, h2, _, h4⟩ := struct2_read (c := fun l : List ByteArray => [Strs l]) (c' := fun l : List Df => [Defs l]) (k0 := 1) (k1 := 1) grTy cStrsc cDefsc cGrc (fun _ _ => True) (fun l d => ∀ y ∈ l, y.2.sz ≤ Rows.uptoBulk d)
  (fun m hm cs x hx => by
   obtain ⟨l, y, e1, e2, e3, _⟩ := slice_read (c := fun s : ByteArray => [D.s s]) (sz := 1) Tryz.underlying22 cStrc (by decide) (fun _ => rfl) (fun _ _ => True) (fun m hm cs x hx => by
    obtain ⟨s, h, _⟩ := str_read Tryz.underlying9 hx; exact ⟨s, h, trivial⟩) hx
   exact ⟨l, by rw [e1]; exact CellsL.one e2 e3, trivial⟩)
  (fun m hm cs x hx => by
   obtain ⟨l, y, e1, e2, e3, e4⟩ := slice_read (c := dfC) (sz := 4) Tryz.underlying24 cDefc (by decide) df_len (fun r d => r.2.sz ≤ Rows.uptoBulk d) (fun m' hm' cs x hx => df_read hx) hx
   refine ⟨l, by rw [e1]; exact CellsL.one e2 e3, fun z hz => ?_⟩
   rcases e4 with ⟨rfl, _⟩ | ⟨ds, rest, e5, e6, e7⟩
   ·cases hz
   ·obtain ⟨j, hj⟩ := List.getElem?_of_mem hz
    have hjl : j < ds.length := by rw [e6]; exact (List.getElem?_eq_some_iff.1 hj).1
    have h8 := e7 j z _ hj (List.getElem?_eq_getElem hjl)
    have h9 := bulk_mem (List.getElem_mem hjl)
    rw [e5, Rows.uptoBulk]; omega) hx
 refine ⟨⟨ks, dl⟩, h1, fun y hy => ?_⟩
 have := h4 y hy
 rw [h2, Rows.uptoBulk, Rows.uptoBulkAll, Rows.uptoBulkAll, Rows.uptoBulkAll]
 omega
theorem grs_argB {v : Value} {d : DataW H} {p : List MemPlace} (hv : v.cells = #[v]) (h : DataW.Trod enc Tryz.prog W 0 sp hd 37 v d p) : ∃ l : List Gr, Rd (envAt W) (Grs l) v ∧ ∀ g ∈ l, ∀ x ∈ g.defs, x.2.sz ≤ Rows.uptoBulk d := by
 obtain ⟨n, hn⟩ := h
 rw [hv] at hn
 obtain ⟨l, y, h1, h2, h3, h4⟩ := slice_read (c := Gr.c) (sz := 2) Tryz.underlying37 cGrc (by decide) (fun _ => rfl) (fun g d => ∀ x ∈ g.defs, x.2.sz ≤ Rows.uptoBulk d) (n := n) (fun m hm cs x hx => gr_read hx) hn
 simp only [List.cons.injEq, and_true] at h1
 refine ⟨l, h1 ▸ h3, fun g hg x hx => ?_⟩
 rcases h4 with ⟨rfl, _⟩ | ⟨ds, rest, e5, e6, e7⟩
 ·cases hg
 ·obtain ⟨j, hj⟩ := List.getElem?_of_mem hg
  have hjl : j < ds.length := by rw [e6]; exact (List.getElem?_eq_some_iff.1 hj).1
  have h8 := e7 j g _ hj (List.getElem?_eq_getElem hjl) x hx
  have h9 := bulk_mem (List.getElem_mem hjl)
  have e5' : d = .slice ds rest := e5
  rw [e5', Rows.uptoBulk]; omega
theorem cf_argB {v : Value} {d : DataW H} {p : List MemPlace} (h : DataW.Trod enc Tryz.prog W 0 sp hd 40 v d p) : ∃ r : Cf, Rd (envAt W) (.agg r.c) v ∧ r.sz ≤ Rows.uptoBulk d := by
 obtain ⟨n, hn⟩ := h
 obtain ⟨r, h1, h2⟩ := cf_readB n _ _ hn
 exact ⟨r, agg_arg (agg_of h1 (by simp)) h1, h2⟩
end
section
variable {H : Type} {enc : TypeId × Value → H} {W : World} {sp : Nat → Bool} {hd : Bool}
theorem gr_argB {v : Value} {d : DataW H} {p : List MemPlace} (h : DataW.Trod enc Tryz.prog W 0 sp hd 26 v d p) : ∃ g : Gr, Rd (envAt W) (.agg g.c) v ∧ ∀ y ∈ g.defs, y.2.sz ≤ Rows.uptoBulk d := by
 obtain ⟨n, hn⟩ := h
 obtain ⟨g, h1, h2⟩ := gr_read hn
 exact ⟨g, agg_arg (agg_of h1 (by simp)) h1, h2⟩
end
end Go.Proofs.YtdliolbjngcgcaaGreat.W
