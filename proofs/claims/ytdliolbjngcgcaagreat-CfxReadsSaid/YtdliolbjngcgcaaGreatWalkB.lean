/- The law: the grammar of any text. -/
import Derived.Test.YtdliolbjngcgcaaGreatWalkA
import Derived.Test.YtdliolbjngcgcaaGreatLogicC
import Derived.Lib.IndexBytes
import Derived.Lib.CutLaws
import Derived.Test.YtdliolbjngcgcaaGreatMathC
set_option linter.unusedVariables false
set_option linter.unusedSimpArgs false
set_option linter.unusedSectionVars false
set_option maxRecDepth 100000
/- The document's reader of a grammar's text: atoms. -/
namespace Go.Proofs.YtdliolbjngcgcaaGreat.W
open Go Go.Proofs Go.Proofs.YtdliolbjngcgcaaGreat.AWP
attribute [local irreducible] xl hide aop aops aopQ qops guardP condP
/-- What is read, its place, the error's number. -/
abbrev Pd (r : Cf) (q e : Nat) : List D := r.c ++ [.i q, .i e]
abbrev crP : CR → List D
  | .ok r q => Pd r q 0
  | .bad q e => Pd (.mk 0 0 []) q e
theorem Pd_len (r : Cf) (q e : Nat) : (Pd r q e).length = 5 := by simp
theorem Pd_bl (r : Cf) (q e : Nat) : ∀ d ∈ Pd r q e, Bl 0 d := by
  intro d hd
  rcases List.mem_append.1 hd with h | h
  · exact Cf.c_bl r d h
  · simp only [List.mem_cons, List.not_mem_nil, or_false] at h
    rcases h with rfl | rfl <;> exact .v _
theorem Pd_agg (r : Cf) (q e : Nat) : Bl 0 (.agg (Pd r q e)) := .agg (Pd_bl r q e)
theorem Pd_3 (r : Cf) (q e : Nat) : (Pd r q e)[3]? = some (.i q) := by rw [List.getElem?_append_right (by simp), Cf.c_len]; rfl
theorem Pd_4 (r : Cf) (q e : Nat) : (Pd r q e)[4]? = some (.i e) := by rw [List.getElem?_append_right (by simp), Cf.c_len]; rfl
theorem Pd_take (r : Cf) (q e : Nat) : (Pd r q e).take 3 = r.c := by rw [List.take_append_of_le_length (by simp)]; simp
theorem Pd_all (r : Cf) (q e : Nat) : (Pd r q e).take 5 = Pd r q e := List.take_of_length_le (by simp)
theorem Pd_put (ty : Nat) (a : List D) (ha : a.length = 5) (r : Cf) (q e : Nat) : obPut (.var ty a) 0 (Pd r q e) = some (.var ty (Pd r q e)) := by
  rw [obPut_var (by simp [ha]), splc_all (by simp [ha])]
theorem tk3 (r : Cf) (L : List D) : List.take 3 (r.c ++ L) = r.c := by rw [List.take_append_of_le_length (by simp)]; simp
theorem dr4 (r : Cf) (a b : D) : List.drop 4 (r.c ++ [a, b]) = [b] := by rw [List.drop_append, Cf.c_len, List.drop_eq_nil_of_le (by simp)]; rfl
abbrev zP : List D := [.v (.int .u8 0), .v (.int .i64 0), .v (.slice Option.none 0 0), .v (.int .i64 0), .v (.int .i64 0)]
theorem Pd_bare (k n : Int) (q e : Nat) : Pd (.mk k n []) q e = [.v (.int .u8 k), .v (.int .i64 n), .sl 3 [], .i q, .i e] := by unfold Pd; rw [bare_c]; rfl
section
variable {ks ds : List ByteArray} {s : ByteArray}
/-- The arguments of the document's reader. -/
abbrev rdA (ks ds : List ByteArray) (s : ByteArray) (p : Nat) : List D := [.s s, .i p, Strs ks, Strs ds]
theorem cvA {om : List Ob} {F : Nat → Bool} {kk : List (Option Nat)} (p : Nat) : CvL om F kk (rdA ks ds s p) (rdA ks ds s p) := ⟨.v, .v, .same (Strs_bl ks), .same (Strs_bl ds), trivial⟩
set_option maxHeartbeats 16000000 in
theorem rAtom (A : Nat → CR) (p : Nat) (hs : s.size ≤ 65536) (hp : p ≤ 1000000) (hk : ks.length ≤ 1000000) (hd : ds.length ≤ 1000000) (hA : FwdC A s) (hB : BadC A)
    (HA : ∀ q, skipB s p < q → q ≤ s.size → ∀ q', skipB s p < q' → q' ≤ s.size → skipB s q' = skipB s q → AP Tryz.prog 65 (rdA ks ds s q') (.agg (crP (A q)))) :
    AP Tryz.prog 103 (rdA ks ds s p) (.agg (crP (atomP ks ds A s p))) := by
  have hqk : ∀ om (F : Nat → Bool) (kk : List (Option Nat)), Cv om F kk (Strs ks) (Strs ks) := fun om F kk => .same (Strs_bl ks)
  have hqd : ∀ om (F : Nat → Bool) (kk : List (Option Nat)), Cv om F kk (Strs ds) (Strs ds) := fun om F kk => .same (Strs_bl ds)
  unfold atomP
  refine AC.lbody hT hm Tryz.func103 f103_nm f103_lc f103_res f103_nt ?_
  simp only [go_sem, Int.reduceEq, Int.reduceLE, Int.reduceLT, Int.reduceToNat]
  refine (rSkip p hs hp).pv ⟨.v, .v, trivial⟩ ?_
  have hi := skipB_idem s p
  have hx0 : skipB s p ≤ 1000000 := by
    by_cases h : p ≤ s.size
    · have := skipB_le h; omega
    · rw [skipB_eq, if_neg (by omega)]; exact hp
  revert HA
  generalize skipB s p = x at hi hx0
  intro HA
  simp only [go_sem, Int.reduceEq, Int.reduceLE, Int.reduceLT, Int.reduceToNat]
  refine (rIs 91 x hs hx0).pv ⟨.v, .v, .v, trivial⟩ ?_
  rw [show (91 : UInt8).toNat = 91 from rfl, hi]
  cases h1 : byB s x 91
  case true =>
    have lt := byB_lt h1
    have hw := wrap_succ x (by omega)
    have hsl := skipB_le (s := s) (show x + 1 ≤ s.size from lt)
    have hsk := le_skipB s (x + 1)
    have hR := rSkip (x + 1) hs (by omega)
    unfold atomQ
    simp only [go_sem, Int.reduceEq, Int.reduceLE, Int.reduceLT, Int.reduceToNat, hw]
    refine (rIs 93 (x + 1) hs (by omega)).pv ⟨.v, .v, .v, trivial⟩ ?_
    rw [show (93 : UInt8).toNat = 93 from rfl, if_pos h1]
    generalize skipB s (x + 1) = y at *
    cases h2 : byB s y 93
    · simp only [go_sem, Int.reduceEq, Int.reduceLE, Int.reduceLT, Int.reduceToNat, Bool.not_false, hw]
      refine hR.pv ⟨.v, .v, trivial⟩ ?_
      simp only [go_sem, Int.reduceEq, Int.reduceLE, Int.reduceLT, Int.reduceToNat]
      exact Fin.ret (by show Cv _ _ _ _ (.agg (Pd _ _ _)); rw [Pd_bare]; exact .aggL (by simp [CvL]))
    · have lt2 := byB_lt h2
      have hw2 := wrap_succ y (by omega)
      simp only [go_sem, Int.reduceEq, Int.reduceLE, Int.reduceLT, Int.reduceToNat, Bool.not_true, hw]
      refine hR.pv ⟨.v, .v, trivial⟩ ?_
      simp only [go_sem, Int.reduceEq, Int.reduceLE, Int.reduceLT, Int.reduceToNat, hw2]
      exact Fin.ret (by show Cv _ _ _ _ (.agg (Pd _ _ _)); rw [Pd_bare]; exact .aggL (by simp [CvL]))
  simp only [go_sem, Int.reduceEq, Int.reduceLE, Int.reduceLT, Int.reduceToNat]
  refine (rIs 40 x hs hx0).pv ⟨.v, .v, .v, trivial⟩ ?_
  rw [show (40 : UInt8).toNat = 40 from rfl, hi]
  cases h2 : byB s x 40
  case true =>
    have lt := byB_lt h2
    have hw := wrap_succ x (by omega)
    have hsl := skipB_le (s := s) (show x + 1 ≤ s.size from lt)
    have hsk := le_skipB s (x + 1)
    have hR := rSkip (x + 1) hs (by omega)
    have HA' := HA (skipB s (x + 1)) (by omega) hsl (x + 1) (by omega) lt (skipB_idem s (x + 1)).symm
    unfold atomQ
    simp only [go_sem, Int.reduceEq, Int.reduceLE, Int.reduceLT, Int.reduceToNat, hw]
    refine (rIs 41 (x + 1) hs (by omega)).pv ⟨.v, .v, .v, trivial⟩ ?_
    rw [show (41 : UInt8).toNat = 41 from rfl, if_neg (by rw [h1]; simp), if_pos h2]
    generalize skipB s (x + 1) = y at *
    cases h3 : byB s y 41
    case true =>
      have lt2 := byB_lt h3
      have hw2 := wrap_succ y (by omega)
      simp only [go_sem, Int.reduceEq, Int.reduceLE, Int.reduceLT, Int.reduceToNat, hw]
      refine hR.pv ⟨.v, .v, trivial⟩ ?_
      simp only [go_sem, Int.reduceEq, Int.reduceLE, Int.reduceLT, Int.reduceToNat, hw2]
      exact Fin.ret (by show Cv _ _ _ _ (.agg (Pd _ _ _)); rw [Pd_bare]; exact .aggL (by simp [CvL]))
    simp only [go_sem, Int.reduceEq, Int.reduceLE, Int.reduceLT, Int.reduceToNat, hw]
    refine HA'.pd (cvA _) (.agg (by cases A y <;> exact Pd_bl _ _ _)) ?_
    have hzp : ∀ (r : Cf) (q e : Nat), obPut (.var 72 zP) 0 (Pd r q e) = some (.var 72 (Pd r q e)) := fun r q e => Pd_put _ _ rfl r q e
    cases hc : A y
    case bad q e =>
      have he := (hB hc).1
      have e0 : ((e : Int) != 0) = true := by simp; omega
      simp only [go_sem, Int.reduceEq, Int.reduceLE, Int.reduceLT, Int.reduceToNat, hzp, Pd_4, Pd_len, Pd_all, e0]
      exact Fin.ret (.same (Pd_agg _ _ _))
    rename_i r q
    have hq := hA hc
    have e0 : (((0 : Nat) : Int) != 0) = false := rfl
    have hR2 := rSkip q hs (by omega)
    simp only [go_sem, Int.reduceEq, Int.reduceLE, Int.reduceLT, Int.reduceToNat, hzp, Pd_4, Pd_len, Pd_all, e0, Pd_3]
    refine (rIs 41 q hs (by omega)).pv ⟨.v, .v, .v, trivial⟩ ?_
    rw [show (41 : UInt8).toNat = 41 from rfl]
    have hsl2 := skipB_le hq.2
    generalize skipB s q = z at *
    cases h4 : byB s z 41
    · simp only [go_sem, Int.reduceEq, Int.reduceLE, Int.reduceLT, Int.reduceToNat, Bool.not_false, Pd_len, Pd_3]
      refine hR2.pv ⟨.v, .v, trivial⟩ ?_
      simp only [go_sem, Int.reduceEq, Int.reduceLE, Int.reduceLT, Int.reduceToNat]
      exact Fin.ret (by show Cv _ _ _ _ (.agg (Pd _ _ _)); rw [Pd_bare]; exact .aggL (by simp [CvL]))
    · have lt4 := byB_lt h4
      have hw4 := wrap_succ z (by omega)
      simp only [go_sem, Int.reduceEq, Int.reduceLE, Int.reduceLT, Int.reduceToNat, Bool.not_true, Pd_len, Pd_3, Pd_take]
      refine hR2.qv ⟨.v, .v, trivial⟩ ?_
      simp only [go_sem, Int.reduceEq, Int.reduceLE, Int.reduceLT, Int.reduceToNat, hw4, tk3, dr4, Nat.reduceAdd, List.length_cons, List.length_nil, hzp]
      rw [show List.take 5 (r.c ++ [.v (.int .i64 ((z + 1 : Nat) : Int)), .v (.int .i64 0)]) = Pd r (z + 1) 0 from Pd_all r (z + 1) 0]
      exact Fin.ret (.same (Pd_agg _ _ _))
  simp only [go_sem, Int.reduceEq, Int.reduceLE, Int.reduceLT, Int.reduceToNat]
  refine (rBegins x hs hx0).pv ⟨.v, .v, trivial⟩ ?_
  rw [atomQ_name h1 h2, hi]
  unfold nameQ
  cases h3 : lowB s x
  · simp only [go_sem, Int.reduceEq, Int.reduceLE, Int.reduceLT, Int.reduceToNat, Bool.not_false]
    exact Fin.ret (by show Cv _ _ _ _ (.agg (Pd _ _ _)); rw [Pd_bare]; exact .aggL (by simp [CvL]))
  have hxs := lowB_lt h3
  simp only [go_sem, Int.reduceEq, Int.reduceLE, Int.reduceLT, Int.reduceToNat, Bool.not_true]
  refine xl_loopM hT hm (fun i : Nat => ⟨f103_i20 (.s s) (.i x) (Strs ks) (Strs ds) (.ref 0 0) (.i i), [.var 72 zP]⟩)
    (fun i => x ≤ i ∧ i ≤ s.size ∧ nameTo s i = nameTo s x) (fun i => s.size - i) x ⟨Nat.le_refl _, Nat.le_of_lt hxs, rfl⟩ ?_ ?_
  · exact Mv.of [some 0] rfl ⟨.varS rfl (by simp), trivial⟩ (by simp only [f103_i20, CvL]; simp [hqk, hqd])
  rintro i ⟨hxi, hil, hn⟩
  simp only [go_sem, Int.reduceEq, Int.reduceLE, Int.reduceLT, Int.reduceToNat]
  by_cases h : i < s.size
  case neg =>
    rw [nameTo_eq, if_neg (fun hh => h hh.1)] at hn
    have hle : i ≤ s.size := hil
    rw [← hn]
    generalize hw : s.extract x i = w
    simp only [go_sem, Int.reduceEq, Int.reduceLE, Int.reduceLT, Int.reduceToNat, h]
    refine xl_loopM hT hm (fun j : Nat => ⟨f103_i27 (.s s) (.i x) (Strs ks) (Strs ds) (.ref 0 0) (.i i) (.i ks.length) (.i j), [.var 72 zP]⟩)
      (fun j => j ≤ ks.length ∧ ∀ (j' : Nat) (y : ByteArray), j' < j → ks[j']? = some y → decide (w = y) = false) (fun j => ks.length - j) 0 ⟨Nat.zero_le _, fun _ _ h => by omega⟩ ?_ ?_
    · exact Mv.of [some 0] rfl ⟨.varS rfl (by simp), trivial⟩ (by simp only [f103_i27, CvL]; simp [hqk, hqd])
    rintro j ⟨hj, hnj⟩
    simp only [go_sem, Int.reduceEq, Int.reduceLE, Int.reduceLT, Int.reduceToNat, List.length_map]
    by_cases hlt : j < ks.length
    · obtain ⟨y, hy⟩ := get_ex hlt
      have hwj := wrap_succ j (by omega)
      simp only [go_sem, Int.reduceEq, Int.reduceLE, Int.reduceLT, Int.reduceToNat, hlt, hy, str_get hy, List.length_map, hxi, hle, hw, str_eqb]
      cases he : decide (w = y)
      · have he' : decide (y = w) = false := by rw [← he, decide_eq_decide]; exact eq_comm
        simp only [go_sem, Int.reduceEq, Int.reduceLE, Int.reduceLT, Int.reduceToNat, he', hwj]
        refine ⟨j + 1, ⟨hlt, fun j' y' h' hy' => ?_⟩, by omega, Mv.of [some 0] rfl ⟨.varS rfl (by simp), trivial⟩ (by simp only [f103_i27, CvL]; simp [hqk, hqd])⟩
        rcases Nat.lt_succ_iff_lt_or_eq.1 h' with h' | rfl
        · exact hnj j' y' h' hy'
        · rw [hy] at hy'; cases hy'; exact he
      · have he' : decide (y = w) = true := by rw [← he, decide_eq_decide]; exact eq_comm
        have hnm : nmI ks w = j := by rw [← nmI_eq]; exact idx_some hy he hnj
        simp only [go_sem, Int.reduceEq, Int.reduceLE, Int.reduceLT, Int.reduceToNat, he', hnm, Int.natCast_nonneg]
        exact Fin.ret (by show Cv _ _ _ _ (.agg (Pd _ _ _)); rw [Pd_bare]; exact .aggL (by simp [CvL]))
    have hnm : nmI ks w = -1 := by
      rw [← nmI_eq]
      refine idx_none fun j' y h => hnj j' y ?_ h
      have := (List.getElem?_eq_some_iff.1 h).1
      omega
    have hn1 : ¬ (0 : Int) ≤ -1 := by omega
    simp only [go_sem, Int.reduceEq, Int.reduceLE, Int.reduceLT, Int.reduceToNat, hlt, List.length_map, hnm, hn1]
    clear hnj hnm hlt hj
    refine xl_loopM hT hm (fun j : Nat => ⟨f103_i34 (.s s) (.i x) (Strs ds) (.ref 0 0) (.i i) (.i ds.length) (.i j), [.var 72 zP]⟩)
      (fun j => j ≤ ds.length ∧ ∀ (j' : Nat) (y : ByteArray), j' < j → ds[j']? = some y → decide (w = y) = false) (fun j => ds.length - j) 0 ⟨Nat.zero_le _, fun _ _ h => by omega⟩ ?_ ?_
    · exact Mv.of [some 0] rfl ⟨.varS rfl (by simp), trivial⟩ (by simp only [f103_i34, CvL]; simp [hqk, hqd])
    rintro j ⟨hj, hnj⟩
    simp only [go_sem, Int.reduceEq, Int.reduceLE, Int.reduceLT, Int.reduceToNat, List.length_map]
    by_cases hlt : j < ds.length
    · obtain ⟨y, hy⟩ := get_ex hlt
      have hwj := wrap_succ j (by omega)
      simp only [go_sem, Int.reduceEq, Int.reduceLE, Int.reduceLT, Int.reduceToNat, hlt, hy, str_get hy, List.length_map, hxi, hle, hw, str_eqb]
      cases he : decide (w = y)
      · have he' : decide (y = w) = false := by rw [← he, decide_eq_decide]; exact eq_comm
        simp only [go_sem, Int.reduceEq, Int.reduceLE, Int.reduceLT, Int.reduceToNat, he', hwj]
        refine ⟨j + 1, ⟨hlt, fun j' y' h' hy' => ?_⟩, by omega, Mv.of [some 0] rfl ⟨.varS rfl (by simp), trivial⟩ (by simp only [f103_i34, CvL]; simp [hqk, hqd])⟩
        rcases Nat.lt_succ_iff_lt_or_eq.1 h' with h' | rfl
        · exact hnj j' y' h' hy'
        · rw [hy] at hy'; cases hy'; exact he
      · have he' : decide (y = w) = true := by rw [← he, decide_eq_decide]; exact eq_comm
        have hnm : nmI ds w = j := by rw [← nmI_eq]; exact idx_some hy he hnj
        simp only [go_sem, Int.reduceEq, Int.reduceLE, Int.reduceLT, Int.reduceToNat, he', hnm, Int.natCast_nonneg]
        exact Fin.ret (by show Cv _ _ _ _ (.agg (Pd _ _ _)); rw [Pd_bare]; exact .aggL (by simp [CvL]))
    have hnm : nmI ds w = -1 := by
      rw [← nmI_eq]
      refine idx_none fun j' y h => hnj j' y ?_ h
      have := (List.getElem?_eq_some_iff.1 h).1
      omega
    simp only [go_sem, Int.reduceEq, Int.reduceLE, Int.reduceLT, Int.reduceToNat, hlt, List.length_map, hnm, hn1]
    exact Fin.ret (by show Cv _ _ _ _ (.agg (Pd _ _ _)); rw [Pd_bare]; exact .aggL (by simp [CvL]))
  obtain ⟨c, hc⟩ := get_lt h
  have hwi := wrap_succ i (by omega)
  have hst := nameTo_eq s i
  rw [at_of hc] at hst
  have go : ltrB c.toNat = true → nameTo s (i + 1) = nameTo s x := fun hl => by rw [← hn, hst, if_pos ⟨h, hl⟩]
  have stay : ltrB c.toNat = false → nameTo s i = i := fun hl => by rw [hst, if_neg (by rw [hl]; simp)]
  by_cases k1 : (97 : Int) ≤ c.toNat
  · by_cases k2 : (c.toNat : Int) ≤ 122
    · have hl : ltrB c.toNat = true := by unfold ltrB; rw [decide_eq_true (show 97 ≤ c.toNat by omega), decide_eq_true (show c.toNat ≤ 122 by omega)]; rfl
      simp only [go_sem, Int.reduceEq, Int.reduceLE, Int.reduceLT, Int.reduceToNat, h, hc, k1, k2, hwi]
      exact ⟨i + 1, ⟨by omega, h, go hl⟩, by omega, Mv.of [some 0] rfl ⟨.varS rfl (by simp), trivial⟩ (by simp only [f103_i20, CvL]; simp [hqk, hqd])⟩
    have k3 : (48 : Int) ≤ c.toNat := by omega
    have k4 : ¬ (c.toNat : Int) ≤ 57 := by omega
    have k5 : ((c.toNat : Int) == 95) = false := by rw [beq_eq_false_iff_ne]; omega
    have hl : ltrB c.toNat = false := by
      unfold ltrB
      rw [decide_eq_false (show ¬ c.toNat ≤ 122 by omega), decide_eq_false (show ¬ c.toNat ≤ 57 by omega), decide_eq_false (show ¬ c.toNat = 95 by omega)]; simp
    rw [stay hl] at hn
    have hle : i ≤ s.size := hil
    rw [← hn]
    generalize hw : s.extract x i = w
    simp only [go_sem, Int.reduceEq, Int.reduceLE, Int.reduceLT, Int.reduceToNat, h, hc, k1, k2, k3, k4, k5]
    refine xl_loopM hT hm (fun j : Nat => ⟨f103_i27 (.s s) (.i x) (Strs ks) (Strs ds) (.ref 0 0) (.i i) (.i ks.length) (.i j), [.var 72 zP]⟩)
      (fun j => j ≤ ks.length ∧ ∀ (j' : Nat) (y : ByteArray), j' < j → ks[j']? = some y → decide (w = y) = false) (fun j => ks.length - j) 0 ⟨Nat.zero_le _, fun _ _ h => by omega⟩ ?_ ?_
    · exact Mv.of [some 0] rfl ⟨.varS rfl (by simp), trivial⟩ (by simp only [f103_i27, CvL]; simp [hqk, hqd])
    rintro j ⟨hj, hnj⟩
    simp only [go_sem, Int.reduceEq, Int.reduceLE, Int.reduceLT, Int.reduceToNat, List.length_map]
    by_cases hlt : j < ks.length
    · obtain ⟨y, hy⟩ := get_ex hlt
      have hwj := wrap_succ j (by omega)
      simp only [go_sem, Int.reduceEq, Int.reduceLE, Int.reduceLT, Int.reduceToNat, hlt, hy, str_get hy, List.length_map, hxi, hle, hw, str_eqb]
      cases he : decide (w = y)
      · have he' : decide (y = w) = false := by rw [← he, decide_eq_decide]; exact eq_comm
        simp only [go_sem, Int.reduceEq, Int.reduceLE, Int.reduceLT, Int.reduceToNat, he', hwj]
        refine ⟨j + 1, ⟨hlt, fun j' y' h' hy' => ?_⟩, by omega, Mv.of [some 0] rfl ⟨.varS rfl (by simp), trivial⟩ (by simp only [f103_i27, CvL]; simp [hqk, hqd])⟩
        rcases Nat.lt_succ_iff_lt_or_eq.1 h' with h' | rfl
        · exact hnj j' y' h' hy'
        · rw [hy] at hy'; cases hy'; exact he
      · have he' : decide (y = w) = true := by rw [← he, decide_eq_decide]; exact eq_comm
        have hnm : nmI ks w = j := by rw [← nmI_eq]; exact idx_some hy he hnj
        simp only [go_sem, Int.reduceEq, Int.reduceLE, Int.reduceLT, Int.reduceToNat, he', hnm, Int.natCast_nonneg]
        exact Fin.ret (by show Cv _ _ _ _ (.agg (Pd _ _ _)); rw [Pd_bare]; exact .aggL (by simp [CvL]))
    have hnm : nmI ks w = -1 := by
      rw [← nmI_eq]
      refine idx_none fun j' y h => hnj j' y ?_ h
      have := (List.getElem?_eq_some_iff.1 h).1
      omega
    have hn1 : ¬ (0 : Int) ≤ -1 := by omega
    simp only [go_sem, Int.reduceEq, Int.reduceLE, Int.reduceLT, Int.reduceToNat, hlt, List.length_map, hnm, hn1]
    clear hnj hnm hlt hj
    refine xl_loopM hT hm (fun j : Nat => ⟨f103_i34 (.s s) (.i x) (Strs ds) (.ref 0 0) (.i i) (.i ds.length) (.i j), [.var 72 zP]⟩)
      (fun j => j ≤ ds.length ∧ ∀ (j' : Nat) (y : ByteArray), j' < j → ds[j']? = some y → decide (w = y) = false) (fun j => ds.length - j) 0 ⟨Nat.zero_le _, fun _ _ h => by omega⟩ ?_ ?_
    · exact Mv.of [some 0] rfl ⟨.varS rfl (by simp), trivial⟩ (by simp only [f103_i34, CvL]; simp [hqk, hqd])
    rintro j ⟨hj, hnj⟩
    simp only [go_sem, Int.reduceEq, Int.reduceLE, Int.reduceLT, Int.reduceToNat, List.length_map]
    by_cases hlt : j < ds.length
    · obtain ⟨y, hy⟩ := get_ex hlt
      have hwj := wrap_succ j (by omega)
      simp only [go_sem, Int.reduceEq, Int.reduceLE, Int.reduceLT, Int.reduceToNat, hlt, hy, str_get hy, List.length_map, hxi, hle, hw, str_eqb]
      cases he : decide (w = y)
      · have he' : decide (y = w) = false := by rw [← he, decide_eq_decide]; exact eq_comm
        simp only [go_sem, Int.reduceEq, Int.reduceLE, Int.reduceLT, Int.reduceToNat, he', hwj]
        refine ⟨j + 1, ⟨hlt, fun j' y' h' hy' => ?_⟩, by omega, Mv.of [some 0] rfl ⟨.varS rfl (by simp), trivial⟩ (by simp only [f103_i34, CvL]; simp [hqk, hqd])⟩
        rcases Nat.lt_succ_iff_lt_or_eq.1 h' with h' | rfl
        · exact hnj j' y' h' hy'
        · rw [hy] at hy'; cases hy'; exact he
      · have he' : decide (y = w) = true := by rw [← he, decide_eq_decide]; exact eq_comm
        have hnm : nmI ds w = j := by rw [← nmI_eq]; exact idx_some hy he hnj
        simp only [go_sem, Int.reduceEq, Int.reduceLE, Int.reduceLT, Int.reduceToNat, he', hnm, Int.natCast_nonneg]
        exact Fin.ret (by show Cv _ _ _ _ (.agg (Pd _ _ _)); rw [Pd_bare]; exact .aggL (by simp [CvL]))
    have hnm : nmI ds w = -1 := by
      rw [← nmI_eq]
      refine idx_none fun j' y h => hnj j' y ?_ h
      have := (List.getElem?_eq_some_iff.1 h).1
      omega
    simp only [go_sem, Int.reduceEq, Int.reduceLE, Int.reduceLT, Int.reduceToNat, hlt, List.length_map, hnm, hn1]
    exact Fin.ret (by show Cv _ _ _ _ (.agg (Pd _ _ _)); rw [Pd_bare]; exact .aggL (by simp [CvL]))
  by_cases k3 : (48 : Int) ≤ c.toNat
  · by_cases k4 : (c.toNat : Int) ≤ 57
    · have hl : ltrB c.toNat = true := by unfold ltrB; rw [decide_eq_true (show 48 ≤ c.toNat by omega), decide_eq_true (show c.toNat ≤ 57 by omega)]; simp
      simp only [go_sem, Int.reduceEq, Int.reduceLE, Int.reduceLT, Int.reduceToNat, h, hc, k1, k3, k4, hwi]
      exact ⟨i + 1, ⟨by omega, h, go hl⟩, by omega, Mv.of [some 0] rfl ⟨.varS rfl (by simp), trivial⟩ (by simp only [f103_i20, CvL]; simp [hqk, hqd])⟩
    cases k5 : ((c.toNat : Int) == 95)
    case true =>
      have hl : ltrB c.toNat = true := by
        unfold ltrB
        rw [beq_iff_eq] at k5
        rw [decide_eq_true (show c.toNat = 95 by omega), Bool.or_true]
      simp only [go_sem, Int.reduceEq, Int.reduceLE, Int.reduceLT, Int.reduceToNat, h, hc, k1, k3, k4, k5, hwi]
      exact ⟨i + 1, ⟨by omega, h, go hl⟩, by omega, Mv.of [some 0] rfl ⟨.varS rfl (by simp), trivial⟩ (by simp only [f103_i20, CvL]; simp [hqk, hqd])⟩
    have hl : ltrB c.toNat = false := by
      unfold ltrB
      rw [beq_eq_false_iff_ne] at k5
      rw [decide_eq_false (show ¬ 97 ≤ c.toNat by omega), decide_eq_false (show ¬ c.toNat ≤ 57 by omega), decide_eq_false (show ¬ c.toNat = 95 by omega)]; simp
    rw [stay hl] at hn
    have hle : i ≤ s.size := hil
    rw [← hn]
    generalize hw : s.extract x i = w
    simp only [go_sem, Int.reduceEq, Int.reduceLE, Int.reduceLT, Int.reduceToNat, h, hc, k1, k3, k4, k5]
    refine xl_loopM hT hm (fun j : Nat => ⟨f103_i27 (.s s) (.i x) (Strs ks) (Strs ds) (.ref 0 0) (.i i) (.i ks.length) (.i j), [.var 72 zP]⟩)
      (fun j => j ≤ ks.length ∧ ∀ (j' : Nat) (y : ByteArray), j' < j → ks[j']? = some y → decide (w = y) = false) (fun j => ks.length - j) 0 ⟨Nat.zero_le _, fun _ _ h => by omega⟩ ?_ ?_
    · exact Mv.of [some 0] rfl ⟨.varS rfl (by simp), trivial⟩ (by simp only [f103_i27, CvL]; simp [hqk, hqd])
    rintro j ⟨hj, hnj⟩
    simp only [go_sem, Int.reduceEq, Int.reduceLE, Int.reduceLT, Int.reduceToNat, List.length_map]
    by_cases hlt : j < ks.length
    · obtain ⟨y, hy⟩ := get_ex hlt
      have hwj := wrap_succ j (by omega)
      simp only [go_sem, Int.reduceEq, Int.reduceLE, Int.reduceLT, Int.reduceToNat, hlt, hy, str_get hy, List.length_map, hxi, hle, hw, str_eqb]
      cases he : decide (w = y)
      · have he' : decide (y = w) = false := by rw [← he, decide_eq_decide]; exact eq_comm
        simp only [go_sem, Int.reduceEq, Int.reduceLE, Int.reduceLT, Int.reduceToNat, he', hwj]
        refine ⟨j + 1, ⟨hlt, fun j' y' h' hy' => ?_⟩, by omega, Mv.of [some 0] rfl ⟨.varS rfl (by simp), trivial⟩ (by simp only [f103_i27, CvL]; simp [hqk, hqd])⟩
        rcases Nat.lt_succ_iff_lt_or_eq.1 h' with h' | rfl
        · exact hnj j' y' h' hy'
        · rw [hy] at hy'; cases hy'; exact he
      · have he' : decide (y = w) = true := by rw [← he, decide_eq_decide]; exact eq_comm
        have hnm : nmI ks w = j := by rw [← nmI_eq]; exact idx_some hy he hnj
        simp only [go_sem, Int.reduceEq, Int.reduceLE, Int.reduceLT, Int.reduceToNat, he', hnm, Int.natCast_nonneg]
        exact Fin.ret (by show Cv _ _ _ _ (.agg (Pd _ _ _)); rw [Pd_bare]; exact .aggL (by simp [CvL]))
    have hnm : nmI ks w = -1 := by
      rw [← nmI_eq]
      refine idx_none fun j' y h => hnj j' y ?_ h
      have := (List.getElem?_eq_some_iff.1 h).1
      omega
    have hn1 : ¬ (0 : Int) ≤ -1 := by omega
    simp only [go_sem, Int.reduceEq, Int.reduceLE, Int.reduceLT, Int.reduceToNat, hlt, List.length_map, hnm, hn1]
    clear hnj hnm hlt hj
    refine xl_loopM hT hm (fun j : Nat => ⟨f103_i34 (.s s) (.i x) (Strs ds) (.ref 0 0) (.i i) (.i ds.length) (.i j), [.var 72 zP]⟩)
      (fun j => j ≤ ds.length ∧ ∀ (j' : Nat) (y : ByteArray), j' < j → ds[j']? = some y → decide (w = y) = false) (fun j => ds.length - j) 0 ⟨Nat.zero_le _, fun _ _ h => by omega⟩ ?_ ?_
    · exact Mv.of [some 0] rfl ⟨.varS rfl (by simp), trivial⟩ (by simp only [f103_i34, CvL]; simp [hqk, hqd])
    rintro j ⟨hj, hnj⟩
    simp only [go_sem, Int.reduceEq, Int.reduceLE, Int.reduceLT, Int.reduceToNat, List.length_map]
    by_cases hlt : j < ds.length
    · obtain ⟨y, hy⟩ := get_ex hlt
      have hwj := wrap_succ j (by omega)
      simp only [go_sem, Int.reduceEq, Int.reduceLE, Int.reduceLT, Int.reduceToNat, hlt, hy, str_get hy, List.length_map, hxi, hle, hw, str_eqb]
      cases he : decide (w = y)
      · have he' : decide (y = w) = false := by rw [← he, decide_eq_decide]; exact eq_comm
        simp only [go_sem, Int.reduceEq, Int.reduceLE, Int.reduceLT, Int.reduceToNat, he', hwj]
        refine ⟨j + 1, ⟨hlt, fun j' y' h' hy' => ?_⟩, by omega, Mv.of [some 0] rfl ⟨.varS rfl (by simp), trivial⟩ (by simp only [f103_i34, CvL]; simp [hqk, hqd])⟩
        rcases Nat.lt_succ_iff_lt_or_eq.1 h' with h' | rfl
        · exact hnj j' y' h' hy'
        · rw [hy] at hy'; cases hy'; exact he
      · have he' : decide (y = w) = true := by rw [← he, decide_eq_decide]; exact eq_comm
        have hnm : nmI ds w = j := by rw [← nmI_eq]; exact idx_some hy he hnj
        simp only [go_sem, Int.reduceEq, Int.reduceLE, Int.reduceLT, Int.reduceToNat, he', hnm, Int.natCast_nonneg]
        exact Fin.ret (by show Cv _ _ _ _ (.agg (Pd _ _ _)); rw [Pd_bare]; exact .aggL (by simp [CvL]))
    have hnm : nmI ds w = -1 := by
      rw [← nmI_eq]
      refine idx_none fun j' y h => hnj j' y ?_ h
      have := (List.getElem?_eq_some_iff.1 h).1
      omega
    simp only [go_sem, Int.reduceEq, Int.reduceLE, Int.reduceLT, Int.reduceToNat, hlt, List.length_map, hnm, hn1]
    exact Fin.ret (by show Cv _ _ _ _ (.agg (Pd _ _ _)); rw [Pd_bare]; exact .aggL (by simp [CvL]))
  have k5 : ((c.toNat : Int) == 95) = false := by rw [beq_eq_false_iff_ne]; omega
  have hl : ltrB c.toNat = false := by
    unfold ltrB
    rw [decide_eq_false (show ¬ 97 ≤ c.toNat by omega), decide_eq_false (show ¬ 48 ≤ c.toNat by omega), decide_eq_false (show ¬ c.toNat = 95 by omega)]; simp
  rw [stay hl] at hn
  have hle : i ≤ s.size := hil
  rw [← hn]
  generalize hw : s.extract x i = w
  simp only [go_sem, Int.reduceEq, Int.reduceLE, Int.reduceLT, Int.reduceToNat, h, hc, k1, k3, k5]
  refine xl_loopM hT hm (fun j : Nat => ⟨f103_i27 (.s s) (.i x) (Strs ks) (Strs ds) (.ref 0 0) (.i i) (.i ks.length) (.i j), [.var 72 zP]⟩)
    (fun j => j ≤ ks.length ∧ ∀ (j' : Nat) (y : ByteArray), j' < j → ks[j']? = some y → decide (w = y) = false) (fun j => ks.length - j) 0 ⟨Nat.zero_le _, fun _ _ h => by omega⟩ ?_ ?_
  · exact Mv.of [some 0] rfl ⟨.varS rfl (by simp), trivial⟩ (by simp only [f103_i27, CvL]; simp [hqk, hqd])
  rintro j ⟨hj, hnj⟩
  simp only [go_sem, Int.reduceEq, Int.reduceLE, Int.reduceLT, Int.reduceToNat, List.length_map]
  by_cases hlt : j < ks.length
  · obtain ⟨y, hy⟩ := get_ex hlt
    have hwj := wrap_succ j (by omega)
    simp only [go_sem, Int.reduceEq, Int.reduceLE, Int.reduceLT, Int.reduceToNat, hlt, hy, str_get hy, List.length_map, hxi, hle, hw, str_eqb]
    cases he : decide (w = y)
    · have he' : decide (y = w) = false := by rw [← he, decide_eq_decide]; exact eq_comm
      simp only [go_sem, Int.reduceEq, Int.reduceLE, Int.reduceLT, Int.reduceToNat, he', hwj]
      refine ⟨j + 1, ⟨hlt, fun j' y' h' hy' => ?_⟩, by omega, Mv.of [some 0] rfl ⟨.varS rfl (by simp), trivial⟩ (by simp only [f103_i27, CvL]; simp [hqk, hqd])⟩
      rcases Nat.lt_succ_iff_lt_or_eq.1 h' with h' | rfl
      · exact hnj j' y' h' hy'
      · rw [hy] at hy'; cases hy'; exact he
    · have he' : decide (y = w) = true := by rw [← he, decide_eq_decide]; exact eq_comm
      have hnm : nmI ks w = j := by rw [← nmI_eq]; exact idx_some hy he hnj
      simp only [go_sem, Int.reduceEq, Int.reduceLE, Int.reduceLT, Int.reduceToNat, he', hnm, Int.natCast_nonneg]
      exact Fin.ret (by show Cv _ _ _ _ (.agg (Pd _ _ _)); rw [Pd_bare]; exact .aggL (by simp [CvL]))
  have hnm : nmI ks w = -1 := by
    rw [← nmI_eq]
    refine idx_none fun j' y h => hnj j' y ?_ h
    have := (List.getElem?_eq_some_iff.1 h).1
    omega
  have hn1 : ¬ (0 : Int) ≤ -1 := by omega
  simp only [go_sem, Int.reduceEq, Int.reduceLE, Int.reduceLT, Int.reduceToNat, hlt, List.length_map, hnm, hn1]
  clear hnj hnm hlt hj
  refine xl_loopM hT hm (fun j : Nat => ⟨f103_i34 (.s s) (.i x) (Strs ds) (.ref 0 0) (.i i) (.i ds.length) (.i j), [.var 72 zP]⟩)
    (fun j => j ≤ ds.length ∧ ∀ (j' : Nat) (y : ByteArray), j' < j → ds[j']? = some y → decide (w = y) = false) (fun j => ds.length - j) 0 ⟨Nat.zero_le _, fun _ _ h => by omega⟩ ?_ ?_
  · exact Mv.of [some 0] rfl ⟨.varS rfl (by simp), trivial⟩ (by simp only [f103_i34, CvL]; simp [hqk, hqd])
  rintro j ⟨hj, hnj⟩
  simp only [go_sem, Int.reduceEq, Int.reduceLE, Int.reduceLT, Int.reduceToNat, List.length_map]
  by_cases hlt : j < ds.length
  · obtain ⟨y, hy⟩ := get_ex hlt
    have hwj := wrap_succ j (by omega)
    simp only [go_sem, Int.reduceEq, Int.reduceLE, Int.reduceLT, Int.reduceToNat, hlt, hy, str_get hy, List.length_map, hxi, hle, hw, str_eqb]
    cases he : decide (w = y)
    · have he' : decide (y = w) = false := by rw [← he, decide_eq_decide]; exact eq_comm
      simp only [go_sem, Int.reduceEq, Int.reduceLE, Int.reduceLT, Int.reduceToNat, he', hwj]
      refine ⟨j + 1, ⟨hlt, fun j' y' h' hy' => ?_⟩, by omega, Mv.of [some 0] rfl ⟨.varS rfl (by simp), trivial⟩ (by simp only [f103_i34, CvL]; simp [hqk, hqd])⟩
      rcases Nat.lt_succ_iff_lt_or_eq.1 h' with h' | rfl
      · exact hnj j' y' h' hy'
      · rw [hy] at hy'; cases hy'; exact he
    · have he' : decide (y = w) = true := by rw [← he, decide_eq_decide]; exact eq_comm
      have hnm : nmI ds w = j := by rw [← nmI_eq]; exact idx_some hy he hnj
      simp only [go_sem, Int.reduceEq, Int.reduceLE, Int.reduceLT, Int.reduceToNat, he', hnm, Int.natCast_nonneg]
      exact Fin.ret (by show Cv _ _ _ _ (.agg (Pd _ _ _)); rw [Pd_bare]; exact .aggL (by simp [CvL]))
  have hnm : nmI ds w = -1 := by
    rw [← nmI_eq]
    refine idx_none fun j' y h => hnj j' y ?_ h
    have := (List.getElem?_eq_some_iff.1 h).1
    omega
  simp only [go_sem, Int.reduceEq, Int.reduceLE, Int.reduceLT, Int.reduceToNat, hlt, List.length_map, hnm, hn1]
  exact Fin.ret (by show Cv _ _ _ _ (.agg (Pd _ _ _)); rw [Pd_bare]; exact .aggL (by simp [CvL]))
end
end Go.Proofs.YtdliolbjngcgcaaGreat.W
set_option maxRecDepth 100000
/- The document's reader of a grammar's text: rows, expressions. -/
namespace Go.Proofs.YtdliolbjngcgcaaGreat.W
open Go Go.Proofs Go.Proofs.YtdliolbjngcgcaaGreat.AWP
attribute [local irreducible] xl hide aop aops aopQ qops guardP condP
section
variable {ks ds : List ByteArray} {s : ByteArray}
abbrev zPOb : Ob := .var 72 zP
theorem zp_put (r : Cf) (q e : Nat) : obPut zPOb 0 (Pd r q e) = some (.var 72 (Pd r q e)) := Pd_put _ _ rfl r q e
/-- A row, from where some of it is read. -/
def thenV (ks ds : List ByteArray) (A : Nat → CR) (s : ByteArray) (l : List Cf) (p : Nat) : CR := if l = [] then thenP ks ds A s p else thenGo ks ds A s l p
theorem mvZL {l : List Cf} {k : Nat} {om : List Ob} {F : Nat → Bool} (h0 : om[0]? = some zPOb) (h2 : om[k]? = some (clOb l)) : MvL om F [some 0, some k] [some 0, some k] [zPOb, clOb l] :=
  ⟨.varS h0 (by simp), .slcS h2 (Cf.map_bl l), trivial⟩
theorem fin_bad (q e : Nat) {om : List Ob} : Cv om (fun _ => true) [] (.agg [.v (.int .u8 0), .v (.int .i64 0), .v (.slice Option.none 0 0), .i q, .i e]) (.agg (crP (.bad q e))) := by
  show Cv _ _ _ _ (.agg (Pd _ _ _)); rw [Pd_bare]; exact .aggL (by simp [CvL])
set_option maxHeartbeats 4000000 in
theorem rThen (A : Nat → CR) (p : Nat) (hs : s.size ≤ 65536) (hp : p ≤ s.size) (hk : ks.length ≤ 1000000) (hd : ds.length ≤ 1000000) (hA : FwdC A s) (hB : BadC A)
    (HA : ∀ q, skipB s p < q → q ≤ s.size → ∀ q', skipB s p < q' → q' ≤ s.size → skipB s q' = skipB s q → AP Tryz.prog 65 (rdA ks ds s q') (.agg (crP (A q)))) :
    AP Tryz.prog 87 (rdA ks ds s p) (.agg (crP (thenP ks ds A s p))) := by
  have hqk : ∀ om (F : Nat → Bool) (kk : List (Option Nat)), Cv om F kk (Strs ks) (Strs ks) := fun om F kk => .same (Strs_bl ks)
  have hqd : ∀ om (F : Nat → Bool) (kk : List (Option Nat)), Cv om F kk (Strs ds) (Strs ds) := fun om F kk => .same (Strs_bl ds)
  refine AC.lbody hT hm Tryz.func87 f87_nm f87_lc f87_res f87_nt ?_
  simp only [go_sem, Int.reduceEq, Int.reduceLE, Int.reduceLT, Int.reduceToNat]
  refine xl_loopM hT hm (fun i : List Cf × Nat => ⟨f87_i8 (.s s) (.i i.2) (Strs ks) (Strs ds) (.ref 0 0) (.own 1), [zPOb, clOb i.1]⟩)
    (fun i => skipB s p ≤ skipB s i.2 ∧ i.2 ≤ s.size ∧ i.1.length ≤ i.2 ∧ thenV ks ds A s i.1 i.2 = thenP ks ds A s p) (fun i => s.size - i.2) ([], p) ⟨Nat.le_refl _, hp, by simp, rfl⟩ ?_ ?_
  · exact Mv.of [some 0, some 1] rfl (mvZL rfl rfl) (by simp only [f87_i8, CvL]; simp [hqk, hqd])
  rintro ⟨l, q⟩ ⟨hpq, hq, hlen, hst⟩
  dsimp only at hpq hq hlen hst
  have hqx := le_skipB s q
  have HA' : ∀ q2, skipB s q < q2 → q2 ≤ s.size → ∀ q', skipB s q < q' → q' ≤ s.size → skipB s q' = skipB s q2 → AP Tryz.prog 65 (rdA ks ds s q') (.agg (crP (A q2))) := fun q2 h h' q' h'' => HA q2 (by omega) h' q' (by omega)
  have hbad : (l = [] ∨ moreB s (skipB s q) = true) → ∀ q' e, atomP ks ds A s q = .bad q' e → thenP ks ds A s p = .bad q' e := by
    intro hm q' e hc
    rw [← hst]
    unfold thenV
    split
    · unfold thenP; rw [hc]
    · rw [thenGo, if_pos (hm.resolve_left (by assumption)), hc]
  have hok : (l = [] ∨ moreB s (skipB s q) = true) → ∀ r q', atomP ks ds A s q = .ok r q' → (skipB s q < q' ∧ q' ≤ s.size) ∧ thenV ks ds A s (l ++ [r]) q' = thenP ks ds A s p := by
    intro hm r q' hc
    have h1 := atomP_lt hA hc
    refine ⟨h1, ?_⟩
    rw [← hst]
    unfold thenV
    rw [if_neg (by simp)]
    split
    · rename_i hl; subst hl; unfold thenP; rw [hc]; rfl
    · refine Eq.symm ?_
      rw [thenGo, if_pos (hm.resolve_left (by assumption)), hc]
      show dite _ _ _ = _
      rw [dif_pos (by omega)]
  simp only [go_sem, Int.reduceEq, Int.reduceLE, Int.reduceLT, Int.reduceToNat, List.length_map]
  cases hl0 : ((l.length : Int) == 0)
  case true =>
    simp only [go_sem, Int.reduceEq, Int.reduceLE, Int.reduceLT, Int.reduceToNat]
    have hmr : l = [] ∨ moreB s (skipB s q) = true := .inl (by rw [beq_iff_eq] at hl0; exact List.eq_nil_of_length_eq_zero (by omega))
    refine (rAtom A q hs (by omega) hk hd hA hB HA').pd (cvA _) (.agg (by cases atomP ks ds A s q <;> exact Pd_bl _ _ _)) ?_
    cases hc : atomP ks ds A s q
    case bad q' e =>
      have he := (atomQ_bad hB hc).1
      have e0 : ((e : Int) != 0) = true := by simp; omega
      simp only [go_sem, Int.reduceEq, Int.reduceLE, Int.reduceLT, Int.reduceToNat, zp_put, Pd_4, Pd_len, Pd_all, e0]
      rw [hbad hmr _ _ hc]
      exact Fin.ret (.same (Pd_agg _ _ _))
    rename_i r q'
    obtain ⟨hq', hgo⟩ := hok hmr _ _ hc
    have hl' := le_skipB s q'
    have e0 : (((0 : Nat) : Int) != 0) = false := rfl
    simp only [go_sem, Int.reduceEq, Int.reduceLE, Int.reduceLT, Int.reduceToNat, zp_put, Pd_4, Pd_len, Pd_all, Pd_3, Pd_take, e0, List.length_map]
    exact ⟨by omega, (l ++ [r], q'), ⟨by dsimp only; omega, hq'.2, by simp; omega, hgo⟩, by dsimp only; omega, Mv.of [some 0, some 3] rfl (mvZL rfl (by simp)) (by simp only [f87_i8, CvL]; simp [hqk, hqd])⟩
  have hne : l ≠ [] := fun h => by subst h; simp at hl0
  simp only [go_sem, Int.reduceEq, Int.reduceLE, Int.reduceLT, Int.reduceToNat]
  refine (rIs 91 q hs (by omega)).pv ⟨.v, .v, .v, trivial⟩ ?_
  rw [show (91 : UInt8).toNat = 91 from rfl]
  cases h1 : byB s (skipB s q) 91
  case true =>
    simp only [go_sem, Int.reduceEq, Int.reduceLE, Int.reduceLT, Int.reduceToNat]
    have hmr : l = [] ∨ moreB s (skipB s q) = true := .inr (by unfold moreB; rw [h1]; rfl)
    refine (rAtom A q hs (by omega) hk hd hA hB HA').pd (cvA _) (.agg (by cases atomP ks ds A s q <;> exact Pd_bl _ _ _)) ?_
    cases hc : atomP ks ds A s q
    case bad q' e =>
      have he := (atomQ_bad hB hc).1
      have e0 : ((e : Int) != 0) = true := by simp; omega
      simp only [go_sem, Int.reduceEq, Int.reduceLE, Int.reduceLT, Int.reduceToNat, zp_put, Pd_4, Pd_len, Pd_all, e0]
      rw [hbad hmr _ _ hc]
      exact Fin.ret (.same (Pd_agg _ _ _))
    rename_i r q'
    obtain ⟨hq', hgo⟩ := hok hmr _ _ hc
    have hl' := le_skipB s q'
    have e0 : (((0 : Nat) : Int) != 0) = false := rfl
    simp only [go_sem, Int.reduceEq, Int.reduceLE, Int.reduceLT, Int.reduceToNat, zp_put, Pd_4, Pd_len, Pd_all, Pd_3, Pd_take, e0, List.length_map]
    exact ⟨by omega, (l ++ [r], q'), ⟨by dsimp only; omega, hq'.2, by simp; omega, hgo⟩, by dsimp only; omega, Mv.of [some 0, some 3] rfl (mvZL rfl (by simp)) (by simp only [f87_i8, CvL]; simp [hqk, hqd])⟩
  simp only [go_sem, Int.reduceEq, Int.reduceLE, Int.reduceLT, Int.reduceToNat]
  refine (rIs 40 q hs (by omega)).pv ⟨.v, .v, .v, trivial⟩ ?_
  rw [show (40 : UInt8).toNat = 40 from rfl]
  cases h2 : byB s (skipB s q) 40
  case true =>
    simp only [go_sem, Int.reduceEq, Int.reduceLE, Int.reduceLT, Int.reduceToNat]
    have hmr : l = [] ∨ moreB s (skipB s q) = true := .inr (by unfold moreB; rw [h1, h2]; rfl)
    refine (rAtom A q hs (by omega) hk hd hA hB HA').pd (cvA _) (.agg (by cases atomP ks ds A s q <;> exact Pd_bl _ _ _)) ?_
    cases hc : atomP ks ds A s q
    case bad q' e =>
      have he := (atomQ_bad hB hc).1
      have e0 : ((e : Int) != 0) = true := by simp; omega
      simp only [go_sem, Int.reduceEq, Int.reduceLE, Int.reduceLT, Int.reduceToNat, zp_put, Pd_4, Pd_len, Pd_all, e0]
      rw [hbad hmr _ _ hc]
      exact Fin.ret (.same (Pd_agg _ _ _))
    rename_i r q'
    obtain ⟨hq', hgo⟩ := hok hmr _ _ hc
    have hl' := le_skipB s q'
    have e0 : (((0 : Nat) : Int) != 0) = false := rfl
    simp only [go_sem, Int.reduceEq, Int.reduceLE, Int.reduceLT, Int.reduceToNat, zp_put, Pd_4, Pd_len, Pd_all, Pd_3, Pd_take, e0, List.length_map]
    exact ⟨by omega, (l ++ [r], q'), ⟨by dsimp only; omega, hq'.2, by simp; omega, hgo⟩, by dsimp only; omega, Mv.of [some 0, some 3] rfl (mvZL rfl (by simp)) (by simp only [f87_i8, CvL]; simp [hqk, hqd])⟩
  simp only [go_sem, Int.reduceEq, Int.reduceLE, Int.reduceLT, Int.reduceToNat]
  refine (rBegins q hs (by omega)).pv ⟨.v, .v, trivial⟩ ?_
  cases h3 : lowB s (skipB s q)
  case true =>
    simp only [go_sem, Int.reduceEq, Int.reduceLE, Int.reduceLT, Int.reduceToNat]
    have hmr : l = [] ∨ moreB s (skipB s q) = true := .inr (by unfold moreB; rw [h1, h2, h3]; rfl)
    refine (rAtom A q hs (by omega) hk hd hA hB HA').pd (cvA _) (.agg (by cases atomP ks ds A s q <;> exact Pd_bl _ _ _)) ?_
    cases hc : atomP ks ds A s q
    case bad q' e =>
      have he := (atomQ_bad hB hc).1
      have e0 : ((e : Int) != 0) = true := by simp; omega
      simp only [go_sem, Int.reduceEq, Int.reduceLE, Int.reduceLT, Int.reduceToNat, zp_put, Pd_4, Pd_len, Pd_all, e0]
      rw [hbad hmr _ _ hc]
      exact Fin.ret (.same (Pd_agg _ _ _))
    rename_i r q'
    obtain ⟨hq', hgo⟩ := hok hmr _ _ hc
    have hl' := le_skipB s q'
    have e0 : (((0 : Nat) : Int) != 0) = false := rfl
    simp only [go_sem, Int.reduceEq, Int.reduceLE, Int.reduceLT, Int.reduceToNat, zp_put, Pd_4, Pd_len, Pd_all, Pd_3, Pd_take, e0, List.length_map]
    exact ⟨by omega, (l ++ [r], q'), ⟨by dsimp only; omega, hq'.2, by simp; omega, hgo⟩, by dsimp only; omega, Mv.of [some 0, some 3] rfl (mvZL rfl (by simp)) (by simp only [f87_i8, CvL]; simp [hqk, hqd])⟩
  have hend : thenP ks ds A s p = .ok (Cf.fold 4 l) q := by
    rw [← hst]
    unfold thenV
    rw [if_neg hne, thenGo, if_neg (by unfold moreB; rw [h1, h2, h3]; simp)]
  rw [hend]
  simp only [go_sem, Int.reduceEq, Int.reduceLE, Int.reduceLT, Int.reduceToNat]
  obtain ⟨x, l', rfl⟩ : ∃ x l', l = x :: l' := by
    cases l with
    | nil => exact absurd rfl hne
    | cons x l' => exact ⟨x, l', rfl⟩
  refine (rFold 4 x l').callF (fun k => k == 1) ⟨.v, cvCl rfl rfl, trivial⟩ (Cf.d_bl _) ?_
  have ef : frzL (fun k => k == 1) [zPOb, clOb (x :: l')] = [zPOb, .frz 3 ((x :: l').map Cf.c)] := rfl
  simp only [go_sem, Int.reduceEq, Int.reduceLE, Int.reduceLT, Int.reduceToNat, ef, tk3, dr4, Nat.reduceAdd, List.length_cons, List.length_nil, zp_put]
  generalize Cf.fold 4 (x :: l') = f
  rw [show List.take 5 (f.c ++ [.v (.int .i64 (q : Int)), .v (.int .i64 0)]) = Pd f q 0 from Pd_all f q 0]
  exact Fin.ret (.same (Pd_agg _ _ _))
/-- An expression, from where some of it is read. -/
def orV (ks ds : List ByteArray) (A : Nat → CR) (s : ByteArray) (l : List Cf) (p : Nat) : CR :=
  match thenP ks ds A s p with
  | .bad q e => .bad q e
  | .ok r q => orGo ks ds A s (l ++ [r]) q
set_option maxHeartbeats 4000000 in
theorem rOr1 (A : Nat → CR) (p : Nat) (hs : s.size ≤ 65536) (hp : p ≤ s.size) (hk : ks.length ≤ 1000000) (hd : ds.length ≤ 1000000) (hA : FwdC A s) (hB : BadC A)
    (HA : ∀ q, skipB s p < q → q ≤ s.size → ∀ q', skipB s p < q' → q' ≤ s.size → skipB s q' = skipB s q → AP Tryz.prog 65 (rdA ks ds s q') (.agg (crP (A q)))) :
    AP Tryz.prog 65 (rdA ks ds s p) (.agg (crP (orP ks ds A s p))) := by
  have hqk : ∀ om (F : Nat → Bool) (kk : List (Option Nat)), Cv om F kk (Strs ks) (Strs ks) := fun om F kk => .same (Strs_bl ks)
  have hqd : ∀ om (F : Nat → Bool) (kk : List (Option Nat)), Cv om F kk (Strs ds) (Strs ds) := fun om F kk => .same (Strs_bl ds)
  refine AC.lbody hT hm Tryz.func65 f65_nm f65_lc f65_res f65_nt ?_
  simp only [go_sem, Int.reduceEq, Int.reduceLE, Int.reduceLT, Int.reduceToNat]
  refine xl_loopM hT hm (fun i : List Cf × Nat => ⟨f65_i10 (.s s) (.i i.2) (Strs ks) (Strs ds) (.ref 0 0) (.own 1), [zPOb, clOb i.1]⟩)
    (fun i => skipB s p ≤ skipB s i.2 ∧ i.2 ≤ s.size ∧ i.1.length ≤ i.2 ∧ orV ks ds A s i.1 i.2 = orP ks ds A s p) (fun i => s.size - i.2) ([], p) ⟨Nat.le_refl _, hp, by simp, rfl⟩ ?_ ?_
  · exact Mv.of [some 0, some 1] rfl (mvZL rfl rfl) (by simp only [f65_i10, CvL]; simp [hqk, hqd])
  rintro ⟨l, q⟩ ⟨hpq, hq, hlen, hst⟩
  dsimp only at hpq hq hlen hst
  have hqx := le_skipB s q
  have HA' : ∀ q2, skipB s q < q2 → q2 ≤ s.size → ∀ q', skipB s q < q' → q' ≤ s.size → skipB s q' = skipB s q2 → AP Tryz.prog 65 (rdA ks ds s q') (.agg (crP (A q2))) := fun q2 h h' q' h'' => HA q2 (by omega) h' q' (by omega)
  simp only [go_sem, Int.reduceEq, Int.reduceLE, Int.reduceLT, Int.reduceToNat, List.length_map]
  refine (rThen A q hs hq hk hd hA hB HA').pd (cvA _) (.agg (by cases thenP ks ds A s q <;> exact Pd_bl _ _ _)) ?_
  unfold orV at hst
  cases hc : thenP ks ds A s q
  case bad q' e =>
    have he := (thenP_bad hA hB hc).1
    have e0 : ((e : Int) != 0) = true := by simp; omega
    rw [hc] at hst
    rw [← hst]
    simp only [go_sem, Int.reduceEq, Int.reduceLE, Int.reduceLT, Int.reduceToNat, zp_put, Pd_4, Pd_len, Pd_all, e0]
    exact Fin.ret (.same (Pd_agg _ _ _))
  rename_i r q'
  have hq' := thenP_lt hA hc
  rw [hc] at hst
  dsimp only at hst
  rw [orGo] at hst
  have hl' := le_skipB s q'
  have hsl := skipB_le hq'.2
  have e0 : (((0 : Nat) : Int) != 0) = false := rfl
  have hR := rSkip q' hs (by omega)
  have hI := rIs 124 q' hs (by omega)
  rw [show (124 : UInt8).toNat = 124 from rfl] at hI
  generalize skipB s q' = z at *
  simp only [go_sem, Int.reduceEq, Int.reduceLE, Int.reduceLT, Int.reduceToNat, zp_put, Pd_4, Pd_len, Pd_all, Pd_3, Pd_take, e0, List.length_map]
  refine ⟨by omega, ?_⟩
  refine hI.pv ⟨.v, .v, .v, trivial⟩ ?_
  cases h1 : byB s z 124
  case false =>
    rw [if_neg (by rw [h1]; simp)] at hst
    rw [← hst]
    simp only [go_sem, Int.reduceEq, Int.reduceLE, Int.reduceLT, Int.reduceToNat, Bool.not_false]
    obtain ⟨x, l', hx⟩ : ∃ x l', l ++ [r] = x :: l' := by
      cases l with
      | nil => exact ⟨r, [], rfl⟩
      | cons x l' => exact ⟨x, l' ++ [r], rfl⟩
    have hmap : l.map Cf.c ++ [r.c] = (x :: l').map Cf.c := by rw [← hx]; simp
    rw [hmap, hx]
    refine (rFold 5 x l').callF (fun k => k == 3) ⟨.v, cvCl rfl rfl, trivial⟩ (Cf.d_bl _) ?_
    have ef : frzL (fun k => k == 3) [zPOb, .dead, .var 72 (Pd r q' 0), .slc 40 3 (x.c :: l'.map Cf.c)] = [zPOb, .dead, .var 72 (Pd r q' 0), .frz 3 (x.c :: l'.map Cf.c)] := rfl
    simp only [go_sem, Int.reduceEq, Int.reduceLE, Int.reduceLT, Int.reduceToNat, ef, tk3, dr4, Nat.reduceAdd, List.length_cons, List.length_nil, zp_put]
    generalize Cf.fold 5 (x :: l') = f
    rw [show List.take 5 (f.c ++ [.v (.int .i64 (q' : Int)), .v (.int .i64 0)]) = Pd f q' 0 from Pd_all f q' 0]
    exact Fin.ret (.same (Pd_agg _ _ _))
  have lt := byB_lt h1
  have hw := wrap_succ z (by omega)
  have hsk := le_skipB s (z + 1)
  rw [if_pos h1] at hst
  simp only [go_sem, Int.reduceEq, Int.reduceLE, Int.reduceLT, Int.reduceToNat, Bool.not_true]
  refine hR.pv ⟨.v, .v, trivial⟩ ?_
  simp only [go_sem, Int.reduceEq, Int.reduceLE, Int.reduceLT, Int.reduceToNat, hw]
  refine ⟨(l ++ [r], z + 1), ⟨by dsimp only; omega, lt, by simp; omega, ?_⟩, by dsimp only; omega, Mv.of [some 0, some 3] rfl (mvZL rfl (by simp)) (by simp only [f65_i10, CvL]; simp [hqk, hqd])⟩
  rw [← hst]
  unfold orV
  cases hc' : thenP ks ds A s (z + 1)
  · have := thenP_lt hA hc'
    show _ = dite _ _ _
    rw [dif_pos (by omega)]
  · rfl
end
theorem rOr (ks ds : List ByteArray) (s : ByteArray) (hs : s.size ≤ 65536) (hk : ks.length ≤ 1000000) (hd : ds.length ≤ 1000000) : ∀ (n p : Nat), s.size - p ≤ n → p ≤ s.size → AP Tryz.prog 65 (rdA ks ds s p) (.agg (crP (orF ks ds s p))) := by
  intro n
  induction n with
  | zero =>
    intro p hn hp
    rw [orF_eq]
    exact rOr1 _ p hs hp hk hd (orA_fwd ks ds s p) (orA_bad ks ds s p) fun q h h' => by have := le_skipB s p; omega
  | succ n ih =>
    intro p hn hp
    rw [orF_eq]
    refine rOr1 _ p hs hp hk hd (orA_fwd ks ds s p) (orA_bad ks ds s p) fun q h h' q' h2 hq' he => ?_
    unfold orA
    rw [if_pos ⟨h, h'⟩, orF_skip he.symm]
    have h1 := le_skipB s p
    exact ih q' (by omega) hq'
/-- A whole text. -/
abbrev whP (x : Cf × Nat × Nat) : List D := Pd x.1 x.2.1 x.2.2
set_option maxHeartbeats 1000000 in
theorem rWhole (ks ds : List ByteArray) (s : ByteArray) (hs : s.size ≤ 65536) (hk : ks.length ≤ 1000000) (hd : ds.length ≤ 1000000) : AP Tryz.prog 33 [.s s, Strs ks, Strs ds] (.agg (whP (wholeP ks ds s))) := by
  unfold wholeP
  refine AC.lbody hT hm Tryz.func33 f33_nm f33_lc f33_res f33_nt ?_
  simp only [go_sem, Int.reduceEq, Int.reduceLE, Int.reduceLT, Int.reduceToNat]
  refine (rOr ks ds s hs hk hd _ 0 (Nat.le_refl _) (Nat.zero_le _)).pd (cvA _) (.agg (by cases orF ks ds s 0 <;> exact Pd_bl _ _ _)) ?_
  cases hc : orF ks ds s 0
  case bad q e =>
    have he := (orF_bad _ _ (Nat.le_refl _) hc).1
    have e0 : ((e : Int) != 0) = true := by simp; omega
    simp only [go_sem, Int.reduceEq, Int.reduceLE, Int.reduceLT, Int.reduceToNat, zp_put, Pd_4, Pd_len, Pd_all, e0]
    exact Fin.ret (.same (Pd_agg _ _ _))
  rename_i r q
  have hq := orF_lt _ _ (Nat.le_refl _) hc
  have e0 : (((0 : Nat) : Int) != 0) = false := rfl
  simp only [go_sem, Int.reduceEq, Int.reduceLE, Int.reduceLT, Int.reduceToNat, zp_put, Pd_4, Pd_len, Pd_all, Pd_3, e0]
  refine (rSkip q hs (by omega)).pv ⟨.v, .v, trivial⟩ ?_
  generalize skipB s q = z
  by_cases h : z < s.size
  · simp only [go_sem, Int.reduceEq, Int.reduceLE, Int.reduceLT, Int.reduceToNat, h]
    exact Fin.ret (fin_bad _ _)
  · simp only [go_sem, Int.reduceEq, Int.reduceLE, Int.reduceLT, Int.reduceToNat, h, Pd_len, Pd_take, tk3, dr4, zp_put]
    rw [show List.take 5 (r.c ++ [.v (.int .i64 0), .v (.int .i64 0)]) = Pd r 0 0 from Pd_all r 0 0]
    exact Fin.ret (.same (Pd_agg _ _ _))
end Go.Proofs.YtdliolbjngcgcaaGreat.W
set_option maxRecDepth 100000
/- The lines of a grammar's text. -/
namespace Go.Proofs.YtdliolbjngcgcaaGreat.W
open Go Go.Proofs Go.Proofs.YtdliolbjngcgcaaGreat.AWP
attribute [local irreducible] xl hide aop aops aopQ qops guardP condP
abbrev LNC : Nat := 78
theorem linesC (s : ByteArray) (om : List Ob) : AC Tryz.prog 55 [.s s] om (fun o om' => o = .ret (.fn LNC [.ref om.length 0]) ∧ om' = om ++ [.var 9 [.s s]]) := by
  refine AC.lbody hT hm Tryz.func55 f55_nm f55_lc f55_res f55_nt ?_
  simp only [go_sem, Int.reduceEq, Int.reduceLE, Int.reduceLT, Int.reduceToNat]
  exact finSelf ⟨rfl, rfl⟩
/-- A line: its place, its name, what is behind. -/
abbrev Ln : Type := Nat × ByteArray × ByteArray
abbrev lnC (x : Ln) : List D := [.i x.1, .s x.2.1, .s x.2.2]
abbrev lnR (l : List Ln) : List (List D) := l.map lnC
theorem lnR_bl (l : List Ln) : ∀ r ∈ lnR l, ∀ d ∈ r, Bl 0 d := by
  intro r hr d hd
  obtain ⟨x, _, rfl⟩ := List.mem_map.1 hr
  simp only [List.mem_cons, List.not_mem_nil, or_false] at hd
  rcases hd with rfl | rfl | rfl <;> exact .v _
abbrev Lns (l : List Ln) : D := .sl 3 (lnR l)
theorem Lns_bl (l : List Ln) : Bl 0 (Lns l) := .sl (lnR_bl l)
abbrev lnOb (l : List Ln) : Ob := .slc 60 3 (lnR l)
abbrev eqS : ByteArray := ⟨#[32, 61, 32]⟩
abbrev metC (kinds : List ByteArray) (l : List Ln) : List ByteArray := kinds ++ l.map (·.2.1)
/-- A line is read: a place and an error, or what is read so far. -/
def lnK (tot : Nat) (kinds : List ByteArray) (out : List Ln) (a sz : Nat) (ended : Bool) (k : ByteArray × ByteArray × Bool) : (Nat × Nat) ⊕ (List Ln × Nat) :=
  if ended = false then .inl (tot, 2)
  else if 50 ≤ out.length then .inl (a, 4)
  else if k.2.2 = false then .inl (a, 2)
  else if nameB k.1 = false then .inl (a, 2)
  else if ((metC kinds out).any fun x => decide (k.1 = x)) = true then .inl (a, 2)
  else .inr (out ++ [(a, k.1, k.2.1)], a + sz)
def lnStep (tot : Nat) (kinds : List ByteArray) (out : List Ln) (a : Nat) (ln : ByteArray) : (Nat × Nat) ⊕ (List Ln × Nat) :=
  lnK tot kinds out a ln.size (csuf 10 ln).2 (cutL (csuf 10 ln).1 eqS)
theorem lnK_inr {tot : Nat} {kinds : List ByteArray} {out : List Ln} {a sz : Nat} {ended : Bool} {k : ByteArray × ByteArray × Bool} {l : List Ln} {a' : Nat} (h : lnK tot kinds out a sz ended k = .inr (l, a')) :
    out.length < 50 ∧ l = out ++ [(a, k.1, k.2.1)] ∧ a' = a + sz ∧ nameB k.1 = true ∧ ((metC kinds out).any fun x => decide (k.1 = x)) = false := by
  unfold lnK at h
  split at h
  · cases h
  split at h
  · cases h
  split at h
  · cases h
  split at h
  · cases h
  split at h
  · cases h
  rename_i h1 h2 h3 h4 h5
  cases h
  exact ⟨by omega, rfl, rfl, by simpa using h4, by cases hh : ((metC kinds out).any fun x => decide (k.1 = x)) with
    | true => exact absurd hh h5
    | false => rfl⟩
theorem csuf_szC (c : UInt8) (s : ByteArray) : (csuf c s).1.size ≤ s.size := by
  unfold csuf
  split
  · simp only [ByteArray.size_extract]; omega
  · exact Nat.le_refl _
theorem cutL_sz (s sep : ByteArray) : (cutL s sep).1.size ≤ s.size := by
  unfold cutL Go.Lib.cut
  split
  · rename_i a b c h
    split at h
    · cases h
      simp only [List.size_toArray]
      show (List.take _ s.data.toList).length ≤ _
      rw [List.length_take]
      have : s.data.toList.length = s.size := by rw [Array.length_toList]; rfl
      omega
    · cases h
      show (s.data.toList.toArray).size ≤ _
      simp
theorem numName_1 (x : ByteArray) (hx : x.size ≤ 1000000) : AP Tryz.prog 53 [.sl 1 [[.s x]]] (.b (nameB x)) := by
  have h := numNames [x] (by simp) (by simpa using hx)
  have e : [x].all nameB = nameB x := by simp
  rw [e] at h
  exact h
/-- The slots where the loop begins. -/
abbrev lpEC (s : ByteArray) (kinds : List ByteArray) : List D :=
  [.s s, Strs kinds, .pel [.s s], .any, .ref 0 0, .ref 1 0, .ref 2 0, .ref 3 0, .ref 6 0, .ref 7 0, .any, .any, .any, .any, .any, .any, Strs kinds, .own 5, .s s, .fn LNC [.ref 8 0]] ++ List.replicate 56 .any
abbrev resC (p e : Int) : List Ob := [.var 55 [.v (.slice none 0 0)], .var 3 [.i p], .var 27 [.v (.int .i64 e)]]
abbrev lpOC (ca cb : Code) (s : ByteArray) (kinds : List ByteArray) (st : LoopState) (pe : Option Code) : Ob := .lp #[20] ca cb st pe (lpEC s kinds)
/-- How the objects stand ahead of a line. -/
def lnO (kinds : List ByteArray) (out : List Ln) (sd kd : D) (o5 : Ob) (R : List Ob) : Prop :=
  (out = [] ∧ sd = .v (.slice none 0 0) ∧ kd = .own 5 ∧ o5 = strOb kinds ∧ R = []) ∨ (sd = .own 10 ∧ kd = .own 11 ∧ o5 = .dead ∧ R = [lnOb out, strOb (metC kinds out)])
abbrev lnOm (ca cb : Code) (s : ByteArray) (kinds : List ByteArray) (a : Nat) (r : ByteArray) (sd kd : D) (o5 : Ob) (R : List Ob) : List Ob :=
  resC 0 0 ++ [.var 55 [sd], .dead, o5, .var 22 [kd], .var 3 [.i a], .var 9 [.s r], lpOC ca cb s kinds .ready none] ++ R
def isInrC {α β : Type} : α ⊕ β → Bool
  | .inl _ => false
  | .inr _ => true
/-- How the objects stand behind a line. -/
def lnQ (ca cb : Code) (s : ByteArray) (kinds : List ByteArray) (r : ByteArray) (q : (Nat × Nat) ⊕ (List Ln × Nat)) (om' : List Ob) : Prop :=
  match q with
  | .inl (p, e) => ∃ o3 o4 o5 o6 o7 o8 M, om' = resC p e ++ [o3, o4, o5, o6, o7, o8, lpOC ca cb s kinds .done (some .ret)] ++ M
  | .inr (l, a) => om' = lnOm ca cb s kinds a r (.own 11) (.own 10) .dead [strOb (metC kinds l), lnOb l] ∨ om' = lnOm ca cb s kinds a r (.own 13) (.own 12) .dead [.dead, .dead, strOb (metC kinds l), lnOb l]
set_option maxHeartbeats 8000000 in
theorem roundC0 {ca cb : Code} (ha : lc ca = (f25_a17).st) (hb : lc cb = (f25_b17).st) (s : ByteArray) (kinds : List ByteArray) (hk : kinds.length ≤ 1000) (a : Nat) (ha' : a ≤ 70000) (r ln : ByteArray) (hln : ln.size ≤ 70000) :
    AY Tryz.prog 9 [.s ln] (lnOm ca cb s kinds a r (.v (.slice none 0 0)) (.own 5) (strOb kinds) [])
      (fun o om' => o = .ret (.b (isInrC (lnStep s.size kinds [] a ln))) ∧ lnQ ca cb s kinds r (lnStep s.size kinds [] a ln) om') := by
  have hC := csuf2 ln 10 (by omega)
  have hsz := csuf_szC 10 ln
  unfold lnStep
  generalize csuf 10 ln = c at hC hsz
  obtain ⟨b, ended⟩ := c
  simp only at hsz
  have hK := cutW b eqS (by omega)
  have hks := cutL_sz b eqS
  dsimp only
  generalize cutL b eqS = k at hK hks
  obtain ⟨nm, bd, okk⟩ := k
  dsimp only at hks
  refine AY.walk hT hm ha hb rfl rfl rfl ?_
  simp only [go_sem, Int.reduceEq, Int.reduceLE, Int.reduceLT, Int.reduceToNat]
  refine hC.pd ⟨.v, .v, trivial⟩ (csufD_bl _) ?_
  simp only [go_sem, Int.reduceEq, Int.reduceLE, Int.reduceLT, Int.reduceToNat]
  refine hK.pd ⟨.v, .v, trivial⟩ (cutLD_bl _) ?_
  cases ended with
  | false =>
    rw [show lnK s.size kinds [] a ln.size false (nm, bd, okk) = .inl (s.size, 2) from rfl]
    simp only [go_sem, Int.reduceEq, Int.reduceLE, Int.reduceLT, Int.reduceToNat, Bool.not_false]
    repeat' apply And.intro
    all_goals exact finSelf ⟨rfl, _, _, _, _, _, _, _, rfl⟩
  | true =>
  have z50 : ¬ (50 : Int) ≤ ((0 : Nat) : Int) := by omega
  cases okk with
  | false =>
    rw [show lnK s.size kinds [] a ln.size true (nm, bd, false) = .inl (a, 2) from by rfl]
    simp only [go_sem, Int.reduceEq, Int.reduceLE, Int.reduceLT, Int.reduceToNat, z50, Bool.not_true, Bool.not_false]
    repeat' apply And.intro
    all_goals exact finSelf ⟨rfl, _, _, _, _, _, _, _, rfl⟩
  | true =>
  simp only [go_sem, Int.reduceEq, Int.reduceLE, Int.reduceLT, Int.reduceToNat, z50, Bool.not_true, Bool.not_false]
  refine (numName_1 nm (by omega)).pv ⟨.same (Strs_bl [nm]), trivial⟩ ?_
  cases hn : nameB nm
  · rw [show lnK s.size kinds [] a ln.size true (nm, bd, true) = .inl (a, 2) from by show (if nameB nm = false then _ else _) = _; rw [if_pos hn]]
    simp only [go_sem, Int.reduceEq, Int.reduceLE, Int.reduceLT, Int.reduceToNat, Bool.not_false]
    repeat' apply And.intro
    all_goals exact finSelf ⟨rfl, _, _, _, _, _, _, _, rfl⟩
  simp only [go_sem, Int.reduceEq, Int.reduceLE, Int.reduceLT, Int.reduceToNat, Bool.not_true]
  refine (hasStr kinds nm (by omega)).pv ⟨.frzS rfl rfl (strR_bl _), .v, trivial⟩ ?_
  cases hh : kinds.any fun x => decide (nm = x)
  case true =>
    rw [show lnK s.size kinds [] a ln.size true (nm, bd, true) = .inl (a, 2) from by unfold lnK; rw [if_neg (by simp), if_neg (by simp), if_neg (by simp), if_neg (show ¬ nameB nm = false by rw [hn]; simp), if_pos (show ((metC kinds []).any fun x => decide (nm = x)) = true by unfold metC; rw [List.map_nil, List.append_nil]; exact hh)]]
    simp only [go_sem, Int.reduceEq, Int.reduceLE, Int.reduceLT, Int.reduceToNat]
    repeat' apply And.intro
    all_goals exact finSelf ⟨rfl, _, _, _, _, _, _, _, rfl⟩
  rw [show lnK s.size kinds [] a ln.size true (nm, bd, true) = .inr ([] ++ [(a, nm, bd)], a + ln.size) from by unfold lnK; rw [if_neg (by simp), if_neg (by simp), if_neg (by simp), if_neg (show ¬ nameB nm = false by rw [hn]; simp), if_neg (show ¬ ((metC kinds []).any fun x => decide (nm = x)) = true by unfold metC; rw [List.map_nil, List.append_nil, hh]; simp)]]
  have hw : IntKind.i64.wrap ((a : Int) + (ln.size : Int)) = ((a + ln.size : Nat) : Int) := by rw [wrap_int _ (by omega) (by omega)]; omega
  simp only [go_sem, Int.reduceEq, Int.reduceLE, Int.reduceLT, Int.reduceToNat, z50, List.length_map, hw]
  refine ⟨by omega, finSelf ⟨rfl, .inl ?_⟩⟩
  simp [metC]
set_option maxHeartbeats 8000000 in
theorem roundC1 {ca cb : Code} (ha : lc ca = (f25_a17).st) (hb : lc cb = (f25_b17).st) (s : ByteArray) (kinds : List ByteArray) (hk : kinds.length ≤ 1000) (out : List Ln) (hout : out.length ≤ 50) (a : Nat) (ha' : a ≤ 70000) (r ln : ByteArray) (hln : ln.size ≤ 70000) :
    AY Tryz.prog 9 [.s ln] (lnOm ca cb s kinds a r (.own 10) (.own 11) .dead [lnOb out, strOb (metC kinds out)])
      (fun o om' => o = .ret (.b (isInrC (lnStep s.size kinds out a ln))) ∧ lnQ ca cb s kinds r (lnStep s.size kinds out a ln) om') := by
  have hC := csuf2 ln 10 (by omega)
  have hsz := csuf_szC 10 ln
  unfold lnStep
  generalize csuf 10 ln = c at hC hsz
  obtain ⟨b, ended⟩ := c
  simp only at hsz
  have hK := cutW b eqS (by omega)
  have hks := cutL_sz b eqS
  dsimp only
  generalize cutL b eqS = k at hK hks
  obtain ⟨nm, bd, okk⟩ := k
  dsimp only at hks
  refine AY.walk hT hm ha hb rfl rfl rfl ?_
  simp only [go_sem, Int.reduceEq, Int.reduceLE, Int.reduceLT, Int.reduceToNat]
  refine hC.pd ⟨.v, .v, trivial⟩ (csufD_bl _) ?_
  simp only [go_sem, Int.reduceEq, Int.reduceLE, Int.reduceLT, Int.reduceToNat]
  refine hK.pd ⟨.v, .v, trivial⟩ (cutLD_bl _) ?_
  cases ended with
  | false =>
    rw [show lnK s.size kinds out a ln.size false (nm, bd, okk) = .inl (s.size, 2) from rfl]
    simp only [go_sem, Int.reduceEq, Int.reduceLE, Int.reduceLT, Int.reduceToNat, Bool.not_false]
    repeat' apply And.intro
    all_goals exact finSelf ⟨rfl, _, _, _, _, _, _, _, rfl⟩
  | true =>
  by_cases h50 : 50 ≤ out.length
  · have h50' : (50 : Int) ≤ out.length := by omega
    rw [show lnK s.size kinds out a ln.size true (nm, bd, okk) = .inl (a, 4) from by unfold lnK; rw [if_neg (by simp), if_pos h50]]
    simp only [go_sem, Int.reduceEq, Int.reduceLE, Int.reduceLT, Int.reduceToNat, h50', List.length_map, Bool.not_true]
    repeat' apply And.intro
    all_goals exact finSelf ⟨rfl, _, _, _, _, _, _, _, rfl⟩
  have h50' : ¬ (50 : Int) ≤ out.length := by omega
  cases okk with
  | false =>
    rw [show lnK s.size kinds out a ln.size true (nm, bd, false) = .inl (a, 2) from by unfold lnK; rw [if_neg (by simp), if_neg h50]; rfl]
    simp only [go_sem, Int.reduceEq, Int.reduceLE, Int.reduceLT, Int.reduceToNat, h50', List.length_map, Bool.not_true, Bool.not_false]
    repeat' apply And.intro
    all_goals exact finSelf ⟨rfl, _, _, _, _, _, _, _, rfl⟩
  | true =>
  simp only [go_sem, Int.reduceEq, Int.reduceLE, Int.reduceLT, Int.reduceToNat, h50', List.length_map, Bool.not_true, Bool.not_false]
  refine (numName_1 nm (by omega)).pv ⟨.same (Strs_bl [nm]), trivial⟩ ?_
  cases hn : nameB nm
  · rw [show lnK s.size kinds out a ln.size true (nm, bd, true) = .inl (a, 2) from by unfold lnK; rw [if_neg (by simp), if_neg h50]; show (if nameB nm = false then _ else _) = _; rw [if_pos hn]]
    simp only [go_sem, Int.reduceEq, Int.reduceLE, Int.reduceLT, Int.reduceToNat, Bool.not_false]
    repeat' apply And.intro
    all_goals exact finSelf ⟨rfl, _, _, _, _, _, _, _, rfl⟩
  simp only [go_sem, Int.reduceEq, Int.reduceLE, Int.reduceLT, Int.reduceToNat, Bool.not_true]
  refine (hasStr (metC kinds out) nm (by simp; omega)).pv ⟨.frzS rfl rfl (strR_bl _), .v, trivial⟩ ?_
  cases hh : (metC kinds out).any fun x => decide (nm = x)
  case true =>
    rw [show lnK s.size kinds out a ln.size true (nm, bd, true) = .inl (a, 2) from by unfold lnK; rw [if_neg (by simp), if_neg (by exact h50), if_neg (by simp), if_neg (show ¬ nameB nm = false by rw [hn]; simp), if_pos (show ((metC kinds out).any fun x => decide (nm = x)) = true by exact hh)]]
    simp only [go_sem, Int.reduceEq, Int.reduceLE, Int.reduceLT, Int.reduceToNat]
    repeat' apply And.intro
    all_goals exact finSelf ⟨rfl, _, _, _, _, _, _, _, rfl⟩
  rw [show lnK s.size kinds out a ln.size true (nm, bd, true) = .inr (out ++ [(a, nm, bd)], a + ln.size) from by unfold lnK; rw [if_neg (by simp), if_neg (by exact h50), if_neg (by simp), if_neg (show ¬ nameB nm = false by rw [hn]; simp), if_neg (show ¬ ((metC kinds out).any fun x => decide (nm = x)) = true by rw [hh]; simp)]]
  have hw : IntKind.i64.wrap ((a : Int) + (ln.size : Int)) = ((a + ln.size : Nat) : Int) := by rw [wrap_int _ (by omega) (by omega)]; omega
  simp only [go_sem, Int.reduceEq, Int.reduceLE, Int.reduceLT, Int.reduceToNat, h50', List.length_map, List.length_map, hw]
  have hml : (metC kinds out).length ≤ 2000 := by simp [metC]; omega
  have e1 : strR (metC kinds (out ++ [(a, nm, bd)])) = strR (metC kinds out) ++ [[.s nm]] := by simp [metC]
  have e2 : lnR (out ++ [(a, nm, bd)]) = lnR out ++ [[.i a, .s nm, .s bd]] := by simp
  refine ⟨by omega, by omega, finSelf ⟨rfl, .inr ?_⟩⟩
  show _ = resC 0 0 ++ _ ++ [.dead, .dead, .slc 9 1 (strR (metC kinds (out ++ [(a, nm, bd)]))), .slc 60 3 (lnR (out ++ [(a, nm, bd)]))]
  rw [e1, e2]
  rfl
/-- A text's first line, with its end; what is behind it. -/
def lineOfC (s : ByteArray) : ByteArray × ByteArray :=
  if ixN 10 s.data.toList < s.size then (s.extract 0 (ixN 10 s.data.toList + 1), s.extract (ixN 10 s.data.toList + 1) s.size) else (s, ⟨#[]⟩)
theorem lineOfC_size (s : ByteArray) (h : 0 < s.size) : (lineOfC s).1.size + (lineOfC s).2.size = s.size ∧ 0 < (lineOfC s).1.size := by
  unfold lineOfC
  split
  · simp only [ByteArray.size_extract]; omega
  · exact ⟨rfl, h⟩
/-- All lines. -/
def lnGo (tot : Nat) (kinds : List ByteArray) : Nat → ByteArray → List Ln → Nat → (Nat × Nat) ⊕ (List Ln × Nat)
  | 0, _, l, a => .inr (l, a)
  | n + 1, s, l, a =>
    if s.size = 0 then .inr (l, a)
    else match lnStep tot kinds l a (lineOfC s).1 with
      | .inl q => .inl q
      | .inr (l', a') => lnGo tot kinds n (lineOfC s).2 l' a'
theorem roundC {ca cb : Code} (ha : lc ca = (f25_a17).st) (hb : lc cb = (f25_b17).st) (s : ByteArray) (kinds : List ByteArray) (hk : kinds.length ≤ 1000) (out : List Ln) (hout : out.length ≤ 50) (sd kd : D) (o5 : Ob) (R : List Ob) (hO : lnO kinds out sd kd o5 R) (a : Nat) (ha' : a ≤ 70000) (r ln : ByteArray) (hln : ln.size ≤ 70000) :
    AY Tryz.prog 9 [.s ln] (lnOm ca cb s kinds a r sd kd o5 R)
      (fun o om' => o = .ret (.b (isInrC (lnStep s.size kinds out a ln))) ∧ lnQ ca cb s kinds r (lnStep s.size kinds out a ln) om') := by
  rcases hO with ⟨rfl, rfl, rfl, rfl, rfl⟩ | ⟨rfl, rfl, rfl, rfl⟩
  · exact roundC0 ha hb s kinds hk a ha' r ln hln
  · exact roundC1 ha hb s kinds hk out hout a ha' r ln hln
theorem cvLpE (s : ByteArray) (kinds : List ByteArray) {om : List Ob} {F : Nat → Bool} {ks : List (Option Nat)} (h : ∀ i, i < 10 → ks[i]? = some (some i)) : CvL om F ks (lpEC s kinds) (lpEC s kinds) := by
  have e1 : Cv om F ks (Strs kinds) (Strs kinds) := .same (Strs_bl kinds)
  have h0 := h 0 (by omega)
  have h1 := h 1 (by omega)
  have h2 := h 2 (by omega)
  have h3 := h 3 (by omega)
  have h5 := h 5 (by omega)
  have h6 := h 6 (by omega)
  have h7 := h 7 (by omega)
  have h8 := h 8 (by omega)
  simp only [lpEC, List.replicate, List.cons_append, List.nil_append, CvL]
  simp [e1, h0, h1, h2, h3, h5, h6, h7, h8]
  exact .fnL (by simp [CvL, h8])
end Go.Proofs.YtdliolbjngcgcaaGreat.W
set_option maxRecDepth 100000
/- The lines of a grammar's text, one behind the other. -/
namespace Go.Proofs.YtdliolbjngcgcaaGreat.W
open Go Go.Proofs Go.Proofs.YtdliolbjngcgcaaGreat.AWP
attribute [local irreducible] xl hide aop aops aopQ qops guardP condP
/-- How the objects stand behind all lines. -/
def lnF (ca cb : Code) (s : ByteArray) (kinds : List ByteArray) (r : ByteArray) (q : (Nat × Nat) ⊕ (List Ln × Nat)) (om' : List Ob) : Prop :=
  match q with
  | .inl (p, e) => ∃ o3 o4 o5 o6 o7 o8 M, om' = resC p e ++ [o3, o4, o5, o6, o7, o8, lpOC ca cb s kinds .done (some .ret)] ++ M
  | .inr (l, a) => ∃ sd kd o5 R, lnO kinds l sd kd o5 R ∧ om' = lnOm ca cb s kinds a r sd kd o5 R
theorem lnMv0 (ca cb : Code) (s : ByteArray) (kinds : List ByteArray) (a : Nat) (r : ByteArray) (l : List Ln) {F : Nat → Bool} :
    MvL (lnOm ca cb s kinds a r (.own 11) (.own 10) .dead [strOb (metC kinds l), lnOb l]) F [some 0, some 1, some 2, some 3, some 4, some 5, some 6, some 7, some 8, some 9, some 11, some 10] [some 0, some 1, some 2, some 3, some 4, some 5, some 6, some 7, some 8, some 9, some 11, some 10]
      (lnOm ca cb s kinds a r (.own 10) (.own 11) .dead [lnOb l, strOb (metC kinds l)]) := by
  refine ⟨.varS rfl (by simp), .varS rfl (by simp), .varS rfl (by simp), .varL rfl (by simp [CvL]), .deadE (by simp), .deadE (by simp), .varL rfl (by simp [CvL]), .varS rfl (by simp), .varS rfl (by simp), .lpL rfl (cvLpE s kinds fun i hi => ?_), .slcS rfl (lnR_bl l), .slcS rfl (strR_bl _), trivial⟩
  match i, hi with
  | 0, _ => rfl
  | 1, _ => rfl
  | 2, _ => rfl
  | 3, _ => rfl
  | 4, _ => rfl
  | 5, _ => rfl
  | 6, _ => rfl
  | 7, _ => rfl
  | 8, _ => rfl
  | 9, _ => rfl
theorem lnMv1 (ca cb : Code) (s : ByteArray) (kinds : List ByteArray) (a : Nat) (r : ByteArray) (l : List Ln) {F : Nat → Bool} :
    MvL (lnOm ca cb s kinds a r (.own 13) (.own 12) .dead [.dead, .dead, strOb (metC kinds l), lnOb l]) F [some 0, some 1, some 2, some 3, some 4, some 5, some 6, some 7, some 8, some 9, some 13, some 12] [some 0, some 1, some 2, some 3, some 4, some 5, some 6, some 7, some 8, some 9, some 13, some 12]
      (lnOm ca cb s kinds a r (.own 10) (.own 11) .dead [lnOb l, strOb (metC kinds l)]) := by
  refine ⟨.varS rfl (by simp), .varS rfl (by simp), .varS rfl (by simp), .varL rfl (by simp [CvL]), .deadE (by simp), .deadE (by simp), .varL rfl (by simp [CvL]), .varS rfl (by simp), .varS rfl (by simp), .lpL rfl (cvLpE s kinds fun i hi => ?_), .slcS rfl (lnR_bl l), .slcS rfl (strR_bl _), trivial⟩
  match i, hi with
  | 0, _ => rfl
  | 1, _ => rfl
  | 2, _ => rfl
  | 3, _ => rfl
  | 4, _ => rfl
  | 5, _ => rfl
  | 6, _ => rfl
  | 7, _ => rfl
  | 8, _ => rfl
  | 9, _ => rfl
theorem lnStep_inr {tot : Nat} {kinds : List ByteArray} {l : List Ln} {a : Nat} {ln : ByteArray} {l' : List Ln} {a' : Nat} (h : lnStep tot kinds l a ln = .inr (l', a')) : l.length < 50 ∧ l'.length = l.length + 1 ∧ a' = a + ln.size := by
  obtain ⟨h1, h2, h3, _, _⟩ := lnK_inr h
  exact ⟨h1, by rw [h2]; simp, h3⟩
set_option maxHeartbeats 8000000 in
theorem lines1C {ca cb : Code} (ha : lc ca = (f25_a17).st) (hb : lc cb = (f25_b17).st) (s : ByteArray) (hs : s.size ≤ 70000) (kinds : List ByteArray) (hk : kinds.length ≤ 1000) :
    AC Tryz.prog LNC [.yld 9, .ref 8 0] (lnOm ca cb s kinds 0 s (.v (.slice none 0 0)) (.own 5) (strOb kinds) [])
      (fun o om' => o = .ret (.tup []) ∧ ∃ r, lnF ca cb s kinds r (lnGo s.size kinds s.size s [] 0) om') := by
  refine AC.lbody hT hm Tryz.func78 f78_nm f78_lc f78_res f78_nt ?_
  simp only [go_sem, Int.reduceEq, Int.reduceLE, Int.reduceLT, Int.reduceToNat]
  refine xl_loopM hT hm (fun i : ByteArray × List Ln × Nat × D × D × Ob × List Ob => ⟨f78_i7 (.yld 9) (.ref 8 0), lnOm ca cb s kinds i.2.2.1 i.1 i.2.2.2.1 i.2.2.2.2.1 i.2.2.2.2.2.1 i.2.2.2.2.2.2⟩)
    (fun i => lnO kinds i.2.1 i.2.2.2.1 i.2.2.2.2.1 i.2.2.2.2.2.1 i.2.2.2.2.2.2 ∧ i.2.1.length ≤ 50 ∧ i.2.2.1 + i.1.size = s.size ∧ ∃ n, i.1.size ≤ n ∧ lnGo s.size kinds s.size s [] 0 = lnGo s.size kinds n i.1 i.2.1 i.2.2.1) (fun i => i.1.size) (s, [], 0, .v (.slice none 0 0), .own 5, strOb kinds, [])
    ⟨.inl ⟨rfl, rfl, rfl, rfl, rfl⟩, by simp, by simp, s.size, Nat.le_refl _, rfl⟩ (Mv.keep (by simp [f78_i7])) ?_
  rintro ⟨r, l, a, sd, kd, o5, R⟩ ⟨h1, h2, h3, n, h4, h5⟩
  simp only at h1 h2 h3 h4 h5
  simp only [go_sem, Int.reduceEq, Int.reduceLE, Int.reduceLT, Int.reduceToNat]
  by_cases h0 : 0 < r.size
  case neg =>
    have h0' : ¬ (0 : Int) < r.size := by omega
    simp only [go_sem, Int.reduceEq, Int.reduceLE, Int.reduceLT, Int.reduceToNat, h0']
    refine finSelf ⟨rfl, r, ?_⟩
    rw [h5]
    have : lnGo s.size kinds n r l a = .inr (l, a) := by
      cases n with
      | zero => rfl
      | succ n => rw [lnGo, if_pos (by omega)]
    rw [this]
    exact ⟨sd, kd, o5, R, h1, rfl⟩
  have h0' : (0 : Int) < r.size := by omega
  obtain ⟨hL1, hL2⟩ := lineOfC_size r h0
  obtain ⟨m, rfl⟩ : ∃ m, n = m + 1 := ⟨n - 1, by omega⟩
  rw [lnGo, if_neg (by omega)] at h5
  have hix := idx2 r 10
  simp only [go_sem, Int.reduceEq, Int.reduceLE, Int.reduceLT, Int.reduceToNat, h0']
  refine hix.pv ⟨.v, .v, trivial⟩ ?_
  have fin : ∀ om', lnQ ca cb s kinds (lineOfC r).2 (lnStep s.size kinds l a (lineOfC r).1) om' →
      (isInrC (lnStep s.size kinds l a (lineOfC r).1) = true → ∃ l' a', (l'.length ≤ 50 ∧ a' + (lineOfC r).2.size = s.size ∧ ∃ n, (lineOfC r).2.size ≤ n ∧ lnGo s.size kinds s.size s [] 0 = lnGo s.size kinds n (lineOfC r).2 l' a') ∧
        (om' = lnOm ca cb s kinds a' (lineOfC r).2 (.own 11) (.own 10) .dead [strOb (metC kinds l'), lnOb l'] ∨ om' = lnOm ca cb s kinds a' (lineOfC r).2 (.own 13) (.own 12) .dead [.dead, .dead, strOb (metC kinds l'), lnOb l'])) ∧
      (isInrC (lnStep s.size kinds l a (lineOfC r).1) = false → ∃ r, lnF ca cb s kinds r (lnGo s.size kinds s.size s [] 0) om') := by
    intro om' hq
    cases hst : lnStep s.size kinds l a (lineOfC r).1 with
    | inl q =>
      rw [hst] at hq h5
      refine ⟨fun h => (by cases h), fun _ => ⟨(lineOfC r).2, ?_⟩⟩
      rw [h5]
      exact hq
    | inr q =>
      obtain ⟨l', a'⟩ := q
      rw [hst] at hq h5
      refine ⟨fun _ => ?_, fun h => (by cases h)⟩
      have hr := lnStep_inr hst
      exact ⟨l', a', ⟨by omega, by omega, m, by omega, h5⟩, hq⟩
  by_cases hx : ixN 10 r.data.toList < r.size
  · have e1 : ixS 10 r = (ixN 10 r.data.toList : Int) := by unfold ixS; rw [if_pos hx]
    have e2 : lineOfC r = (r.extract 0 (ixN 10 r.data.toList + 1), r.extract (ixN 10 r.data.toList + 1) r.size) := by unfold lineOfC; rw [if_pos hx]
    rw [e1]
    have hR := roundC ha hb s kinds hk l h2 sd kd o5 R h1 a (by omega) (lineOfC r).2 (lineOfC r).1 (by omega)
    generalize lnStep s.size kinds l a (lineOfC r).1 = st at fin hR
    have hlt : (lineOfC r).2.size < r.size := by omega
    generalize hlo : lineOfC r = lo at fin hR hlt
    rw [e2] at hlo
    generalize ixN 10 r.data.toList = k at hx hlo
    have hw := wrap_succ k (by omega)
    have hg : (0 : Int) ≤ k := by omega
    have hk1 : k + 1 ≤ r.size := hx
    simp only [go_sem, Int.reduceEq, Int.reduceLE, Int.reduceLT, Int.reduceToNat, hg, hw, hk1, Nat.zero_le, Nat.le_refl]
    subst hlo
    refine ⟨_, hR, ?_⟩
    rintro o om' ⟨rfl, hq⟩
    have fin := fin om' hq
    cases hi : isInrC st with
    | true =>
      obtain ⟨l', a', p1, rfl | rfl⟩ := fin.1 hi
      · simp only [go_sem, Int.reduceEq, Int.reduceLE, Int.reduceLT, Int.reduceToNat]
        exact ⟨(_, l', a', .own 10, .own 11, .dead, [lnOb l', strOb (metC kinds l')]), ⟨.inr ⟨rfl, rfl, rfl, rfl⟩, p1⟩, hlt, Mv.of [some 0, some 1, some 2, some 3, some 4, some 5, some 6, some 7, some 8, some 9, some 11, some 10] rfl (lnMv0 ca cb s kinds a' _ l') (by simp [f78_i7])⟩
      · simp only [go_sem, Int.reduceEq, Int.reduceLE, Int.reduceLT, Int.reduceToNat]
        exact ⟨(_, l', a', .own 10, .own 11, .dead, [lnOb l', strOb (metC kinds l')]), ⟨.inr ⟨rfl, rfl, rfl, rfl⟩, p1⟩, hlt, Mv.of [some 0, some 1, some 2, some 3, some 4, some 5, some 6, some 7, some 8, some 9, some 13, some 12] rfl (lnMv1 ca cb s kinds a' _ l') (by simp [f78_i7])⟩
    | false =>
      simp only [go_sem, Int.reduceEq, Int.reduceLE, Int.reduceLT, Int.reduceToNat]
      exact finSelf ⟨rfl, fin.2 hi⟩
  · have e1 : ixS 10 r = -1 := by unfold ixS; rw [if_neg hx]
    have e2 : lineOfC r = (r, ⟨#[]⟩) := by unfold lineOfC; rw [if_neg hx]
    rw [e1]
    have hR := roundC ha hb s kinds hk l h2 sd kd o5 R h1 a (by omega) (lineOfC r).2 (lineOfC r).1 (by omega)
    generalize lnStep s.size kinds l a (lineOfC r).1 = st at fin hR
    have hlt : (lineOfC r).2.size < r.size := by omega
    generalize hlo : lineOfC r = lo at fin hR hlt
    rw [e2] at hlo
    simp only [go_sem, Int.reduceEq, Int.reduceLE, Int.reduceLT, Int.reduceToNat]
    subst hlo
    refine ⟨_, hR, ?_⟩
    rintro o om' ⟨rfl, hq⟩
    have fin := fin om' hq
    cases hi : isInrC st with
    | true =>
      obtain ⟨l', a', p1, rfl | rfl⟩ := fin.1 hi
      · simp only [go_sem, Int.reduceEq, Int.reduceLE, Int.reduceLT, Int.reduceToNat]
        exact ⟨(_, l', a', .own 10, .own 11, .dead, [lnOb l', strOb (metC kinds l')]), ⟨.inr ⟨rfl, rfl, rfl, rfl⟩, p1⟩, hlt, Mv.of [some 0, some 1, some 2, some 3, some 4, some 5, some 6, some 7, some 8, some 9, some 11, some 10] rfl (lnMv0 ca cb s kinds a' _ l') (by simp [f78_i7])⟩
      · simp only [go_sem, Int.reduceEq, Int.reduceLE, Int.reduceLT, Int.reduceToNat]
        exact ⟨(_, l', a', .own 10, .own 11, .dead, [lnOb l', strOb (metC kinds l')]), ⟨.inr ⟨rfl, rfl, rfl, rfl⟩, p1⟩, hlt, Mv.of [some 0, some 1, some 2, some 3, some 4, some 5, some 6, some 7, some 8, some 9, some 13, some 12] rfl (lnMv1 ca cb s kinds a' _ l') (by simp [f78_i7])⟩
    | false =>
      simp only [go_sem, Int.reduceEq, Int.reduceLE, Int.reduceLT, Int.reduceToNat]
      exact finSelf ⟨rfl, fin.2 hi⟩
end Go.Proofs.YtdliolbjngcgcaaGreat.W
set_option maxRecDepth 100000
/- The lines of a grammar's text: all of them. -/
namespace Go.Proofs.YtdliolbjngcgcaaGreat.W
open Go Go.Proofs Go.Proofs.YtdliolbjngcgcaaGreat.AWP
attribute [local irreducible] xl hide aop aops aopQ qops guardP condP
def linesQ : (Nat × Nat) ⊕ (List Ln × Nat) → List Ln × Nat × Nat
  | .inl (p, e) => ([], p, e)
  | .inr (l, _) => if l = [] then ([], 0, 2) else (l, 0, 0)
/-- The lines of a grammar's text; a place; an error's number. -/
def linesR (s : ByteArray) (kinds : List ByteArray) : List Ln × Nat × Nat := linesQ (lnGo s.size kinds s.size s [] 0)
abbrev linesD (x : List Ln × Nat × Nat) : D := .tup [Lns x.1, .i x.2.1, .i x.2.2]
theorem linesD_bl (x : List Ln × Nat × Nat) : Bl 0 (linesD x) := .tup (by
  intro d hd
  simp only [List.mem_cons, List.not_mem_nil, or_false] at hd
  rcases hd with rfl | rfl | rfl
  · exact Lns_bl _
  · exact .v _
  · exact .v _)
set_option maxHeartbeats 8000000 in
theorem cLines (s : ByteArray) (hs : s.size ≤ 70000) (kinds : List ByteArray) (hk : kinds.length ≤ 1000) (hk0 : kinds ≠ []) : AP Tryz.prog 25 [.s s, Strs kinds] (linesD (linesR s kinds)) := by
  unfold linesR
  refine AC.lbody hT hm Tryz.func25 f25_nm f25_lc f25_res f25_nt ?_
  simp only [go_sem, Int.reduceEq, Int.reduceLE, Int.reduceLT, Int.reduceToNat]
  refine ⟨_, cloneS kinds (by omega) _, ?_⟩
  rintro _ _ (⟨h0, rfl, rfl⟩ | ⟨rfl, rfl⟩)
  · exact absurd h0 hk0
  simp only [go_sem, Int.reduceEq, Int.reduceLE, Int.reduceLT, Int.reduceToNat]
  refine ⟨_, linesC s _, ?_⟩
  rintro _ _ ⟨rfl, rfl⟩
  simp only [go_sem, Int.reduceEq, Int.reduceLE, Int.reduceLT, Int.reduceToNat, W_rfun]
  intro ca cb ha hb
  refine ⟨_, lines1C ha hb s hs kinds hk, ?_⟩
  rintro _ om' ⟨rfl, r, hq⟩
  clear ha hb
  generalize lnGo s.size kinds s.size s [] 0 = q at hq ⊢
  cases q with
  | inl q =>
    obtain ⟨p, e⟩ := q
    rw [show linesQ (.inl (p, e)) = ([], p, e) from rfl]
    obtain ⟨o3, o4, o5, o6, o7, o8, M, rfl⟩ := hq
    simp only [go_sem, Int.reduceEq, Int.reduceLE, Int.reduceLT, Int.reduceToNat]
    refine ⟨by simp, ?_⟩
    exact Fin.ret (.tupL ⟨.nil, .v, .v, trivial⟩)
  | inr q =>
    obtain ⟨l, a⟩ := q
    obtain ⟨sd, kd, o5, R, hr, rfl⟩ := hq
    rw [show linesQ (.inr (l, a)) = if l = [] then ([], 0, 2) else (l, 0, 0) from rfl]
    rcases hr with ⟨rfl, rfl, rfl, rfl, rfl⟩ | ⟨rfl, rfl, rfl, rfl⟩
    · have z : (((0 : Nat) : Int) == 0) = true := rfl
      rw [if_pos rfl]
      simp only [go_sem, Int.reduceEq, Int.reduceLE, Int.reduceLT, Int.reduceToNat, z]
      refine ⟨by simp, ?_⟩
      exact Fin.ret (.tupL ⟨.nil, .v, .v, trivial⟩)
    by_cases hl0 : l = []
    · subst hl0
      have z : (((0 : Nat) : Int) == 0) = true := rfl
      rw [if_pos rfl]
      simp only [go_sem, Int.reduceEq, Int.reduceLE, Int.reduceLT, Int.reduceToNat, List.length_map, List.length_nil, z]
      refine ⟨by simp, ?_⟩
      exact Fin.ret (.tupL ⟨.nil, .v, .v, trivial⟩)
    have z : (((l.length : Nat) : Int) == 0) = false := by
      rw [beq_eq_false_iff_ne]
      have := List.length_pos_iff.2 hl0
      omega
    rw [if_neg hl0]
    simp only [go_sem, Int.reduceEq, Int.reduceLE, Int.reduceLT, Int.reduceToNat, List.length_map, z]
    refine ⟨by simp, ?_⟩
    exact Fin.ret (.tupL ⟨.frzS rfl rfl (lnR_bl l), .v, .v, trivial⟩)
end Go.Proofs.YtdliolbjngcgcaaGreat.W
set_option maxRecDepth 100000
/- The document's lines: where one ends, its name. -/
namespace Go.Proofs.YtdliolbjngcgcaaGreat.W
open Go Go.Proofs Go.Proofs.YtdliolbjngcgcaaGreat.AWP
attribute [local irreducible] xl hide aop aops aopQ qops guardP condP
/-- Where a line ends, from a place on. -/
def findN (s : ByteArray) (p : Nat) : Nat := p + ixN 10 (s.data.toList.drop p)
theorem rFind (s : ByteArray) (p : Nat) (hs : s.size ≤ 70000) (hp : p ≤ s.size) : AP Tryz.prog 30 [.s s, .i p] (.i (findN s p)) := by
  refine AC.lbody hT hm Tryz.func30 f30_nm f30_lc f30_res f30_nt ?_
  simp only [go_sem, Int.reduceEq, Int.reduceLE, Int.reduceLT, Int.reduceToNat]
  refine xl_loopM hT hm (fun i : Nat => ⟨f30_i3 (.s s) (.i i), []⟩)
    (fun i => i ≤ s.size ∧ i + ixN 10 (s.data.toList.drop i) = findN s p) (fun i => s.size - i) p ⟨hp, rfl⟩ (Mv.none (by simp [f30_i3])) ?_
  rintro i ⟨hi', hi⟩
  simp only [go_sem, Int.reduceEq, Int.reduceLE, Int.reduceLT, Int.reduceToNat]
  by_cases h : i < s.size
  case neg =>
    simp only [go_sem, Int.reduceEq, Int.reduceLE, Int.reduceLT, Int.reduceToNat, h]
    rw [List.drop_of_length_le (by rw [Array.length_toList]; exact Nat.le_of_not_lt h)] at hi
    rw [← hi]
    exact Fin.v rfl
  obtain ⟨b, hb⟩ := get_lt h
  rw [drop_get (by rw [Array.getElem?_toList]; exact hb), ixN] at hi
  by_cases h10 : b = 10
  · have e : ((b.toNat : Int) != 10) = false := by rw [h10]; rfl
    simp only [go_sem, Int.reduceEq, Int.reduceLE, Int.reduceLT, Int.reduceToNat, h, hb, e]
    rw [if_pos h10] at hi
    rw [← hi]
    exact Fin.v rfl
  · have h10' : b.toNat ≠ 10 := fun hh => h10 (UInt8.toNat_inj.1 hh)
    have e : ((b.toNat : Int) != 10) = true := by simp; omega
    have hw := wrap_succ i (by omega)
    simp only [go_sem, Int.reduceEq, Int.reduceLE, Int.reduceLT, Int.reduceToNat, h, hb, e, hw]
    rw [if_neg h10] at hi
    exact ⟨i + 1, ⟨h, by omega⟩, by omega, Mv.none (by simp [f30_i3])⟩
theorem beqB (a b : ByteArray) : (a.toList == b.toList) = (a.data.toList == b.data.toList) := by rw [ByteArray.toList_eq, ByteArray.toList_eq]
/-- How long a line's name is; -1. -/
def headI (t : ByteArray) : Int := if (cutL t eqS).2.2 = true ∧ nameB (cutL t eqS).1 = true then ((cutL t eqS).1.size : Int) else -1
set_option maxHeartbeats 1000000 in
theorem rHead (t : ByteArray) (ht : t.size ≤ 70000) : AP Tryz.prog 31 [.s t] (.i (headI t)) := by
  have hz : eqS.size = 3 := rfl
  refine AC.lbody hT hm Tryz.func31 f31_nm f31_lc f31_res f31_nt ?_
  simp only [go_sem, Int.reduceEq, Int.reduceLE, Int.reduceLT, Int.reduceToNat]
  refine xl_loopM hT hm (fun i : Nat => ⟨f31_i8 (.s t) (.i i), []⟩)
    (fun i => i ≤ t.size ∧ Go.Lib.NoOccB t eqS i) (fun i => t.size - i) 0 ⟨Nat.zero_le _, fun j hj => by omega⟩ (Mv.none (by simp [f31_i8])) ?_
  rintro i ⟨hi', hno⟩
  have hw3 : IntKind.i64.wrap ((i : Int) + 3) = ((i + 3 : Nat) : Int) := by rw [wrap_int _ (by omega) (by omega)]; omega
  have hw := wrap_succ i (by omega)
  simp only [go_sem, Int.reduceEq, Int.reduceLE, Int.reduceLT, Int.reduceToNat, hw3]
  by_cases h : i + 3 ≤ t.size
  case neg =>
    have hix := Go.Lib.past t eqS i hno (by omega) (by omega)
    obtain ⟨_, _, h3⟩ := Go.Lib.cutB_miss t eqS hix
    have hI : headI t = -1 := by unfold headI; rw [if_neg]; intro hh; rw [show (cutL t eqS).2.2 = false from h3] at hh; exact absurd hh.1 (by simp)
    simp only [go_sem, Int.reduceEq, Int.reduceLE, Int.reduceLT, Int.reduceToNat, h]
    rw [hI]
    exact Fin.v rfl
  have hle : i ≤ i + 3 := by omega
  simp only [go_sem, Int.reduceEq, Int.reduceLE, Int.reduceLT, Int.reduceToNat, h, hle, hw3]
  cases hp : ((t.extract i (i + 3)).data.toList == eqS.data.toList)
  · have hp' : ((t.extract i (i + 3)).toList == eqS.toList) = false := by rw [beqB]; exact hp
    have hno' := Go.Lib.miss_piece t eqS i hno (by omega) hp'
    simp only [go_sem, Int.reduceEq, Int.reduceLE, Int.reduceLT, Int.reduceToNat, hw, hp]
    exact ⟨i + 1, ⟨by omega, hno'⟩, by omega, Mv.none (by simp [f31_i8])⟩
  · have hp' : ((t.extract i (i + 3)).toList == eqS.toList) = true := by rw [beqB]; exact hp
    have hix := Go.Lib.hit t eqS i hno (by omega) hp'
    obtain ⟨h1, _, h3⟩ := Go.Lib.cutB_hit t eqS i hix
    have h1' : (cutL t eqS).1 = t.extract 0 i := h1
    have h3' : (cutL t eqS).2.2 = true := h3
    have hil : i ≤ t.size := hi'
    have hsz : (t.extract 0 i).size = i := by rw [ByteArray.size_extract]; omega
    unfold headI
    rw [h1', h3', hsz]
    simp only [go_sem, Int.reduceEq, Int.reduceLE, Int.reduceLT, Int.reduceToNat, hp, hil, Nat.zero_le]
    refine (rName (t.extract 0 i)).pv ⟨.v, trivial⟩ ?_
    cases hn : nameB (t.extract 0 i)
    · simp only [go_sem, Int.reduceEq, Int.reduceLE, Int.reduceLT, Int.reduceToNat]
      exact Fin.v rfl
    · simp only [go_sem, Int.reduceEq, Int.reduceLE, Int.reduceLT, Int.reduceToNat]
      exact Fin.v rfl
end Go.Proofs.YtdliolbjngcgcaaGreat.W
set_option maxRecDepth 100000
/- Are expressions the same; grammars? -/
namespace Go.Proofs.YtdliolbjngcgcaaGreat.W
open Go Go.Proofs Go.Proofs.YtdliolbjngcgcaaGreat.AWP
attribute [local irreducible] xl hide aop aops aopQ qops guardP condP
theorem bneF {α : Type} [BEq α] [LawfulBEq α] (a : α) : (a != a) = false := by simp
theorem rSame (a : Cf) : ∀ b : Cf, AP Tryz.prog 23 [.agg a.c, .agg b.c] (.b (a.same b)) := by
  refine Cf.ind (p := fun a => ∀ b : Cf, AP Tryz.prog 23 [.agg a.c, .agg b.c] (.b (a.same b))) (fun k n l IH b => ?_) a
  obtain ⟨k', n', l'⟩ := b
  refine AC.wf rfl fun hw => ?_
  have hl : l.length ≤ 9223372036854775807 := by
    have h1 := (hw (.agg (Cf.mk k n l).c) (List.mem_cons_self ..)).agg_mem (Cfs l) (by rw [Cf.c_mk]; simp)
    have := h1.sl_len
    rwa [cfs_len] at this
  have hqa : ∀ (r : Cf) om (F : Nat → Bool) (ks : List (Option Nat)), Cv om F ks (.pel r.c) (.pel r.c) := fun r om F ks => .same (Cf.pel_bl r)
  rw [Cf.same_mk]
  refine AC.lbody hT hm Tryz.func23 f23_nm f23_lc f23_res f23_nt ?_
  simp only [go_sem, Int.reduceEq, Int.reduceLE, Int.reduceLT, Int.reduceToNat, Cf.c_mk, cfs_len, List.length_map]
  by_cases hk : k = k'
  case neg =>
    have e : (k != k') = true := by simp [hk]
    simp only [go_sem, Int.reduceEq, Int.reduceLE, Int.reduceLT, Int.reduceToNat, e]
    exact Fin.v (by rw [decide_eq_false (fun h => hk h.1), Bool.false_and])
  subst hk
  by_cases hn : n = n'
  case neg =>
    have e : (n != n') = true := by simp [hn]
    simp only [go_sem, Int.reduceEq, Int.reduceLE, Int.reduceLT, Int.reduceToNat, bneF, e]
    exact Fin.v (by rw [decide_eq_false (fun h => hn h), Bool.false_and])
  subst hn
  by_cases hll : l.length = l'.length
  case neg =>
    have e : ((l.length : Int) != (l'.length : Int)) = true := by simp; omega
    simp only [go_sem, Int.reduceEq, Int.reduceLE, Int.reduceLT, Int.reduceToNat, bneF, e, List.length_map, cfs_len]
    exact Fin.v (by rw [Cf.sames_len l l' hll])
  have e : ((l.length : Int) != (l'.length : Int)) = false := by simp; omega
  rw [decide_eq_true (show k = k ∧ n = n from ⟨rfl, rfl⟩), Bool.true_and]
  simp only [go_sem, Int.reduceEq, Int.reduceLE, Int.reduceLT, Int.reduceToNat, bneF, e, List.length_map, cfs_len]
  have hqP : ∀ (l : List Cf) om (F : Nat → Bool) (ks : List (Option Nat)), Cv om F ks (.pel [.v (.int .u8 k), .v (.int .i64 n), .sl 3 (l.map Cf.c)]) (.pel [.v (.int .u8 k), .v (.int .i64 n), .sl 3 (l.map Cf.c)]) := fun l om F ks => by
    have := hqa (.mk k n l) om F ks
    rwa [Cf.c_mk, Cf.cs_eq] at this
  refine xl_loopM hT hm (fun i : Nat => ⟨f23_i9 (.pel [.v (.int .u8 k), .v (.int .i64 n), .sl 3 (l.map Cf.c)]) (.pel [.v (.int .u8 k), .v (.int .i64 n), .sl 3 (l'.map Cf.c)]) (.i l.length) (.i i), []⟩)
    (fun i => i ≤ l.length ∧ Cf.sames l l' = Cf.sames (l.drop i) (l'.drop i)) (fun i => l.length - i) 0 ⟨Nat.zero_le _, rfl⟩ (Mv.none (by simp only [f23_i9, CvL]; simp [hqP])) ?_
  rintro i ⟨hi, hs⟩
  simp only [go_sem, Int.reduceEq, Int.reduceLE, Int.reduceLT, Int.reduceToNat, List.length_map]
  by_cases h : i < l.length
  case neg =>
    simp only [go_sem, Int.reduceEq, Int.reduceLE, Int.reduceLT, Int.reduceToNat, h]
    rw [List.drop_of_length_le (by omega), List.drop_of_length_le (by omega)] at hs
    exact Fin.v (by rw [hs, Cf.sames])
  obtain ⟨x, hx⟩ := get_ex h
  obtain ⟨y, hy⟩ := get_ex (l := l') (show i < l'.length by omega)
  have hlt : i < l'.length := by omega
  rw [drop_get hx, drop_get hy, Cf.sames_cons] at hs
  have hwi := wrap_succ i (by omega)
  simp only [go_sem, Int.reduceEq, Int.reduceLE, Int.reduceLT, Int.reduceToNat, h, hlt, hx, hy, List.length_map, Cf.c_take]
  refine (IH x (List.mem_of_getElem? hx) y).pv ⟨.same (Cf.d_bl x), .same (Cf.d_bl y), trivial⟩ ?_
  cases hxy : x.same y
  · simp only [go_sem, Int.reduceEq, Int.reduceLE, Int.reduceLT, Int.reduceToNat, Bool.not_false]
    exact Fin.v (by rw [hs, hxy, Bool.false_and])
  · simp only [go_sem, Int.reduceEq, Int.reduceLE, Int.reduceLT, Int.reduceToNat, Bool.not_true, hwi]
    exact ⟨i + 1, ⟨h, by rw [hs, hxy, Bool.true_and]⟩, by omega, Mv.none (by simp only [CvL]; simp [hqP])⟩
theorem ba_bne (a : ByteArray) : (a.data.toList != a.data.toList) = false := by simp
set_option maxHeartbeats 1000000 in
theorem rSameAll (g : Gr) (hk : g.kinds.length ≤ 1000000) (hd : g.defs.length ≤ 1000000) : AP Tryz.prog 10 [.agg g.c, .agg g.c] (.b true) := by
  have hq := pelG g
  have ek : ((g.kinds.length : Int) != (g.kinds.length : Int)) = false := by simp
  have ed : ((g.defs.length : Int) != (g.defs.length : Int)) = false := by simp
  refine AC.lbody hT hm Tryz.func10 f10_nm f10_lc f10_res f10_nt ?_
  simp only [go_sem, Int.reduceEq, Int.reduceLE, Int.reduceLT, Int.reduceToNat, List.length_map, ek, ed]
  refine xl_loopM hT hm (fun i : Nat => ⟨f10_i9 (.pel g.c) (.pel g.c) (.i g.kinds.length) (.i i), []⟩)
    (fun i => i ≤ g.kinds.length) (fun i => g.kinds.length - i) 0 (Nat.zero_le _) (Mv.none (by simp only [f10_i9, CvL]; simp [hq])) ?_
  intro i hi
  simp only [go_sem, Int.reduceEq, Int.reduceLE, Int.reduceLT, Int.reduceToNat, List.length_map]
  by_cases h : i < g.kinds.length
  · obtain ⟨x, hx⟩ := get_ex h
    have hwi := wrap_succ i (by omega)
    have hxx := ba_bne x
    simp only [go_sem, Int.reduceEq, Int.reduceLE, Int.reduceLT, Int.reduceToNat, h, hx, List.length_map, hxx, hwi]
    exact ⟨i + 1, h, by omega, Mv.none (by simp only [CvL]; simp [hq])⟩
  simp only [go_sem, Int.reduceEq, Int.reduceLE, Int.reduceLT, Int.reduceToNat, h, List.length_map]
  clear h hi
  refine xl_loopM hT hm (fun i : Nat => ⟨f10_i16 (.pel g.c) (.pel g.c) (.i g.defs.length) (.i i), []⟩)
    (fun i => i ≤ g.defs.length) (fun i => g.defs.length - i) 0 (Nat.zero_le _) (Mv.none (by simp only [f10_i16, CvL]; simp [hq])) ?_
  intro i hi
  simp only [go_sem, Int.reduceEq, Int.reduceLE, Int.reduceLT, Int.reduceToNat, List.length_map]
  by_cases h : i < g.defs.length
  · obtain ⟨x, hx⟩ := get_ex h
    have hwi := wrap_succ i (by omega)
    have hxx := ba_bne x.1
    have hS := rSame x.2 x.2
    rw [Cf.same_refl] at hS
    simp only [go_sem, Int.reduceEq, Int.reduceLE, Int.reduceLT, Int.reduceToNat, h, hx, List.length_map, df_0, df_drop, df_len, hxx, Cf.c_take]
    refine hS.qv ⟨.same (Cf.d_bl _), .same (Cf.d_bl _), trivial⟩ ?_
    simp only [go_sem, Int.reduceEq, Int.reduceLE, Int.reduceLT, Int.reduceToNat, Bool.not_true, hwi]
    exact ⟨i + 1, h, by omega, Mv.none (by simp only [CvL]; simp [hq])⟩
  simp only [go_sem, Int.reduceEq, Int.reduceLE, Int.reduceLT, Int.reduceToNat, h, List.length_map]
  exact Fin.v rfl
end Go.Proofs.YtdliolbjngcgcaaGreat.W
set_option maxRecDepth 100000
/- The grammar of a text. -/
namespace Go.Proofs.YtdliolbjngcgcaaGreat.W
open Go Go.Proofs Go.Proofs.YtdliolbjngcgcaaGreat.AWP
attribute [local irreducible] xl hide aop aops aopQ qops guardP condP
theorem wholeSK (ks ds : List ByteArray) (s : ByteArray) (hs : s.size ≤ 65536) (hk : ks.length ≤ 1000000) (hd : ds.length ≤ 1000000) (fr : List Ob) : AC Tryz.prog 27 [.ref fr.length 0] (fr ++ [crOb ks ds s 0]) (fun o om => ∃ om', (o = .ret (wcD (wholeP ks ds s)) ∧ ∃ k, om' = [crOb ks ds s k]) ∧ om = fr ++ om') := by
  refine (wholeK (ks := ks) (ds := ds) hs hk hd).shift rfl ?_ ?_ ?_
  · intro j d d' h1 h2
    match j with
    | 0 => cases h1; cases h2; exact .inr ⟨0, 0, rfl, rfl⟩
    | j + 1 => cases h1
  · intro o ho
    rw [List.mem_singleton.1 ho]
    exact crBl ks ds s 0
  · rintro o om' ⟨rfl, k, rfl⟩
    refine ⟨rfl, .tup ?_, fun x hx => ?_⟩
    · intro d hd
      simp only [List.mem_cons, List.not_mem_nil, or_false] at hd
      rcases hd with rfl | rfl | rfl
      · exact Cf.d_bl _
      · exact .v _
      · exact .v _
    · rw [List.mem_singleton.1 hx]
      exact crBl ks ds s k
def bodiesGo (ks ns : List ByteArray) : List Ln → List Df → (Int × Nat) ⊕ List Df
  | [], d => .inr d
  | x :: l, d =>
    if (wholeP ks ns x.2.2).2.2 ≠ 0 then .inl (IntKind.i64.wrap (((x.1 + x.2.1.size + 3 : Nat) : Int) + ((wholeP ks ns x.2.2).2.1 : Int)), (wholeP ks ns x.2.2).2.2)
    else bodiesGo ks ns l (d ++ [(x.2.1, (wholeP ks ns x.2.2).1)])
def zGr : Gr := ⟨[], []⟩
def readB (kinds : List ByteArray) : (Int × Nat) ⊕ List Df → Gr × Int × Nat
  | .inl (p, e) => (zGr, p, e)
  | .inr d => if 2000 < grSz d then (zGr, 0, 4) else (⟨kinds, d⟩, 0, 0)
/-- The grammar of a text; a place; an error's number. -/
def readC (s : ByteArray) (kinds : List ByteArray) : Gr × Int × Nat :=
  if 65536 < s.size then (zGr, 0, 3)
  else if kinds.length < 1 then (zGr, 0, 1)
  else if 100 < kinds.length then (zGr, 0, 1)
  else if onceB kinds = false then (zGr, 0, 1)
  else if (linesR s kinds).2.2 ≠ 0 then (zGr, (linesR s kinds).2.1, (linesR s kinds).2.2)
  else readB kinds (bodiesGo kinds ((linesR s kinds).1.map (·.2.1)) (linesR s kinds).1 [])
abbrev readCD (x : Gr × Int × Nat) : D := .tup [.agg x.1.c, .i x.2.1, .i x.2.2]
theorem readCD_bl (x : Gr × Int × Nat) : Bl 0 (readCD x) := .tup (by
  intro d hd
  simp only [List.mem_cons, List.not_mem_nil, or_false] at hd
  rcases hd with rfl | rfl | rfl
  · exact Gr.d_bl _
  · exact .v _
  · exact .v _)
theorem cvZ {om : List Ob} {F : Nat → Bool} {kk : List (Option Nat)} : Cv om F kk (.agg [.v (.slice Option.none 0 0), .v (.slice Option.none 0 0)]) (.agg zGr.c) := .aggL ⟨.nil, .nil, trivial⟩
/-- What is known of lines that are read. -/
structure LinesOk (kinds : List ByteArray) (n : Nat) (l : List Ln) : Prop where
  len : l.length ≤ 50
  at_ : ∀ x ∈ l, x.1 ≤ n ∧ x.2.1.size ≤ 30 ∧ x.2.2.size ≤ n
set_option maxHeartbeats 8000000 in
theorem cRead (s : ByteArray) (kinds : List ByteArray) (hkn : kinds.length ≤ 1000000) (hks : ∀ x ∈ kinds, x.size ≤ 1000000) (hL : (linesR s kinds).2.2 = 0 → LinesOk kinds s.size (linesR s kinds).1)
    (hM : ∀ d, s.size ≤ 65536 → 1 ≤ kinds.length → kinds.length ≤ 100 → onceB kinds = true → bodiesGo kinds ((linesR s kinds).1.map (·.2.1)) (linesR s kinds).1 [] = .inr d → (linesR s kinds).2.2 = 0 → GFit ⟨kinds, d⟩ ∧ mayG ⟨kinds, d⟩ = decide (grSz d ≤ 2000)) :
    AP Tryz.prog 8 [.s s, Strs kinds] (readCD (readC s kinds)) := by
  have hqk : ∀ om (F : Nat → Bool) (kk : List (Option Nat)), Cv om F kk (Strs kinds) (Strs kinds) := fun om F kk => .same (Strs_bl kinds)
  unfold readC
  refine AC.lbody hT hm Tryz.func8 f8_nm f8_lc f8_res f8_nt ?_
  simp only [go_sem, Int.reduceEq, Int.reduceLE, Int.reduceLT, Int.reduceToNat, List.length_map]
  by_cases h0 : 65536 < s.size
  · have h0' : (65536 : Int) < s.size := by omega
    rw [if_pos h0]
    simp only [go_sem, Int.reduceEq, Int.reduceLE, Int.reduceLT, Int.reduceToNat, h0']
    exact Fin.ret (.tupL ⟨cvZ, .v, .v, trivial⟩)
  have h0' : ¬ (65536 : Int) < s.size := by omega
  rw [if_neg h0]
  by_cases h1 : kinds.length < 1
  · have h1' : (kinds.length : Int) < 1 := by omega
    rw [if_pos h1]
    simp only [go_sem, Int.reduceEq, Int.reduceLE, Int.reduceLT, Int.reduceToNat, h0', h1', List.length_map]
    exact Fin.ret (.tupL ⟨cvZ, .v, .v, trivial⟩)
  have h1' : ¬ (kinds.length : Int) < 1 := by omega
  rw [if_neg h1]
  by_cases h2 : 100 < kinds.length
  · have h2' : (100 : Int) < kinds.length := by omega
    rw [if_pos h2]
    simp only [go_sem, Int.reduceEq, Int.reduceLE, Int.reduceLT, Int.reduceToNat, h0', h1', h2', List.length_map]
    exact Fin.ret (.tupL ⟨cvZ, .v, .v, trivial⟩)
  have h2' : ¬ (100 : Int) < kinds.length := by omega
  rw [if_neg h2]
  simp only [go_sem, Int.reduceEq, Int.reduceLE, Int.reduceLT, Int.reduceToNat, h0', h1', h2', List.length_map]
  refine (once kinds hkn hks).pv ⟨hqk _ _ _, trivial⟩ ?_
  cases ho : onceB kinds with
  | false =>
    rw [if_pos rfl]
    simp only [go_sem, Int.reduceEq, Int.reduceLE, Int.reduceLT, Int.reduceToNat, Bool.not_false]
    exact Fin.ret (.tupL ⟨cvZ, .v, .v, trivial⟩)
  | true =>
  rw [if_neg (by simp)]
  have hne : kinds ≠ [] := fun h => by subst h; exact h1 (by decide)
  simp only [go_sem, Int.reduceEq, Int.reduceLE, Int.reduceLT, Int.reduceToNat, Bool.not_true]
  refine (cLines s (by omega) kinds (by omega) hne).pd ⟨.v, hqk _ _ _, trivial⟩ (linesD_bl _) ?_
  have hM' := fun d => hM d (by omega) (by omega) (by omega) ho
  clear hM
  generalize linesR s kinds = x at hL hM'
  obtain ⟨l, p, e⟩ := x
  dsimp only at hL hM' ⊢
  by_cases he : e = 0
  case neg =>
    have he' : ((e : Int) != 0) = true := by simp; omega
    rw [if_pos he]
    simp only [go_sem, Int.reduceEq, Int.reduceLE, Int.reduceLT, Int.reduceToNat, he']
    exact Fin.ret (.tupL ⟨cvZ, .v, .v, trivial⟩)
  subst he
  have he' : (((0 : Nat) : Int) != 0) = false := rfl
  rw [if_neg (by simp)]
  simp only [go_sem, Int.reduceEq, Int.reduceLE, Int.reduceLT, Int.reduceToNat, he']
  refine ⟨_, cloneS kinds hkn _, ?_⟩
  rintro _ _ (⟨h0, rfl, rfl⟩ | ⟨rfl, rfl⟩)
  · exact absurd h0 hne
  simp only [go_sem, Int.reduceEq, Int.reduceLE, Int.reduceLT, Int.reduceToNat]
  obtain ⟨hl50, hlx⟩ := hL rfl
  have hql : ∀ om (F : Nat → Bool) (kk : List (Option Nat)), Cv om F kk (Lns l) (Lns l) := fun om F kk => .same (Lns_bl l)
  refine xl_loopM hT hm (fun i : Nat => ⟨f8_i15 (Strs kinds) (.ref 0 0) (Lns l) (.ref 2 0) (.own 3) (Lns l) (.i l.length) (.i i), [.var 26 [.v (.slice none 0 0), .v (.slice none 0 0)], strOb kinds, .var 26 [.own 1, .v (.slice none 0 0)], strOb ((l.take i).map (·.2.1))]⟩)
    (fun i => i ≤ l.length) (fun i => l.length - i) 0 (Nat.zero_le _) ?_ ?_
  · exact Mv.of [some 0, some 2, some 3, none] rfl ⟨.varS rfl (by simp), .slcS rfl (strR_bl _), .varL rfl (by simp [CvL]), .nil (by decide), trivial⟩ (by simp only [f8_i15, CvL]; simp [hqk, hql])
  · intro i hi
    simp only [go_sem, Int.reduceEq, Int.reduceLE, Int.reduceLT, Int.reduceToNat, List.length_map]
    by_cases h : i < l.length
    · obtain ⟨x, hx⟩ := get_ex h
      have hwi := wrap_succ i (by omega)
      have ht : (l.take (i + 1)).map (·.2.1) = (l.take i).map (·.2.1) ++ [x.2.1] := by rw [List.take_add_one, hx, List.map_append]; rfl
      simp only [go_sem, Int.reduceEq, Int.reduceLE, Int.reduceLT, Int.reduceToNat, h, hx, List.length_map, hwi]
      refine ⟨by rw [List.length_take]; omega, i + 1, h, by omega, ?_⟩
      rw [ht]
      exact Mv.of [some 0, some 1, some 2, some 5] rfl ⟨.varS rfl (by simp), .slcS rfl (strR_bl _), .varL rfl (by simp [CvL]), .slcS (by simp) (strR_bl _), trivial⟩ (by simp only [CvL]; simp [hqk, hql])
    have ht : l.take i = l := List.take_of_length_le (by omega)
    simp only [go_sem, Int.reduceEq, Int.reduceLE, Int.reduceLT, Int.reduceToNat, h, List.length_map]
    rw [ht]
    clear ht h hi
    have hqn : ∀ om (F : Nat → Bool) (kk : List (Option Nat)), Cv om F kk (Strs (l.map (·.2.1))) (Strs (l.map (·.2.1))) := fun om F kk => .same (Strs_bl _)
    have hnl : (l.map (·.2.1)).length ≤ 1000000 := by simp; omega
    generalize hns : l.map (·.2.1) = ns at hM' hqn hnl
    refine xl_loopM hT hm (fun i : Nat × List Df => ⟨f8_i24 (Strs kinds) (.ref 0 0) (.ref 2 0) (Strs ns) (Lns l) (.i l.length) (.i i.1), [.var 26 [.v (.slice none 0 0), .v (.slice none 0 0)], strOb kinds, .var 26 [.own 1, .own 3], .slc 66 4 (dfR i.2)]⟩)
      (fun i => i.1 ≤ l.length ∧ i.2.length = i.1 ∧ bodiesGo kinds ns l [] = bodiesGo kinds ns (l.drop i.1) i.2) (fun i => l.length - i.1) (0, []) ⟨Nat.zero_le _, rfl, rfl⟩ ?_ ?_
    · exact Mv.of [some 0, some 1, some 2, none] rfl ⟨.varS rfl (by simp), .slcS rfl (strR_bl _), .varL rfl (by simp [CvL]), .nil (by decide), trivial⟩ (by simp only [f8_i24, CvL]; simp [hqk, hql]; exact .frzS rfl rfl (strR_bl _))
    rintro ⟨i, d⟩ ⟨hi, hdl, hgo⟩
    dsimp only at hi hdl hgo
    simp only [go_sem, Int.reduceEq, Int.reduceLE, Int.reduceLT, Int.reduceToNat, List.length_map]
    by_cases h : i < l.length
    case neg =>
      have hend : bodiesGo kinds ns l [] = .inr d := by rw [hgo, List.drop_of_length_le (by omega), bodiesGo]
      obtain ⟨hF, hMay⟩ := hM' d hend rfl
      have hMG := cMayG ⟨kinds, d⟩ hF
      rw [hMay] at hMG
      rw [hend]
      simp only [go_sem, Int.reduceEq, Int.reduceLE, Int.reduceLT, Int.reduceToNat, h, List.length_map]
      refine hMG.pv ⟨.aggL ⟨.frzS rfl rfl (strR_bl _), .frzS rfl rfl (dfR_bl _), trivial⟩, trivial⟩ ?_
      rw [show readB kinds (.inr d) = (if 2000 < grSz d then (zGr, 0, 4) else (⟨kinds, d⟩, 0, 0)) from rfl]
      by_cases hz : grSz d ≤ 2000
      · rw [decide_eq_true hz, if_neg (by omega)]
        simp only [go_sem, Int.reduceEq, Int.reduceLE, Int.reduceLT, Int.reduceToNat, Bool.not_true]
        exact Fin.ret (.tupL ⟨.aggL ⟨.frzS rfl rfl (strR_bl _), .frzS rfl rfl (dfR_bl _), trivial⟩, .v, .v, trivial⟩)
      · rw [decide_eq_false hz, if_pos (by omega)]
        simp only [go_sem, Int.reduceEq, Int.reduceLE, Int.reduceLT, Int.reduceToNat, Bool.not_false]
        exact Fin.ret (.tupL ⟨cvZ, .v, .v, trivial⟩)
    obtain ⟨x, hx⟩ := get_ex h
    have hxs := hlx x (List.mem_of_getElem? hx)
    have hwi := wrap_succ i (by omega)
    rw [drop_get hx, bodiesGo] at hgo
    have hW := wholeSK kinds ns x.2.2 (by omega) hkn hnl
    simp only [go_sem, Int.reduceEq, Int.reduceLE, Int.reduceLT, Int.reduceToNat, h, hx, List.length_map]
    refine ⟨_, hW [_, _, _, _, _], ?_⟩
    rintro _ _ ⟨_, ⟨rfl, k, rfl⟩, rfl⟩
    clear hW
    generalize wholeP kinds ns x.2.2 = w at hgo
    obtain ⟨c, pl, e⟩ := w
    dsimp only at hgo
    by_cases he : e = 0
    case neg =>
      have he2 : ((e : Int) != 0) = true := by simp; omega
      have hw1 : IntKind.i64.wrap ((x.1 : Int) + (x.2.1.size : Int)) = ((x.1 + x.2.1.size : Nat) : Int) := by rw [wrap_int _ (by omega) (by omega)]; omega
      have hw2 : IntKind.i64.wrap (((x.1 + x.2.1.size : Nat) : Int) + 3) = ((x.1 + x.2.1.size + 3 : Nat) : Int) := by rw [wrap_int _ (by omega) (by omega)]; omega
      rw [if_pos he] at hgo
      rw [hgo]
      simp only [go_sem, Int.reduceEq, Int.reduceLE, Int.reduceLT, Int.reduceToNat, he2, hw1, hw2]
      refine free_gen (fun i => ([.agg [.v (.slice none 0 0), .v (.slice none 0 0)], .ref 4 0, .i x.1, .ref 4 1, .s x.2.1, .i x.2.1.size, .i (x.1 + x.2.1.size : Nat), .i (x.1 + x.2.1.size + 3 : Nat), .i pl, .i (IntKind.i64.wrap (((x.1 + x.2.1.size + 3 : Nat) : Int) + (pl : Int))), .i e, .any, .i (IntKind.i64.wrap (((x.1 + x.2.1.size + 3 : Nat) : Int) + (pl : Int))), .i e] : List D).getD i .any) [4, 15, 17, 18] (by rfl) ?_ ?_
      · intro i o hio env' hlen hkeep hdep K' hK'
        have k4 : env'.getD 4 .any = .ref 0 0 := hkeep 4 (by simp)
        have k15 : env'.getD 15 .any = .ref 4 0 := hkeep 15 (by simp)
        have k17 : env'.getD 17 .any = .i pl := hkeep 17 (by simp)
        have k18 : env'.getD 18 .any = .i e := hkeep 18 (by simp)
        have hi : i < 14 := (List.getElem?_eq_some_iff.1 hio).1
        match i, hi with
        | 0, _ =>
          cases hio
          simp only [go_sem, Int.reduceEq, Int.reduceLE, Int.reduceLT, Int.reduceToNat, evD_tmp]
          exact hK'
        | 1, _ =>
          cases hio
          simp only [go_sem, Int.reduceEq, Int.reduceLE, Int.reduceLT, Int.reduceToNat, evD_tmp, k15]
          exact hK'
        | 2, _ =>
          cases hio
          have d := hdep 1 (by decide) 86 rfl
          simp only [go_sem, Int.reduceEq, Int.reduceLE, Int.reduceLT, Int.reduceToNat, evD_tmp, d]
          exact hK'
        | 3, _ =>
          cases hio
          simp only [go_sem, Int.reduceEq, Int.reduceLE, Int.reduceLT, Int.reduceToNat, evD_tmp, k15]
          exact hK'
        | 4, _ =>
          cases hio
          have d3 := hdep 3 (by decide) 88 rfl
          simp only [go_sem, Int.reduceEq, Int.reduceLE, Int.reduceLT, Int.reduceToNat, evD_tmp, d3]
          exact hK'
        | 5, _ =>
          cases hio
          have d4 := hdep 4 (by decide) 89 rfl
          simp only [go_sem, Int.reduceEq, Int.reduceLE, Int.reduceLT, Int.reduceToNat, evD_tmp, d4]
          exact hK'
        | 6, _ =>
          cases hio
          have d2 := hdep 2 (by decide) 87 rfl
          have d5 := hdep 5 (by decide) 90 rfl
          simp only [go_sem, Int.reduceEq, Int.reduceLE, Int.reduceLT, Int.reduceToNat, evD_tmp, d2, d5, hw1]
          exact hK'
        | 7, _ =>
          cases hio
          have d6 := hdep 6 (by decide) 91 rfl
          simp only [go_sem, Int.reduceEq, Int.reduceLE, Int.reduceLT, Int.reduceToNat, evD_tmp, d6, hw2]
          exact hK'
        | 8, _ =>
          cases hio
          simp only [go_sem, Int.reduceEq, Int.reduceLE, Int.reduceLT, Int.reduceToNat, evD_tmp, k17]
          exact hK'
        | 9, _ =>
          cases hio
          have d7 := hdep 7 (by decide) 92 rfl
          have d8 := hdep 8 (by decide) 93 rfl
          simp only [go_sem, Int.reduceEq, Int.reduceLE, Int.reduceLT, Int.reduceToNat, evD_tmp, d7, d8]
          exact hK'
        | 10, _ =>
          cases hio
          simp only [go_sem, Int.reduceEq, Int.reduceLE, Int.reduceLT, Int.reduceToNat, evD_tmp, k18]
          exact hK'
        | 11, _ =>
          cases hio
          have d0 := hdep 0 (by decide) 85 rfl
          simp only [go_sem, Int.reduceEq, Int.reduceLE, Int.reduceLT, Int.reduceToNat, evD_tmp, d0, k4]
          exact hK'
        | 12, _ =>
          cases hio
          have d9 := hdep 9 (by decide) 94 rfl
          simp only [go_sem, Int.reduceEq, Int.reduceLE, Int.reduceLT, Int.reduceToNat, evD_tmp, d9]
          exact hK'
        | 13, _ =>
          cases hio
          have d10 := hdep 10 (by decide) 95 rfl
          simp only [go_sem, Int.reduceEq, Int.reduceLE, Int.reduceLT, Int.reduceToNat, evD_tmp, d10]
          exact hK'
        | i + 14, hi => exact absurd hi (by omega)
      · intro env' hlen hkeep hV
        have k4 : env'.getD 4 .any = .ref 0 0 := hkeep 4 (by simp)
        have k5 : env'.getD 5 .any = .i (IntKind.i64.wrap (((x.1 + x.2.1.size + 3 : Nat) : Int) + (pl : Int))) := hV 12 5 rfl
        have k6 : env'.getD 6 .any = .i e := hV 13 6 rfl
        rw [show readB kinds (.inl (IntKind.i64.wrap (((x.1 + x.2.1.size + 3 : Nat) : Int) + (pl : Int)), e)) = (zGr, IntKind.i64.wrap (((x.1 + x.2.1.size + 3 : Nat) : Int) + (pl : Int)), e) from rfl]
        simp only [go_sem, Int.reduceEq, Int.reduceLE, Int.reduceLT, Int.reduceToNat, evD_tmp, k4, k5, k6]
        exact Fin.ret (.tupL ⟨cvZ, .v, .v, trivial⟩)
    subst he
    have he2 : (((0 : Nat) : Int) != 0) = false := rfl
    rw [if_neg (by simp)] at hgo
    simp only [go_sem, Int.reduceEq, Int.reduceLE, Int.reduceLT, Int.reduceToNat, he2, List.length_map, hwi, Cf.c_take]
    exact ⟨by omega, (i + 1, d ++ [(x.2.1, c)]), ⟨h, by simp; omega, hgo⟩, by dsimp only; omega, Mv.of [some 0, some 1, some 2, some 7] rfl ⟨.varS rfl (by simp), .slcS rfl (strR_bl _), .varL rfl (by simp [CvL]), .slcS (by simp) (dfR_bl _), trivial⟩ (by simp only [f8_i24, CvL]; simp [hqk, hql, hqn])⟩
end Go.Proofs.YtdliolbjngcgcaaGreat.W
set_option maxRecDepth 100000
/- What is known of a grammar that is read. -/
namespace Go.Proofs.YtdliolbjngcgcaaGreat.W
open Go Go.Proofs Go.Proofs.YtdliolbjngcgcaaGreat.AWP
theorem cutL_sz2 (s sep : ByteArray) : (cutL s sep).2.1.size ≤ s.size := by
  unfold cutL Go.Lib.cut
  split
  · rename_i a b c h
    split at h
    · cases h
      show (List.drop _ s.data.toList).toArray.size ≤ _
      simp only [List.size_toArray, List.length_drop, Array.length_toList]
      show s.size - _ ≤ _
      omega
    · cases h
      exact Nat.zero_le _
theorem nameB_szC {s : ByteArray} (h : nameB s = true) : s.size ≤ 30 := by
  unfold nameB at h
  simp only [Bool.and_eq_true, decide_eq_true_eq] at h
  exact h.2.2
/-- What holds of lines that are read. -/
structure LnJ (tot : Nat) (kinds : List ByteArray) (l : List Ln) : Prop where
  len : l.length ≤ 50
  sz : ∀ x ∈ l, x.1 ≤ tot ∧ x.2.1.size ≤ 30 ∧ x.2.2.size ≤ tot
  nm : ∀ x ∈ l, nameB x.2.1 = true
  nd : kinds.Nodup → (metC kinds l).Nodup
theorem lnJ_step {tot : Nat} {kinds : List ByteArray} {l : List Ln} {a : Nat} {ln : ByteArray} {l' : List Ln} {a' : Nat} (hJ : LnJ tot kinds l) (ha : a + ln.size ≤ tot) (h : lnStep tot kinds l a ln = .inr (l', a')) : LnJ tot kinds l' ∧ a' = a + ln.size := by
  obtain ⟨h1, rfl, h3, h4, h5⟩ := lnK_inr h
  obtain ⟨j1, j2, j3, j4⟩ := hJ
  have hs := csuf_szC 10 ln
  have hs2 := cutL_sz2 (csuf 10 ln).1 eqS
  refine ⟨⟨by simp; omega, fun x hx => ?_, fun x hx => ?_, fun hkn => ?_⟩, h3⟩
  · rcases List.mem_append.1 hx with hx | hx
    · exact j2 x hx
    · rw [List.mem_singleton.1 hx]
      exact ⟨by dsimp only; omega, nameB_szC h4, by dsimp only; omega⟩
  · rcases List.mem_append.1 hx with hx | hx
    · exact j3 x hx
    · rw [List.mem_singleton.1 hx]; exact h4
  · have e : metC kinds (l ++ [(a, (cutL (csuf 10 ln).1 eqS).1, (cutL (csuf 10 ln).1 eqS).2.1)]) = metC kinds l ++ [(cutL (csuf 10 ln).1 eqS).1] := by simp [metC]
    rw [e, List.nodup_append]
    refine ⟨j4 hkn, by simp, fun x hx y hy hxy => ?_⟩
    rw [List.mem_singleton.1 hy] at hxy
    have := List.any_eq_false.1 h5 x hx
    simp only [decide_eq_true_eq] at this
    exact this hxy.symm
theorem lnGo_J {tot : Nat} {kinds : List ByteArray} : ∀ (n : Nat) (r : ByteArray) (l : List Ln) (a : Nat) {l' : List Ln} {a' : Nat}, LnJ tot kinds l → a + r.size ≤ tot → lnGo tot kinds n r l a = .inr (l', a') → LnJ tot kinds l' := by
  intro n
  induction n with
  | zero =>
    intro r l a l' a' hJ ha h
    rw [lnGo] at h; cases h; exact hJ
  | succ n ih =>
    intro r l a l' a' hJ ha h
    rw [lnGo] at h
    split at h
    · cases h; exact hJ
    · rename_i h0
      have hl := lineOfC_size r (by omega)
      split at h
      · cases h
      · rename_i l1 a1 hst
        obtain ⟨hJ1, e⟩ := lnJ_step hJ (by omega) hst
        exact ih _ _ _ hJ1 (by omega) h
theorem linesR_J (s : ByteArray) (kinds : List ByteArray) (h : (linesR s kinds).2.2 = 0) (he : ∀ p e, lnGo s.size kinds s.size s [] 0 = .inl (p, e) → e ≠ 0) : LnJ s.size kinds (linesR s kinds).1 := by
  have h0 : LnJ s.size kinds [] := ⟨by simp, by simp, by simp, fun h => by simpa [metC] using h⟩
  have key := @lnGo_J s.size kinds s.size s [] 0
  unfold linesR at h ⊢
  generalize lnGo s.size kinds s.size s [] 0 = q at h he key ⊢
  cases q with
  | inl q =>
    obtain ⟨p, e⟩ := q
    exact absurd h (he p e rfl)
  | inr q =>
    obtain ⟨l, a⟩ := q
    rw [show linesQ (.inr (l, a)) = (if l = [] then ([], 0, 2) else (l, 0, 0)) from rfl] at h ⊢
    split
    · exact h0
    · exact key h0 (by omega) rfl
theorem lnK_inl {tot : Nat} {kinds : List ByteArray} {out : List Ln} {a sz : Nat} {ended : Bool} {k : ByteArray × ByteArray × Bool} {p e : Nat} (h : lnK tot kinds out a sz ended k = .inl (p, e)) : e ≠ 0 := by
  unfold lnK at h
  split at h
  · cases h; simp
  split at h
  · cases h; simp
  split at h
  · cases h; simp
  split at h
  · cases h; simp
  split at h
  · cases h; simp
  · cases h
theorem lnGo_e {tot : Nat} {kinds : List ByteArray} : ∀ (n : Nat) (r : ByteArray) (l : List Ln) (a : Nat) {p e : Nat}, lnGo tot kinds n r l a = .inl (p, e) → e ≠ 0 := by
  intro n
  induction n with
  | zero => intro r l a p e h; rw [lnGo] at h; cases h
  | succ n ih =>
    intro r l a p e h
    rw [lnGo] at h
    split at h
    · cases h
    · split at h
      · rename_i q hst
        cases h
        exact lnK_inl hst
      · exact ih _ _ _ h
theorem bodiesGo_inr {ks ns : List ByteArray} : ∀ (l : List Ln) (d0 : List Df) {d : List Df}, bodiesGo ks ns l d0 = .inr d → d = d0 ++ l.map (fun x => (x.2.1, (wholeP ks ns x.2.2).1)) ∧ ∀ x ∈ l, (wholeP ks ns x.2.2).2.2 = 0
  | [], d0, d, h => by rw [bodiesGo] at h; cases h; simp
  | x :: l, d0, d, h => by
    rw [bodiesGo] at h
    split at h
    · cases h
    · rename_i h0
      obtain ⟨h1, h2⟩ := bodiesGo_inr l _ h
      refine ⟨by rw [h1]; simp, fun y hy => ?_⟩
      rcases List.mem_cons.1 hy with rfl | hy
      · simpa using h0
      · exact h2 y hy
theorem grSz_le_of {d : List Df} {m : Nat} : (∀ x ∈ d, x.2.sz ≤ m) → grSz d ≤ d.length * m := by
  induction d with
  | nil => intro _; simp [grSz, Cf.szs_nil]
  | cons x d ih =>
    intro h
    have h1 := h x (by simp)
    have h2 := ih fun y hy => h y (by simp [hy])
    unfold grSz at h2 ⊢
    rw [List.map_cons, Cf.szs_cons, List.length_cons, Nat.add_mul]
    omega
/-- A grammar that is read may be, if it has not too many nodes. -/
theorem read_may (s : ByteArray) (hs : s.size ≤ 65536) (kinds : List ByteArray) (hks : ∀ x ∈ kinds, x.size ≤ 1000000) (d : List Df) (h1 : 1 ≤ kinds.length) (h2 : kinds.length ≤ 100) (ho : onceB kinds = true)
    (hb : bodiesGo kinds ((linesR s kinds).1.map (·.2.1)) (linesR s kinds).1 [] = .inr d) (he : (linesR s kinds).2.2 = 0) (hne : (linesR s kinds).1 ≠ []) : GFit ⟨kinds, d⟩ ∧ mayG ⟨kinds, d⟩ = decide (grSz d ≤ 2000) := by
  have hon : kinds.all nameB = true ∧ kinds.Nodup := by unfold onceB at ho; simpa using ho
  obtain ⟨j1, j2, j3, j4⟩ := linesR_J s kinds he fun p e h => lnGo_e _ _ _ _ h
  generalize (linesR s kinds).1 = l at *
  obtain ⟨hd, hw⟩ := bodiesGo_inr l [] hb
  rw [List.nil_append] at hd
  have hnm : d.map (·.1) = l.map (·.2.1) := by rw [hd, List.map_map]; rfl
  have hdl : d.length = l.length := by rw [hd]; simp
  have hgood : ∀ x ∈ d, x.2.sz ≤ 131072 ∧ x.2.may kinds.length d.length = true := by
    intro x hx
    rw [hd] at hx
    obtain ⟨y, hy, rfl⟩ := List.mem_map.1 hx
    have hg := wholeP_good kinds (l.map (·.2.1)) y.2.2 (hw y hy)
    have := (j2 y hy).2.2
    refine ⟨by dsimp only; omega, ?_⟩
    have hl : (l.map (·.2.1)).length = d.length := by rw [hdl]; simp
    rw [hl] at hg
    exact hg.2
  have hz := grSz_le_of fun x hx => (hgood x hx).1
  have hzz : d.length * 131072 ≤ 50 * 131072 := Nat.mul_le_mul_right _ (by omega)
  have hlp := List.length_pos_iff.2 hne
  have hgn : grNms ⟨kinds, d⟩ = metC kinds l := by unfold grNms metC; rw [← hnm]
  refine ⟨⟨by dsimp only; omega, by dsimp only; omega, by dsimp only; omega, fun x hx => ?_⟩, ?_⟩
  · rw [hgn] at hx
    rcases List.mem_append.1 hx with hx | hx
    · exact hks x hx
    · obtain ⟨y, hy, rfl⟩ := List.mem_map.1 hx
      have := (j2 y hy).2.1; omega
  · have hob : onceB (grNms ⟨kinds, d⟩) = true := by
      rw [hgn]
      unfold onceB
      rw [decide_eq_true (j4 hon.2), Bool.and_true, List.all_eq_true]
      intro x hx
      rcases List.mem_append.1 hx with hx | hx
      · exact List.all_eq_true.1 hon.1 x hx
      · obtain ⟨y, hy, rfl⟩ := List.mem_map.1 hx
        exact j3 y hy
    have hdo : defsOk ⟨kinds, d⟩ = true := by
      unfold defsOk
      rw [List.all_eq_true]
      exact fun x hx => (hgood x hx).2
    unfold mayG
    rw [hob, hdo]
    dsimp only
    rw [decide_eq_true h1, decide_eq_true h2, decide_eq_true (show 1 ≤ d.length by omega), decide_eq_true (show d.length ≤ 50 by omega)]
    rfl
theorem linesR_ne (s : ByteArray) (kinds : List ByteArray) (h : (linesR s kinds).2.2 = 0) : (linesR s kinds).1 ≠ [] := by
  have he := @lnGo_e s.size kinds s.size s [] 0
  unfold linesR at h ⊢
  generalize lnGo s.size kinds s.size s [] 0 = q at h he ⊢
  cases q with
  | inl q => obtain ⟨p, e⟩ := q; exact absurd h (he rfl)
  | inr q =>
    obtain ⟨l, a⟩ := q
    rw [show linesQ (.inr (l, a)) = (if l = [] then ([], 0, 2) else (l, 0, 0)) from rfl] at h ⊢
    split at h
    · cases h
    · rename_i hl; rw [if_neg hl]; exact hl
theorem linesOk (s : ByteArray) (kinds : List ByteArray) (h : (linesR s kinds).2.2 = 0) : LinesOk kinds s.size (linesR s kinds).1 := by
  obtain ⟨j1, j2, _, _⟩ := linesR_J s kinds h fun p e h => lnGo_e _ _ _ _ h
  exact ⟨j1, j2⟩
theorem cReadA (s : ByteArray) (kinds : List ByteArray) (hkn : kinds.length ≤ 1000000) (hks : ∀ x ∈ kinds, x.size ≤ 1000000) : AP Tryz.prog 8 [.s s, Strs kinds] (readCD (readC s kinds)) :=
  cRead s kinds hkn hks (linesOk s kinds) fun d hs h1 h2 ho hb he => read_may s hs kinds hks d h1 h2 ho hb he (linesR_ne s kinds he)
/-- How great a grammar is that is read. -/
theorem readC_len (s : ByteArray) (kinds : List ByteArray) (hkn : kinds.length ≤ 1000000) : (readC s kinds).1.kinds.length ≤ 1000000 ∧ (readC s kinds).1.defs.length ≤ 1000000 := by
  have z : zGr.kinds.length ≤ 1000000 ∧ zGr.defs.length ≤ 1000000 := by decide
  unfold readC
  split
  · exact z
  split
  · exact z
  split
  · exact z
  split
  · exact z
  split
  · exact z
  rename_i he
  have hJ := linesOk s kinds (by simpa using he)
  cases hb : bodiesGo kinds ((linesR s kinds).1.map (·.2.1)) (linesR s kinds).1 [] with
  | inl q => obtain ⟨p, e⟩ := q; exact z
  | inr d =>
    rw [show readB kinds (.inr d) = (if 2000 < grSz d then (zGr, 0, 4) else (⟨kinds, d⟩, 0, 0)) from rfl]
    split
    · exact z
    · obtain ⟨hd, _⟩ := bodiesGo_inr _ [] hb
      refine ⟨hkn, ?_⟩
      show d.length ≤ 1000000
      rw [hd]
      simp only [List.nil_append, List.length_map]
      have := hJ.len; omega
end Go.Proofs.YtdliolbjngcgcaaGreat.W
set_option maxRecDepth 100000
/- The grammar of a text: the document's words. -/
namespace Go.Proofs.YtdliolbjngcgcaaGreat.W
open Go Go.Proofs Go.Proofs.YtdliolbjngcgcaaGreat.AWP
attribute [local irreducible] xl hide aop aops aopQ qops guardP condP
abbrev plX (x : Ln) : Nat := x.1 + x.2.1.size + 3
abbrev natR (l : List Nat) : List (List D) := l.map fun n : Nat => [.i (n : Int)]
theorem natR_bl (l : List Nat) : ∀ r ∈ natR l, ∀ d ∈ r, Bl 0 d := by
  intro r hr d hd
  obtain ⟨s, _, rfl⟩ := List.mem_map.1 hr
  rw [List.mem_singleton.1 hd]
  exact .v _
abbrev zgOb : Ob := .var 26 [.v (.slice Option.none 0 0), .v (.slice Option.none 0 0)]
abbrev lsOm (l : List Ln) : List Ob := [zgOb, zgOb, strOb (l.map (·.2.1)), strOb (l.map (·.2.2)), .slc 3 1 (natR (l.map plX))]
/-! ### A line, two ways -/
theorem ext_ext0 (s : ByteArray) (a k : Nat) : (s.extract a s.size).extract 0 k = s.extract a (min (a + k) s.size) := by
  apply ByteArray.ext
  simp only [ByteArray.data_extract]
  rw [Array.extract_extract]
  congr 1 <;> omega
theorem ext_rest (s : ByteArray) (a k : Nat) : (s.extract a s.size).extract k (s.extract a s.size).size = s.extract (a + k) s.size := by
  apply ByteArray.ext
  simp only [ByteArray.data_extract, ByteArray.size_extract]
  rw [Array.extract_extract]
  congr 1 <;> omega
theorem rest_list (s : ByteArray) (a : Nat) : (s.extract a s.size).data.toList = s.data.toList.drop a := Go.Lib.extract_to_end s a
/-- A text that ends with no line feed. -/
theorem csuf_none {r : ByteArray} (h : ¬ ixN 10 r.data.toList < r.size) : (csuf 10 r).2 = false := by
  have hle := ixN_le 10 r.data.toList
  have hsz : r.data.toList.length = r.size := Array.length_toList
  have hall := ixN_none (c := 10) (l := r.data.toList) (by omega)
  unfold csuf
  rw [if_neg]
  unfold sufB
  rw [Bool.and_eq_true]
  rintro ⟨h1, h2⟩
  rw [beq_iff_eq] at h2
  refine hall 10 ?_ rfl
  have h3 : (10 : UInt8) ∈ (r.extract (r.size - 1) r.size).data.toList := by rw [h2]; simp
  rw [rest_list] at h3
  exact List.mem_of_mem_drop h3
theorem csuf_line {r : ByteArray} {k : Nat} (hk : ixN 10 r.data.toList = k) (h : k < r.size) : csuf 10 (r.extract 0 (k + 1)) = (r.extract 0 k, true) := by
  have hg := ixN_get (c := 10) (l := r.data.toList) (by rw [hk]; simpa using h)
  rw [hk] at hg
  have hsz : (r.extract 0 (k + 1)).size = k + 1 := by rw [ByteArray.size_extract]; omega
  unfold csuf
  rw [if_pos]
  · rw [hsz]
    congr 1
    apply ByteArray.ext
    simp only [ByteArray.data_extract]
    rw [Array.extract_extract]
    congr 1 <;> omega
  · unfold sufB
    rw [hsz, Bool.and_eq_true]
    refine ⟨by simp, ?_⟩
    rw [beq_iff_eq, show k + 1 - 1 = k by omega]
    have e : (r.extract 0 (k + 1)).extract k (k + 1) = r.extract k (k + 1) := by
      apply ByteArray.ext
      simp only [ByteArray.data_extract]
      rw [Array.extract_extract]
      congr 1 <;> omega
    rw [e]
    exact ext1 (by rw [← Array.getElem?_toList]; exact hg)
theorem cut_ext {t : ByteArray} (h : (cutL t eqS).2.2 = true) : (cutL t eqS).1 = t.extract 0 (cutL t eqS).1.size ∧ (cutL t eqS).2.1 = t.extract ((cutL t eqS).1.size + 3) t.size ∧ (cutL t eqS).1.size + 3 ≤ t.size := by
  rcases Go.Lib.indexB_cases t eqS with hx | ⟨i, hx, hi⟩
  · obtain ⟨_, _, h3⟩ := Go.Lib.cutB_miss t eqS hx
    have h3' : (cutL t eqS).2.2 = false := h3
    rw [h3'] at h; cases h
  · obtain ⟨h1, h2, _⟩ := Go.Lib.cutB_hit t eqS i hx
    have h1' : (cutL t eqS).1 = t.extract 0 i := h1
    have h2' : (cutL t eqS).2.1 = t.extract (i + eqS.size) t.size := h2
    have hz : eqS.size = 3 := rfl
    rw [hz] at h2' hi
    have hs : (cutL t eqS).1.size = i := by rw [h1', ByteArray.size_extract]; omega
    rw [hs]
    exact ⟨h1', h2', hi⟩
theorem any_comm (l : List ByteArray) (w : ByteArray) : (l.any fun y => decide (y = w)) = l.any fun x => decide (w = x) := by
  congr 1; funext y; rw [decide_eq_decide]; exact eq_comm
/-- One line, as the document goes. -/
theorem line_at (tot : Nat) (s : ByteArray) (a : Nat) (ha : a < s.size) (kinds : List ByteArray) (l : List Ln) (k : Nat) (hk : ixN 10 (s.extract a s.size).data.toList = k) :
    (¬ a + k < s.size → lnStep tot kinds l a (lineOfC (s.extract a s.size)).1 = .inl (tot, 2)) ∧
    (a + k < s.size → lineOfC (s.extract a s.size) = ((s.extract a s.size).extract 0 (k + 1), s.extract (a + (k + 1)) s.size) ∧
      lnStep tot kinds l a (lineOfC (s.extract a s.size)).1 = lnK tot kinds l a (k + 1) true (cutL (s.extract a (a + k)) eqS)) := by
  have hsz : (s.extract a s.size).size = s.size - a := by rw [ByteArray.size_extract]; omega
  constructor
  · intro h
    have e : lineOfC (s.extract a s.size) = (s.extract a s.size, ⟨#[]⟩) := by unfold lineOfC; rw [if_neg (by rw [hk, hsz]; omega)]
    rw [e]
    unfold lnStep
    have := csuf_none (r := s.extract a s.size) (by rw [hk, hsz]; omega)
    dsimp only
    rw [this]
    rfl
  · intro h
    have e : lineOfC (s.extract a s.size) = ((s.extract a s.size).extract 0 (k + 1), s.extract (a + (k + 1)) s.size) := by
      unfold lineOfC
      rw [if_pos (by rw [hk, hsz]; omega), hk, ext_rest]
    refine ⟨e, ?_⟩
    rw [e]
    unfold lnStep
    dsimp only
    rw [csuf_line hk (by rw [hsz]; omega)]
    have e1 : (s.extract a s.size).extract 0 k = s.extract a (a + k) := by rw [ext_ext0, show min (a + k) s.size = a + k by omega]
    have e2 : ((s.extract a s.size).extract 0 (k + 1)).size = k + 1 := by rw [ByteArray.size_extract, hsz]; omega
    rw [e2]
    dsimp only
    rw [e1]
set_option maxHeartbeats 16000000 in
theorem rReadG (s : ByteArray) (kinds : List ByteArray) (hkn : kinds.length ≤ 1000000) (hL : (linesR s kinds).2.2 = 0 → LinesOk kinds s.size (linesR s kinds).1) :
    AP Tryz.prog 9 [.s s, Strs kinds] (readCD (readC s kinds)) := by
  have hqk : ∀ om (F : Nat → Bool) (kk : List (Option Nat)), Cv om F kk (Strs kinds) (Strs kinds) := fun om F kk => .same (Strs_bl kinds)
  unfold readC
  refine AC.lbody hT hm Tryz.func9 f9_nm f9_lc f9_res f9_nt ?_
  simp only [go_sem, Int.reduceEq, Int.reduceLE, Int.reduceLT, Int.reduceToNat, List.length_map]
  by_cases h0 : 65536 < s.size
  · have h0' : (65536 : Int) < s.size := by omega
    rw [if_pos h0]
    simp only [go_sem, Int.reduceEq, Int.reduceLE, Int.reduceLT, Int.reduceToNat, h0']
    exact Fin.ret (.tupL ⟨cvZ, .v, .v, trivial⟩)
  have h0' : ¬ (65536 : Int) < s.size := by omega
  rw [if_neg h0]
  by_cases h1 : kinds.length < 1
  · have h1' : (kinds.length : Int) < 1 := by omega
    rw [if_pos h1]
    simp only [go_sem, Int.reduceEq, Int.reduceLE, Int.reduceLT, Int.reduceToNat, h0', h1', List.length_map]
    exact Fin.ret (.tupL ⟨cvZ, .v, .v, trivial⟩)
  have h1' : ¬ (kinds.length : Int) < 1 := by omega
  rw [if_neg h1]
  by_cases h2 : 100 < kinds.length
  · have h2' : (100 : Int) < kinds.length := by omega
    rw [if_pos h2]
    simp only [go_sem, Int.reduceEq, Int.reduceLE, Int.reduceLT, Int.reduceToNat, h0', h1', h2', List.length_map]
    exact Fin.ret (.tupL ⟨cvZ, .v, .v, trivial⟩)
  have h2' : ¬ (100 : Int) < kinds.length := by omega
  rw [if_neg h2]
  simp only [go_sem, Int.reduceEq, Int.reduceLE, Int.reduceLT, Int.reduceToNat, h0', h1', h2', List.length_map]
  refine (rOnce kinds).pv ⟨hqk _ _ _, trivial⟩ ?_
  cases ho : onceB kinds with
  | false =>
    rw [if_pos rfl]
    simp only [go_sem, Int.reduceEq, Int.reduceLE, Int.reduceLT, Int.reduceToNat, Bool.not_false]
    exact Fin.ret (.tupL ⟨cvZ, .v, .v, trivial⟩)
  | true =>
  rw [if_neg (by simp)]
  simp only [go_sem, Int.reduceEq, Int.reduceLE, Int.reduceLT, Int.reduceToNat, Bool.not_true]
  refine xl_loopM hT hm (fun i : List Ln × Nat => ⟨f9_i21 (.s s) (Strs kinds) (.ref 0 0) (.ref 1 0) (.own 2) (.own 3) (.own 4) (.i i.2), lsOm i.1⟩)
    (fun i => i.1.length ≤ 50 ∧ i.2 ≤ s.size ∧ ∃ n, (s.extract i.2 s.size).size ≤ n ∧ lnGo s.size kinds s.size s [] 0 = lnGo s.size kinds n (s.extract i.2 s.size) i.1 i.2) (fun i => s.size - i.2) ([], 0) ⟨by simp, Nat.zero_le _, s.size, by rw [ByteArray.size_extract]; omega, by rw [show s.extract 0 s.size = s from by apply ByteArray.ext; simp [ByteArray.data_extract]]⟩ ?_ ?_
  · exact Mv.of [some 0, some 1, some 2, some 3, some 4] rfl ⟨.varS rfl (by simp), .varS rfl (by simp), .slcS rfl (strR_bl []), .slcS rfl (strR_bl []), .slcS rfl (natR_bl []), trivial⟩ (by simp only [f9_i21, CvL]; simp [hqk])
  rintro ⟨l, a⟩ ⟨hl50, ha, n, hn, hgo⟩
  dsimp only at hl50 ha hn hgo
  simp only [go_sem, Int.reduceEq, Int.reduceLE, Int.reduceLT, Int.reduceToNat, List.length_map]
  by_cases h : a < s.size
  case neg =>
    have hend : lnGo s.size kinds s.size s [] 0 = .inr (l, a) := by
      rw [hgo]
      cases n with
      | zero => rfl
      | succ n => rw [lnGo, if_pos (by rw [ByteArray.size_extract]; omega)]
    unfold linesR at hL ⊢
    rw [hend, show linesQ (.inr (l, a)) = (if l = [] then ([], 0, 2) else (l, 0, 0)) from rfl] at hL ⊢
    by_cases hl0 : l = []
    · subst hl0
      have z : (((0 : Nat) : Int) == 0) = true := rfl
      rw [if_pos rfl]
      simp only [go_sem, Int.reduceEq, Int.reduceLE, Int.reduceLT, Int.reduceToNat, h, List.length_map, List.length_nil, z]
      exact Fin.ret (.tupL ⟨cvZ, .v, .v, trivial⟩)
    have hlp := List.length_pos_iff.2 hl0
    have z : (((l.length : Nat) : Int) == 0) = false := by rw [beq_eq_false_iff_ne]; omega
    rw [if_neg hl0] at hL ⊢
    obtain ⟨_, hlx⟩ := hL rfl
    simp only [go_sem, Int.reduceEq, Int.reduceLE, Int.reduceLT, Int.reduceToNat, h, List.length_map, z, ne_eq, not_true_eq_false, if_false]
    have hqn : ∀ om (F : Nat → Bool) (kk : List (Option Nat)), Cv om F kk (Strs (l.map (·.2.1))) (Strs (l.map (·.2.1))) := fun om F kk => .same (Strs_bl _)
    have hqb : ∀ om (F : Nat → Bool) (kk : List (Option Nat)), Cv om F kk (Strs (l.map (·.2.2))) (Strs (l.map (·.2.2))) := fun om F kk => .same (Strs_bl _)
    have hqp : ∀ om (F : Nat → Bool) (kk : List (Option Nat)), Cv om F kk (.sl 1 (natR (l.map plX))) (.sl 1 (natR (l.map plX))) := fun om F kk => .same (.sl (natR_bl _))
    have hnl : (l.map (·.2.1)).length ≤ 1000000 := by simp; omega
    refine xl_loopM hT hm (fun i : Nat × List Df => ⟨f9_i35 (Strs kinds) (.ref 0 0) (.ref 1 0) (Strs (l.map (·.2.1))) (Strs (l.map (·.2.2))) (.sl 1 (natR (l.map plX))) (.ref 2 0) (.i (grSz i.2 : Nat)) (.i l.length) (.i i.1), [zgOb, zgOb, .var 26 [Strs kinds, .own 3], .slc 66 4 (dfR i.2)]⟩)
      (fun i => i.1 ≤ l.length ∧ i.2.length = i.1 ∧ grSz i.2 ≤ i.1 * 1000000 ∧ bodiesGo kinds (l.map (·.2.1)) l [] = bodiesGo kinds (l.map (·.2.1)) (l.drop i.1) i.2) (fun i => l.length - i.1) (0, []) ⟨Nat.zero_le _, rfl, Nat.zero_le _, rfl⟩ ?_ ?_
    · refine Mv.of [some 0, some 1, some 5, none] rfl ⟨.varS rfl (by simp), .varS rfl (by simp), .varL rfl (by simp [CvL, hqk]), .nil (by decide), trivial⟩ ?_
      simp only [f9_i35, CvL]
      simp [hqk, -List.map_map]
      exact ⟨.frzS rfl rfl (strR_bl _), .frzS rfl rfl (strR_bl _), .frzS rfl rfl (natR_bl (l.map plX)), rfl⟩
    rintro ⟨i, d⟩ ⟨hi, hdl, hdz, hb⟩
    dsimp only at hi hdl hdz hb
    simp only [go_sem, Int.reduceEq, Int.reduceLE, Int.reduceLT, Int.reduceToNat, List.length_map]
    by_cases hil : i < l.length
    case neg =>
      have hend : bodiesGo kinds (l.map (·.2.1)) l [] = .inr d := by rw [hb, List.drop_of_length_le (by omega), bodiesGo]
      rw [hend, show readB kinds (.inr d) = (if 2000 < grSz d then (zGr, 0, 4) else (⟨kinds, d⟩, 0, 0)) from rfl]
      by_cases hz : 2000 < grSz d
      · have hz' : (2000 : Int) < ((grSz d : Nat) : Int) := by omega
        rw [if_pos hz]
        simp only [go_sem, Int.reduceEq, Int.reduceLE, Int.reduceLT, Int.reduceToNat, hil, hz']
        exact Fin.ret (.tupL ⟨cvZ, .v, .v, trivial⟩)
      · have hz' : ¬ (2000 : Int) < ((grSz d : Nat) : Int) := by omega
        rw [if_neg hz]
        simp only [go_sem, Int.reduceEq, Int.reduceLE, Int.reduceLT, Int.reduceToNat, hil, hz']
        exact Fin.ret (.tupL ⟨.aggL ⟨hqk _ _ _, .frzS rfl rfl (dfR_bl _), trivial⟩, .v, .v, trivial⟩)
    obtain ⟨x, hx⟩ := get_ex hil
    have hxs := hlx x (List.mem_of_getElem? hx)
    have hwi := wrap_succ i (by omega)
    rw [drop_get hx, bodiesGo] at hb
    have hW := rWhole kinds (l.map (·.2.1)) x.2.2 (by omega) hkn hnl
    have hG := wholeP_good kinds (l.map (·.2.1)) x.2.2
    generalize wholeP kinds (l.map (·.2.1)) x.2.2 = w at hb hW hG
    obtain ⟨c, pl, e⟩ := w
    dsimp only at hb hG
    have hbx : (l.map (·.2.2))[i]? = some x.2.2 := by rw [List.getElem?_map, hx]; rfl
    have hnx : (l.map (·.2.1))[i]? = some x.2.1 := by rw [List.getElem?_map, hx]; rfl
    have hpx : (natR (l.map plX))[i]? = some [.i (plX x)] := by rw [List.getElem?_map, List.getElem?_map, hx]; rfl
    have hzp : ∀ (r : Cf) (q e : Nat), obPut (.var 72 zP) 0 (Pd r q e) = some (.var 72 (Pd r q e)) := fun r q e => Pd_put _ _ rfl r q e
    simp only [go_sem, Int.reduceEq, Int.reduceLE, Int.reduceLT, Int.reduceToNat, hil, str_get hbx, List.length_map]
    refine hW.pd ⟨.v, hqk _ _ _, hqn _ _ _, trivial⟩ (Pd_agg _ _ _) ?_
    by_cases he : e = 0
    case neg =>
      have he2 : ((e : Int) != 0) = true := by simp; omega
      rw [if_pos he] at hb
      rw [hb]
      simp only [go_sem, Int.reduceEq, Int.reduceLE, Int.reduceLT, Int.reduceToNat, hzp, Pd_4, Pd_len, Pd_all, he2]
      refine free_gen (fun j => ([.agg [.v (.slice none 0 0), .v (.slice none 0 0)], .sl 1 (natR (l.map plX)), .i i, .pel [.i (plX x)], .i (plX x), .ref 4 3, .i pl, .i (IntKind.i64.wrap (((x.1 + x.2.1.size + 3 : Nat) : Int) + (pl : Int))), .ref 4 4, .i e, .any, .i (IntKind.i64.wrap (((x.1 + x.2.1.size + 3 : Nat) : Int) + (pl : Int))), .i e] : List D).getD j .any) [4, 7, 10, 16, 17] (by rfl) ?_ ?_
      · intro j o hjo env' hlen hkeep hdep K' hK'
        have k4 : env'.getD 4 .any = .ref 0 0 := hkeep 4 (by simp)
        have k7 : env'.getD 7 .any = .ref 1 0 := hkeep 7 (by simp)
        have k10 : env'.getD 10 .any = .sl 1 (natR (l.map plX)) := hkeep 10 (by simp)
        have k16 : env'.getD 16 .any = .i i := hkeep 16 (by simp)
        have k17 : env'.getD 17 .any = .ref 4 0 := hkeep 17 (by simp)
        have hj : j < 13 := (List.getElem?_eq_some_iff.1 hjo).1
        match j, hj with
        | 0, _ =>
          cases hjo
          simp only [go_sem, Int.reduceEq, Int.reduceLE, Int.reduceLT, Int.reduceToNat, evD_tmp, k7]
          exact hK'
        | 1, _ =>
          cases hjo
          simp only [go_sem, Int.reduceEq, Int.reduceLE, Int.reduceLT, Int.reduceToNat, evD_tmp, k10]
          exact hK'
        | 2, _ =>
          cases hjo
          simp only [go_sem, Int.reduceEq, Int.reduceLE, Int.reduceLT, Int.reduceToNat, evD_tmp, k16]
          exact hK'
        | 3, _ =>
          cases hjo
          have d1 := hdep 1 (by decide) 137 rfl
          have d2 := hdep 2 (by decide) 138 rfl
          simp only [go_sem, Int.reduceEq, Int.reduceLE, Int.reduceLT, Int.reduceToNat, evD_tmp, d1, d2, hpx, hil, List.length_map]
          exact hK'
        | 4, _ =>
          cases hjo
          have d3 := hdep 3 (by decide) 139 rfl
          simp only [go_sem, Int.reduceEq, Int.reduceLE, Int.reduceLT, Int.reduceToNat, evD_tmp, d3]
          exact hK'
        | 5, _ =>
          cases hjo
          simp only [go_sem, Int.reduceEq, Int.reduceLE, Int.reduceLT, Int.reduceToNat, evD_tmp, k17]
          exact hK'
        | 6, _ =>
          cases hjo
          have d5 := hdep 5 (by decide) 141 rfl
          simp only [go_sem, Int.reduceEq, Int.reduceLE, Int.reduceLT, Int.reduceToNat, evD_tmp, d5, Pd_3, Pd_len]
          exact hK'
        | 7, _ =>
          cases hjo
          have d4 := hdep 4 (by decide) 140 rfl
          have d6 := hdep 6 (by decide) 142 rfl
          simp only [go_sem, Int.reduceEq, Int.reduceLE, Int.reduceLT, Int.reduceToNat, evD_tmp, d4, d6]
          exact hK'
        | 8, _ =>
          cases hjo
          simp only [go_sem, Int.reduceEq, Int.reduceLE, Int.reduceLT, Int.reduceToNat, evD_tmp, k17]
          exact hK'
        | 9, _ =>
          cases hjo
          have d8 := hdep 8 (by decide) 144 rfl
          simp only [go_sem, Int.reduceEq, Int.reduceLE, Int.reduceLT, Int.reduceToNat, evD_tmp, d8, Pd_4, Pd_len]
          exact hK'
        | 10, _ =>
          cases hjo
          have d0 := hdep 0 (by decide) 136 rfl
          simp only [go_sem, Int.reduceEq, Int.reduceLE, Int.reduceLT, Int.reduceToNat, evD_tmp, d0, k4]
          exact hK'
        | 11, _ =>
          cases hjo
          have d7 := hdep 7 (by decide) 143 rfl
          simp only [go_sem, Int.reduceEq, Int.reduceLE, Int.reduceLT, Int.reduceToNat, evD_tmp, d7]
          exact hK'
        | 12, _ =>
          cases hjo
          have d9 := hdep 9 (by decide) 145 rfl
          simp only [go_sem, Int.reduceEq, Int.reduceLE, Int.reduceLT, Int.reduceToNat, evD_tmp, d9]
          exact hK'
        | j + 13, hj => exact absurd hj (by omega)
      · intro env' hlen hkeep hV
        have k4 : env'.getD 4 .any = .ref 0 0 := hkeep 4 (by simp)
        have k5 : env'.getD 5 .any = .i (IntKind.i64.wrap (((x.1 + x.2.1.size + 3 : Nat) : Int) + (pl : Int))) := hV 11 5 rfl
        have k6 : env'.getD 6 .any = .i e := hV 12 6 rfl
        rw [show readB kinds (.inl ((IntKind.i64.wrap (((x.1 + x.2.1.size + 3 : Nat) : Int) + (pl : Int))), e)) = (zGr, (IntKind.i64.wrap (((x.1 + x.2.1.size + 3 : Nat) : Int) + (pl : Int))), e) from rfl]
        simp only [go_sem, Int.reduceEq, Int.reduceLE, Int.reduceLT, Int.reduceToNat, evD_tmp, k4, k5, k6]
        exact Fin.ret (.tupL ⟨cvZ, .v, .v, trivial⟩)
    subst he
    have he2 : (((0 : Nat) : Int) != 0) = false := rfl
    rw [if_neg (by simp)] at hb
    have hG1 := (hG rfl).1
    have hAl := rAllC c (by omega)
    have hlen := c.all_len
    simp only [go_sem, Int.reduceEq, Int.reduceLE, Int.reduceLT, Int.reduceToNat, hzp, Pd_4, Pd_len, Pd_all, he2, Pd_take]
    refine hAl.pd ⟨.same (Cf.d_bl _), trivial⟩ (.sl (Cf.cs_bl _)) ?_
    have hsum : grSz (d ++ [(x.2.1, c)]) = grSz d + c.sz := by unfold grSz; rw [List.map_append, Cf.szs_append]; simp [Cf.szs_cons, Cf.szs_nil]
    have ew : IntKind.i64.wrap ((grSz d : Nat) + (c.sz : Int)) = ((grSz (d ++ [(x.2.1, c)]) : Nat) : Int) := by
      have : i * 1000000 ≤ 50 * 1000000 := Nat.mul_le_mul_right _ (by omega)
      rw [wrap_int _ (by omega) (by omega)]; omega
    simp only [go_sem, Int.reduceEq, Int.reduceLE, Int.reduceLT, Int.reduceToNat, cfs_len, List.length_map, hlen, ew, Pd_take, Pd_len, str_get hnx, hil, hwi]
    exact ⟨by omega, (i + 1, d ++ [(x.2.1, c)]), ⟨hil, by simp; omega, by dsimp only; rw [hsum]; omega, hb⟩, by dsimp only; omega, Mv.of [some 0, some 1, some 2, some 5] rfl ⟨.varS rfl (by simp), .varS rfl (by simp), .varL rfl (by simp [CvL, hqk]), .slcS (by simp) (dfR_bl _), trivial⟩ (by simp only [CvL]; simp [hqk, hqn, hqb, hqp, -List.map_map])⟩
  have hrs : (s.extract a s.size).size = s.size - a := by rw [ByteArray.size_extract]; omega
  obtain ⟨m, rfl⟩ : ∃ m, n = m + 1 := ⟨n - 1, by omega⟩
  rw [lnGo, if_neg (by omega)] at hgo
  have hf := rFind s a (by omega) ha
  unfold findN at hf
  rw [← rest_list s a] at hf
  obtain ⟨hA1, hA2⟩ := line_at s.size s a h kinds l _ rfl
  have hkle := ixN_le 10 (s.extract a s.size).data.toList
  have hkl : (s.extract a s.size).data.toList.length = s.size - a := by rw [← hrs]; exact Array.length_toList
  rw [hkl] at hkle
  generalize ixN 10 (s.extract a s.size).data.toList = k at hf hA1 hA2 hkle
  have fail : ∀ p e, lnGo s.size kinds s.size s [] 0 = .inl (p, e) → e ≠ 0 → (if (linesR s kinds).2.2 ≠ 0 then (zGr, ((linesR s kinds).2.1 : Int), (linesR s kinds).2.2) else readB kinds (bodiesGo kinds ((linesR s kinds).1.map (·.2.1)) (linesR s kinds).1 [])) = (zGr, (p : Int), e) := fun p e h he => by
    have : linesR s kinds = ([], p, e) := by unfold linesR; rw [h]; rfl
    rw [this, if_pos he]
  simp only [go_sem, Int.reduceEq, Int.reduceLE, Int.reduceLT, Int.reduceToNat, h]
  refine hf.pv ⟨.v, .v, trivial⟩ ?_
  by_cases hk : a + k < s.size
  case neg =>
    have hst := hA1 hk
    rw [hst] at hgo
    have hak : a + k = s.size := by omega
    have z : (((a + k : Nat) : Int) == (s.size : Int)) = true := by rw [hak]; simp
    rw [fail _ _ hgo (by simp)]
    simp only [go_sem, Int.reduceEq, Int.reduceLE, Int.reduceLT, Int.reduceToNat, z, hak]
    exact Fin.ret (.tupL ⟨cvZ, .v, .v, trivial⟩)
  obtain ⟨hlo, hst⟩ := hA2 hk
  have z : (((a + k : Nat) : Int) == (s.size : Int)) = false := by rw [beq_eq_false_iff_ne]; omega
  rw [hst, hlo] at hgo
  dsimp only at hgo
  have hw1 := wrap_succ (a + k) (by omega)
  have hts : (s.extract a (a + k)).size = k := by rw [ByteArray.size_extract]; omega
  have hH := rHead (s.extract a (a + k)) (by omega)
  have hcx := @cut_ext (s.extract a (a + k))
  unfold headI at hH
  by_cases h50 : 50 ≤ l.length
  · have z2 : ((l.length : Int) == 50) = true := by rw [beq_iff_eq]; omega
    have hK : lnK s.size kinds l a (k + 1) true (cutL (s.extract a (a + k)) eqS) = .inl (a, 4) := by unfold lnK; rw [if_neg (by simp), if_pos h50]
    rw [hK] at hgo
    rw [fail _ _ hgo (by simp)]
    simp only [go_sem, Int.reduceEq, Int.reduceLE, Int.reduceLT, Int.reduceToNat, z, z2, List.length_map]
    exact Fin.ret (.tupL ⟨cvZ, .v, .v, trivial⟩)
  have z2 : ((l.length : Int) == 50) = false := by rw [beq_eq_false_iff_ne]; omega
  have le1 : a ≤ a + k := by omega
  have le2 : a + k ≤ s.size := by omega
  simp only [go_sem, Int.reduceEq, Int.reduceLE, Int.reduceLT, Int.reduceToNat, z, z2, List.length_map, le1, le2]
  refine hH.pv ⟨.v, trivial⟩ ?_
  generalize cutL (s.extract a (a + k)) eqS = q at hgo hcx
  obtain ⟨nm, bd, okk⟩ := q
  dsimp only at hcx ⊢
  have m1 : ((-1 : Int) < 0) := by omega
  cases okk with
  | false =>
    have hK : lnK s.size kinds l a (k + 1) true (nm, bd, false) = .inl (a, 2) := by unfold lnK; rw [if_neg (by simp), if_neg h50, if_pos rfl]
    rw [hK] at hgo
    rw [fail _ _ hgo (by simp), if_neg (by simp)]
    simp only [go_sem, Int.reduceEq, Int.reduceLE, Int.reduceLT, Int.reduceToNat, m1]
    exact Fin.ret (.tupL ⟨cvZ, .v, .v, trivial⟩)
  | true =>
  cases hnb : nameB nm with
  | false =>
    have hK : lnK s.size kinds l a (k + 1) true (nm, bd, true) = .inl (a, 2) := by unfold lnK; rw [if_neg (by simp), if_neg h50, if_neg (by simp), if_pos hnb]
    rw [hK] at hgo
    rw [fail _ _ hgo (by simp), if_neg (by simp)]
    simp only [go_sem, Int.reduceEq, Int.reduceLE, Int.reduceLT, Int.reduceToNat, m1]
    exact Fin.ret (.tupL ⟨cvZ, .v, .v, trivial⟩)
  | true =>
  obtain ⟨c1, c2, c3⟩ := hcx rfl
  rw [hts] at c2 c3
  rw [if_pos (show (true = true ∧ true = true) from ⟨rfl, rfl⟩)]
  have x1 : s.extract a (a + nm.size) = nm := by
    conv => rhs; rw [c1]
    apply ByteArray.ext
    simp only [ByteArray.data_extract]
    rw [Array.extract_extract]
    congr 1 <;> omega
  have x2 : s.extract (a + nm.size + 3) (a + k) = bd := by
    rw [c2]
    apply ByteArray.ext
    simp only [ByteArray.data_extract]
    rw [Array.extract_extract]
    congr 1 <;> omega
  have p1 : ¬ ((nm.size : Int) < 0) := by omega
  have w1 : IntKind.i64.wrap ((a : Int) + (nm.size : Int)) = ((a + nm.size : Nat) : Int) := by rw [wrap_int _ (by omega) (by omega)]; omega
  have w2 : IntKind.i64.wrap (((a + nm.size : Nat) : Int) + 3) = ((a + nm.size + 3 : Nat) : Int) := by rw [wrap_int _ (by omega) (by omega)]; omega
  have le3 : a ≤ a + nm.size := by omega
  have le4 : a + nm.size ≤ s.size := by omega
  have le5 : a + nm.size + 3 ≤ a + k := by omega
  simp only [go_sem, Int.reduceEq, Int.reduceLE, Int.reduceLT, Int.reduceToNat, p1, w1, le3, le4, x1]
  refine (rIn kinds nm).pv ⟨hqk _ _ _, .v, trivial⟩ ?_
  rw [any_comm]
  cases hin1 : kinds.any fun x => decide (nm = x) with
  | true =>
    have hK : lnK s.size kinds l a (k + 1) true (nm, bd, true) = .inl (a, 2) := by unfold lnK; rw [if_neg (by simp), if_neg h50, if_neg (by simp), if_neg (by show ¬ nameB nm = false; rw [hnb]; simp), if_pos (by unfold metC; rw [List.any_append]; show ((kinds.any fun x => decide (nm = x)) || _) = true; rw [hin1]; rfl)]
    rw [hK] at hgo
    rw [fail _ _ hgo (by simp)]
    simp only [go_sem, Int.reduceEq, Int.reduceLE, Int.reduceLT, Int.reduceToNat]
    exact Fin.ret (.tupL ⟨cvZ, .v, .v, trivial⟩)
  | false =>
  simp only [go_sem, Int.reduceEq, Int.reduceLE, Int.reduceLT, Int.reduceToNat, w1, le3, le4, x1]
  refine (rIn (l.map (·.2.1)) nm).pv ⟨.frzS rfl rfl (strR_bl _), .v, trivial⟩ ?_
  rw [any_comm]
  cases hin2 : (l.map (·.2.1)).any fun x => decide (nm = x) with
  | true =>
    have hK : lnK s.size kinds l a (k + 1) true (nm, bd, true) = .inl (a, 2) := by unfold lnK; rw [if_neg (by simp), if_neg h50, if_neg (by simp), if_neg (by show ¬ nameB nm = false; rw [hnb]; simp), if_pos (by unfold metC; rw [List.any_append]; show (_ || ((l.map (·.2.1)).any fun x => decide (nm = x))) = true; rw [hin2, Bool.or_true])]
    rw [hK] at hgo
    rw [fail _ _ hgo (by simp)]
    simp only [go_sem, Int.reduceEq, Int.reduceLE, Int.reduceLT, Int.reduceToNat]
    exact Fin.ret (.tupL ⟨cvZ, .v, .v, trivial⟩)
  | false =>
  have hK : lnK s.size kinds l a (k + 1) true (nm, bd, true) = .inr (l ++ [(a, nm, bd)], a + (k + 1)) := by
    unfold lnK
    rw [if_neg (by simp), if_neg h50, if_neg (by simp), if_neg (by show ¬ nameB nm = false; rw [hnb]; simp), if_neg (by unfold metC; rw [List.any_append]; show ¬ ((kinds.any fun x => decide (nm = x)) || ((l.map (·.2.1)).any fun x => decide (nm = x))) = true; rw [hin1, hin2]; simp)]
  rw [hK] at hgo
  dsimp only at hgo
  simp only [go_sem, Int.reduceEq, Int.reduceLE, Int.reduceLT, Int.reduceToNat, w1, w2, le2, le3, le4, le5, x1, x2, hw1, List.length_map]
  have hres : (s.extract (a + k + 1) s.size).size ≤ m := by rw [ByteArray.size_extract]; omega
  have hgo' : lnGo s.size kinds s.size s [] 0 = lnGo s.size kinds m (s.extract (a + k + 1) s.size) (l ++ [(a, nm, bd)]) (a + k + 1) := hgo
  have f1 : strR ((l ++ [(a, nm, bd)]).map (·.2.1)) = strR (l.map (·.2.1)) ++ [[.s nm]] := by simp
  have f2 : strR ((l ++ [(a, nm, bd)]).map (·.2.2)) = strR (l.map (·.2.2)) ++ [[.s bd]] := by simp
  have f3 : natR ((l ++ [(a, nm, bd)]).map plX) = natR (l.map plX) ++ [[.i (a + nm.size + 3 : Nat)]] := by simp [natR, plX]
  refine ⟨by omega, by omega, by omega, (l ++ [(a, nm, bd)], a + k + 1), ⟨by simp; omega, by dsimp only; omega, m, hres, hgo'⟩, by dsimp only; omega, ?_⟩
  refine Mv.of [some 0, some 1, some 5, some 6, some 7] rfl ⟨.varS rfl (by simp), .varS rfl (by simp), ?_, ?_, ?_, trivial⟩ (by simp only [CvL]; simp [hqk])
  · exact .slcS (by show _ = some (Ob.slc 9 1 (strR ((l ++ [(a, nm, bd)]).map (·.2.1)))); rw [f1]; rfl) (strR_bl _)
  · exact .slcS (by show _ = some (Ob.slc 9 1 (strR ((l ++ [(a, nm, bd)]).map (·.2.2)))); rw [f2]; rfl) (strR_bl _)
  · exact .slcS (by show _ = some (Ob.slc 3 1 (natR ((l ++ [(a, nm, bd)]).map plX))); rw [f3]; rfl) (natR_bl _)
end Go.Proofs.YtdliolbjngcgcaaGreat.W
set_option maxRecDepth 100000
/- An expression's text, put on a page: the program's way. -/
namespace Go.Proofs.YtdliolbjngcgcaaGreat.W
open Go Go.Proofs Go.Proofs.YtdliolbjngcgcaaGreat.AWP
attribute [local irreducible] xl hide aop aops aopQ qops guardP condP
def kRows (l : List Int) : List (List D) := l.map fun n => [.v (.int .u8 n)]
abbrev Ks (l : List Int) : D := .sl 1 (kRows l)
theorem kRows_len (l : List Int) : (kRows l).length = l.length := by simp [kRows]
theorem kRows_get {l : List Int} {i : Nat} {x : Int} (h : l[i]? = some x) : (kRows l)[i]? = some [.v (.int .u8 x)] := by simp [kRows, h]
def idxK : List Int → Int → Nat → Int
  | [], _, _ => -1
  | y :: l, x, i => if x = y then (i : Int) else idxK l x (i + 1)
theorem ixK (l : List Int) (x : Int) (hl : l.length ≤ 1000) : AP Tryz.prog 91 [Ks l, .v (.int .u8 x)] (.i (idxK l x 0)) := by
  have hrl := kRows_len l
  refine AC.lbody hT hm Tryz.func91 f91_nm f91_lc f91_res f91_nt ?_
  simp only [go_sem, Int.reduceEq, Int.reduceLE, Int.reduceLT, Int.reduceToNat, hrl]
  refine xl_loopM hT hm (fun i : Nat => ⟨f91_i7 (Ks l) (.v (.int .u8 x)) (.i l.length) (.i i), []⟩)
    (fun i => i ≤ l.length ∧ idxK (l.drop i) x i = idxK l x 0) (fun i => l.length - i) 0 ⟨Nat.zero_le _, rfl⟩ (Mv.none (by simp [f91_i7, kRows])) ?_
  rintro i ⟨hi, hx⟩
  simp only [go_sem, Int.reduceEq, Int.reduceLE, Int.reduceLT, Int.reduceToNat, hrl]
  by_cases h : i < l.length
  case neg =>
    rw [List.drop_of_length_le (by omega)] at hx
    simp only [go_sem, Int.reduceEq, Int.reduceLE, Int.reduceLT, Int.reduceToNat, h]
    exact Fin.v (by rw [← hx]; rfl)
  obtain ⟨y, hy⟩ := get_ex h
  rw [drop_get hy, idxK] at hx
  simp only [go_sem, Int.reduceEq, Int.reduceLE, Int.reduceLT, Int.reduceToNat, h, hrl, kRows_get hy]
  by_cases hxy : x = y
  · rw [if_pos hxy] at hx
    have e : (x == y) = true := by simp [hxy]
    simp only [go_sem, Int.reduceEq, Int.reduceLE, Int.reduceLT, Int.reduceToNat, e]
    exact Fin.v (by rw [← hx])
  · rw [if_neg hxy] at hx
    have e : (x == y) = false := by simp [hxy]
    simp only [go_sem, Int.reduceEq, Int.reduceLE, Int.reduceLT, Int.reduceToNat, e]
    refine ⟨i + 1, ⟨h, hx⟩, by omega, ?_⟩
    rw [wrap_succ i (by omega)]
    exact Mv.none (by simp [kRows])
theorem idxK_ge : ∀ (l : List Int) (x : Int) (i : Nat), decide (0 ≤ idxK l x i) = l.contains x
  | [], x, i => by simp [idxK]
  | y :: l, x, i => by
    rw [idxK]
    split
    · rename_i h; subst h; simp
    · rename_i h
      rw [idxK_ge l x (i + 1), List.contains_cons, beq_false h, Bool.false_or]
theorem hasK (l : List Int) (x : Int) (hl : l.length ≤ 1000) : AP Tryz.prog 68 [Ks l, .v (.int .u8 x)] (.b (l.contains x)) := by
  have h := idxK_ge l x 0
  refine AC.lbody hT hm Tryz.func68 f68_nm f68_lc f68_res f68_nt ?_
  simp only [go_sem, Int.reduceEq, Int.reduceLE, Int.reduceLT, Int.reduceToNat]
  refine (ixK l x hl).pv ⟨.same (.sl fun r hr d hd => ?_), .v, trivial⟩ ?_
  · obtain ⟨n, _, rfl⟩ := List.mem_map.1 hr
    rw [List.mem_singleton.1 hd]; exact .v _
  simp only [go_sem, Int.reduceEq, Int.reduceLE, Int.reduceLT, Int.reduceToNat]
  exact Fin.v (by rw [h])
def KsD (K : D) (ks : List Int) : Prop := K = Ks ks ∨ (ks = [] ∧ K = .v (.slice none 0 0))
theorem Ks_bl (ks : List Int) : Bl 0 (Ks ks) := .sl fun r hr d hd => by
  obtain ⟨n, _, rfl⟩ := List.mem_map.1 hr
  rw [List.mem_singleton.1 hd]; exact .v _
theorem KsD.cv {K : D} {ks : List Int} (h : KsD K ks) {om : List Ob} {F : Nat → Bool} : Cv om F [] K (Ks ks) := by
  rcases h with rfl | ⟨rfl, rfl⟩
  · exact .same (Ks_bl ks)
  · exact .nil
abbrev PGC : Nat := 84
theorem bS.form {T : Nat} {x : List D} {l : List UInt8} {R om : List Ob} (h : bS T x l R om) : ∃ a b, om = .var T (a :: b :: x) :: R := by
  rcases h with ⟨_, rfl⟩ | ⟨j, _, rfl⟩
  · exact ⟨_, _, rfl⟩
  · exact ⟨_, _, rfl⟩
theorem brkT (l : List UInt8) : brk true l = 40 :: (l ++ [41]) := _root_.id rfl
theorem brkF (l : List UInt8) : brk false l = l := _root_.id rfl
/-- What is put: in brackets, if the kind is one of some. -/
def putC (g : Gr) (r : Cf) : Prop := ∀ (K : D) (ks : List Int) (l : List UInt8) (R om : List Ob), KsD K ks → ks.length ≤ 10 → bS PGC g.c l R om → l.length + r.sz * 110 ≤ 100000000 →
  AC Tryz.prog 39 [.ref 0 0, .agg r.c, K] om (fun o om' => o = .ret (.tup []) ∧ ∃ R', bS PGC g.c (l ++ brk (isIn ks r.kind) (r.tx g.kinds (g.defs.map (·.1)))) R' om')
theorem ba_back (s : ByteArray) : (⟨s.data.toList.toArray⟩ : ByteArray) = s := by cases s; simp
theorem nm_at {L : List ByteArray} {n : Nat} {s : ByteArray} (h : L[n]? = some s) : (L.getD ((n : Int)).toNat ⟨#[]⟩).data.toList = s.data.toList := by
  rw [Int.toNat_natCast, List.getD_eq_getElem?_getD, h]; rfl
set_option maxHeartbeats 2000000 in
theorem putC1 (g : Gr) : putC g (.mk 1 0 []) := by
  intro K ks l R om hK hk hB hl
  rw [Cf.sz_mk, Cf.szs_nil] at hl
  have hc0 := hasK ks 1 (by omega)
  have hq := pelG g
  obtain ⟨a0, b0, rfl⟩ := hB.form
  refine AC.lbody hT hm Tryz.func39 f39_nm f39_lc f39_res f39_nt ?_
  simp only [go_sem, Int.reduceEq, Int.reduceLE, Int.reduceLT, Int.reduceToNat, Cf.c_mk]
  refine hc0.pv ⟨hK.cv, .v, trivial⟩ ?_
  have hin : isIn ks (Cf.mk 1 0 []).kind = ks.contains 1 := rfl
  rw [hin]
  clear hin
  cases hc : ks.contains 1 with
  | true =>
    simp only [go_sem, Int.reduceEq, Int.reduceLE, Int.reduceLT, Int.reduceToNat, Cf.c_mk, Cf.cs_eq, Int.reduceBEq, hq]
    refine ⟨_, wrByteG g.c pageN l 40 R _ hB (by omega), ?_⟩
    rintro _ om1 hw
    obtain ⟨rfl, R1, h1⟩ := hw.bS
    obtain ⟨a1, b1, rfl⟩ := h1.form
    obtain ⟨l1, e1⟩ : ∃ B, B = l ++ [40] := ⟨_, rfl⟩
    have L1 : l1.length = l.length + 1 := by rw [e1, List.length_append]; try rfl
    rw [← e1] at h1
    simp only [go_sem, Int.reduceEq, Int.reduceLE, Int.reduceLT, Int.reduceToNat, Cf.c_mk, Cf.cs_eq, Int.reduceBEq, Cf.c_take, hq]
    refine ⟨_, wrStrG g.c pageN l1 [91, 93] R1 _ h1 (by omega) (by simp), ?_⟩
    rintro _ om2 hw
    obtain ⟨rfl, R2, h2⟩ := hw.bS
    obtain ⟨a2, b2, rfl⟩ := h2.form
    obtain ⟨l2, e2⟩ : ∃ B, B = l1 ++ [91, 93] := ⟨_, rfl⟩
    have L2 : l2.length = l1.length + 2 := by rw [e2, List.length_append]; try rfl
    rw [← e2] at h2
    simp only [go_sem, Int.reduceEq, Int.reduceLE, Int.reduceLT, Int.reduceToNat, Cf.c_mk, Cf.cs_eq, Int.reduceBEq, Cf.c_take, hq]
    refine ⟨_, wrByteG g.c pageN l2 41 R2 _ h2 (by omega), ?_⟩
    rintro _ om3 hw
    obtain ⟨rfl, R3, h3⟩ := hw.bS
    obtain ⟨a3, b3, rfl⟩ := h3.form
    obtain ⟨l3, e3⟩ : ∃ B, B = l2 ++ [41] := ⟨_, rfl⟩
    have L3 : l3.length = l2.length + 1 := by rw [e3, List.length_append]; try rfl
    rw [← e3] at h3
    simp only [go_sem, Int.reduceEq, Int.reduceLE, Int.reduceLT, Int.reduceToNat, Cf.c_mk, Cf.cs_eq, Int.reduceBEq, Cf.c_take, hq]
    refine finSelf ⟨rfl, R3, ?_⟩
    have e : l ++ brk true ((Cf.mk 1 0 []).tx g.kinds (g.defs.map (·.1))) = l3 := by rw [e3, e2, e1, Cf.tx_1, brkT]; try (simp only [List.append_assoc, List.cons_append, List.nil_append])
    rw [e]
    exact h3
  | false =>
    simp only [go_sem, Int.reduceEq, Int.reduceLE, Int.reduceLT, Int.reduceToNat, Cf.c_mk, Cf.cs_eq, Int.reduceBEq, hq]
    refine ⟨_, wrStrG g.c pageN l [91, 93] R _ hB (by omega) (by simp), ?_⟩
    rintro _ om1 hw
    obtain ⟨rfl, R1, h1⟩ := hw.bS
    obtain ⟨a1, b1, rfl⟩ := h1.form
    obtain ⟨l1, e1⟩ : ∃ B, B = l ++ [91, 93] := ⟨_, rfl⟩
    have L1 : l1.length = l.length + 2 := by rw [e1, List.length_append]; try rfl
    rw [← e1] at h1
    simp only [go_sem, Int.reduceEq, Int.reduceLE, Int.reduceLT, Int.reduceToNat, Cf.c_mk, Cf.cs_eq, Int.reduceBEq, Cf.c_take, hq]
    refine finSelf ⟨rfl, R1, ?_⟩
    have e : l ++ brk false ((Cf.mk 1 0 []).tx g.kinds (g.defs.map (·.1))) = l1 := by rw [e1, Cf.tx_1, brkF]; try (simp only [List.append_assoc, List.cons_append, List.nil_append])
    rw [e]
    exact h1
set_option maxHeartbeats 2000000 in
theorem putC2 (g : Gr) : putC g (.mk 2 0 []) := by
  intro K ks l R om hK hk hB hl
  rw [Cf.sz_mk, Cf.szs_nil] at hl
  have hc0 := hasK ks 2 (by omega)
  have hq := pelG g
  obtain ⟨a0, b0, rfl⟩ := hB.form
  refine AC.lbody hT hm Tryz.func39 f39_nm f39_lc f39_res f39_nt ?_
  simp only [go_sem, Int.reduceEq, Int.reduceLE, Int.reduceLT, Int.reduceToNat, Cf.c_mk]
  refine hc0.pv ⟨hK.cv, .v, trivial⟩ ?_
  have hin : isIn ks (Cf.mk 2 0 []).kind = ks.contains 2 := rfl
  rw [hin]
  clear hin
  cases hc : ks.contains 2 with
  | true =>
    simp only [go_sem, Int.reduceEq, Int.reduceLE, Int.reduceLT, Int.reduceToNat, Cf.c_mk, Cf.cs_eq, Int.reduceBEq, hq]
    refine ⟨_, wrByteG g.c pageN l 40 R _ hB (by omega), ?_⟩
    rintro _ om1 hw
    obtain ⟨rfl, R1, h1⟩ := hw.bS
    obtain ⟨a1, b1, rfl⟩ := h1.form
    obtain ⟨l1, e1⟩ : ∃ B, B = l ++ [40] := ⟨_, rfl⟩
    have L1 : l1.length = l.length + 1 := by rw [e1, List.length_append]; try rfl
    rw [← e1] at h1
    simp only [go_sem, Int.reduceEq, Int.reduceLE, Int.reduceLT, Int.reduceToNat, Cf.c_mk, Cf.cs_eq, Int.reduceBEq, Cf.c_take, hq]
    refine ⟨_, wrStrG g.c pageN l1 [40, 41] R1 _ h1 (by omega) (by simp), ?_⟩
    rintro _ om2 hw
    obtain ⟨rfl, R2, h2⟩ := hw.bS
    obtain ⟨a2, b2, rfl⟩ := h2.form
    obtain ⟨l2, e2⟩ : ∃ B, B = l1 ++ [40, 41] := ⟨_, rfl⟩
    have L2 : l2.length = l1.length + 2 := by rw [e2, List.length_append]; try rfl
    rw [← e2] at h2
    simp only [go_sem, Int.reduceEq, Int.reduceLE, Int.reduceLT, Int.reduceToNat, Cf.c_mk, Cf.cs_eq, Int.reduceBEq, Cf.c_take, hq]
    refine ⟨_, wrByteG g.c pageN l2 41 R2 _ h2 (by omega), ?_⟩
    rintro _ om3 hw
    obtain ⟨rfl, R3, h3⟩ := hw.bS
    obtain ⟨a3, b3, rfl⟩ := h3.form
    obtain ⟨l3, e3⟩ : ∃ B, B = l2 ++ [41] := ⟨_, rfl⟩
    have L3 : l3.length = l2.length + 1 := by rw [e3, List.length_append]; try rfl
    rw [← e3] at h3
    simp only [go_sem, Int.reduceEq, Int.reduceLE, Int.reduceLT, Int.reduceToNat, Cf.c_mk, Cf.cs_eq, Int.reduceBEq, Cf.c_take, hq]
    refine finSelf ⟨rfl, R3, ?_⟩
    have e : l ++ brk true ((Cf.mk 2 0 []).tx g.kinds (g.defs.map (·.1))) = l3 := by rw [e3, e2, e1, Cf.tx_2, brkT]; try (simp only [List.append_assoc, List.cons_append, List.nil_append])
    rw [e]
    exact h3
  | false =>
    simp only [go_sem, Int.reduceEq, Int.reduceLE, Int.reduceLT, Int.reduceToNat, Cf.c_mk, Cf.cs_eq, Int.reduceBEq, hq]
    refine ⟨_, wrStrG g.c pageN l [40, 41] R _ hB (by omega) (by simp), ?_⟩
    rintro _ om1 hw
    obtain ⟨rfl, R1, h1⟩ := hw.bS
    obtain ⟨a1, b1, rfl⟩ := h1.form
    obtain ⟨l1, e1⟩ : ∃ B, B = l ++ [40, 41] := ⟨_, rfl⟩
    have L1 : l1.length = l.length + 2 := by rw [e1, List.length_append]; try rfl
    rw [← e1] at h1
    simp only [go_sem, Int.reduceEq, Int.reduceLE, Int.reduceLT, Int.reduceToNat, Cf.c_mk, Cf.cs_eq, Int.reduceBEq, Cf.c_take, hq]
    refine finSelf ⟨rfl, R1, ?_⟩
    have e : l ++ brk false ((Cf.mk 2 0 []).tx g.kinds (g.defs.map (·.1))) = l1 := by rw [e1, Cf.tx_2, brkF]; try (simp only [List.append_assoc, List.cons_append, List.nil_append])
    rw [e]
    exact h1
set_option maxHeartbeats 2000000 in
theorem putC3 (g : Gr) (n : Nat) (s : ByteArray) (hs : g.kinds[n]? = some s) (hz : s.size ≤ 100) : putC g (.mk 3 n []) := by
  intro K ks l R om hK hk hB hl
  rw [Cf.sz_mk, Cf.szs_nil] at hl
  have hc0 := hasK ks 3 (by omega)
  have hq := pelG g
  obtain ⟨a0, b0, rfl⟩ := hB.form
  have hsl : s.data.toList.length = s.size := Array.length_toList
  have hlt : n < g.kinds.length := (List.getElem?_eq_some_iff.1 hs).1
  refine AC.lbody hT hm Tryz.func39 f39_nm f39_lc f39_res f39_nt ?_
  simp only [go_sem, Int.reduceEq, Int.reduceLE, Int.reduceLT, Int.reduceToNat, Cf.c_mk]
  refine hc0.pv ⟨hK.cv, .v, trivial⟩ ?_
  have hin : isIn ks (Cf.mk 3 n []).kind = ks.contains 3 := rfl
  rw [hin]
  clear hin
  cases hc : ks.contains 3 with
  | true =>
    simp only [go_sem, Int.reduceEq, Int.reduceLE, Int.reduceLT, Int.reduceToNat, Cf.c_mk, Cf.cs_eq, Int.reduceBEq, hs, str_get hs, hlt, List.length_map]
    refine ⟨_, wrByteG g.c pageN l 40 R _ hB (by omega), ?_⟩
    rintro _ om1 hw
    obtain ⟨rfl, R1, h1⟩ := hw.bS
    obtain ⟨a1, b1, rfl⟩ := h1.form
    obtain ⟨l1, e1⟩ : ∃ B, B = l ++ [40] := ⟨_, rfl⟩
    have L1 : l1.length = l.length + 1 := by rw [e1, List.length_append]; try rfl
    rw [← e1] at h1
    simp only [go_sem, Int.reduceEq, Int.reduceLE, Int.reduceLT, Int.reduceToNat, Cf.c_mk, Cf.cs_eq, Int.reduceBEq, Cf.c_take, hs, str_get hs, hlt, List.length_map]
    have hX := wrStrG g.c pageN l1 s.data.toList R1 _ h1 (by omega) (by omega)
    rw [ba_back] at hX
    refine ⟨_, hX, ?_⟩
    rintro _ om2 hw
    obtain ⟨rfl, R2, h2⟩ := hw.bS
    obtain ⟨a2, b2, rfl⟩ := h2.form
    obtain ⟨l2, e2⟩ : ∃ B, B = l1 ++ s.data.toList := ⟨_, rfl⟩
    have L2 : l2.length = l1.length + s.data.toList.length := by rw [e2, List.length_append]; try rfl
    rw [← e2] at h2
    simp only [go_sem, Int.reduceEq, Int.reduceLE, Int.reduceLT, Int.reduceToNat, Cf.c_mk, Cf.cs_eq, Int.reduceBEq, Cf.c_take, hs, str_get hs, hlt, List.length_map]
    refine ⟨_, wrByteG g.c pageN l2 41 R2 _ h2 (by omega), ?_⟩
    rintro _ om3 hw
    obtain ⟨rfl, R3, h3⟩ := hw.bS
    obtain ⟨a3, b3, rfl⟩ := h3.form
    obtain ⟨l3, e3⟩ : ∃ B, B = l2 ++ [41] := ⟨_, rfl⟩
    have L3 : l3.length = l2.length + 1 := by rw [e3, List.length_append]; try rfl
    rw [← e3] at h3
    simp only [go_sem, Int.reduceEq, Int.reduceLE, Int.reduceLT, Int.reduceToNat, Cf.c_mk, Cf.cs_eq, Int.reduceBEq, Cf.c_take, hs, str_get hs, hlt, List.length_map]
    refine finSelf ⟨rfl, R3, ?_⟩
    have e : l ++ brk true ((Cf.mk 3 n []).tx g.kinds (g.defs.map (·.1))) = l3 := by rw [e3, e2, e1, Cf.tx_3, nm_at hs, brkT]; try (simp only [List.append_assoc, List.cons_append, List.nil_append])
    rw [e]
    exact h3
  | false =>
    simp only [go_sem, Int.reduceEq, Int.reduceLE, Int.reduceLT, Int.reduceToNat, Cf.c_mk, Cf.cs_eq, Int.reduceBEq, hs, str_get hs, hlt, List.length_map]
    have hX := wrStrG g.c pageN l s.data.toList R _ hB (by omega) (by omega)
    rw [ba_back] at hX
    refine ⟨_, hX, ?_⟩
    rintro _ om1 hw
    obtain ⟨rfl, R1, h1⟩ := hw.bS
    obtain ⟨a1, b1, rfl⟩ := h1.form
    obtain ⟨l1, e1⟩ : ∃ B, B = l ++ s.data.toList := ⟨_, rfl⟩
    have L1 : l1.length = l.length + s.data.toList.length := by rw [e1, List.length_append]; try rfl
    rw [← e1] at h1
    simp only [go_sem, Int.reduceEq, Int.reduceLE, Int.reduceLT, Int.reduceToNat, Cf.c_mk, Cf.cs_eq, Int.reduceBEq, Cf.c_take, hs, str_get hs, hlt, List.length_map]
    refine finSelf ⟨rfl, R1, ?_⟩
    have e : l ++ brk false ((Cf.mk 3 n []).tx g.kinds (g.defs.map (·.1))) = l1 := by rw [e1, Cf.tx_3, nm_at hs, brkF]; try (simp only [List.append_assoc, List.cons_append, List.nil_append])
    rw [e]
    exact h1
set_option maxHeartbeats 2000000 in
theorem putC6 (g : Gr) (n : Nat) (s : ByteArray) (hs : (g.defs.map (·.1))[n]? = some s) (hz : s.size ≤ 100) : putC g (.mk 6 n []) := by
  intro K ks l R om hK hk hB hl
  rw [Cf.sz_mk, Cf.szs_nil] at hl
  have hc0 := hasK ks 6 (by omega)
  have hq := pelG g
  obtain ⟨a0, b0, rfl⟩ := hB.form
  obtain ⟨dx, hdx, rfl⟩ : ∃ dx, g.defs[n]? = some dx ∧ s = dx.1 := by rw [List.getElem?_map, Option.map_eq_some_iff] at hs; obtain ⟨dx, h1, h2⟩ := hs; exact ⟨dx, h1, h2.symm⟩
  have hsl : dx.1.data.toList.length = dx.1.size := Array.length_toList
  have hlt : n < g.defs.length := (List.getElem?_eq_some_iff.1 hdx).1
  refine AC.lbody hT hm Tryz.func39 f39_nm f39_lc f39_res f39_nt ?_
  simp only [go_sem, Int.reduceEq, Int.reduceLE, Int.reduceLT, Int.reduceToNat, Cf.c_mk]
  refine hc0.pv ⟨hK.cv, .v, trivial⟩ ?_
  have hin : isIn ks (Cf.mk 6 n []).kind = ks.contains 6 := rfl
  rw [hin]
  clear hin
  cases hc : ks.contains 6 with
  | true =>
    simp only [go_sem, Int.reduceEq, Int.reduceLE, Int.reduceLT, Int.reduceToNat, Cf.c_mk, Cf.cs_eq, Int.reduceBEq, hdx, hlt, List.length_map, df_0]
    refine ⟨_, wrByteG g.c pageN l 40 R _ hB (by omega), ?_⟩
    rintro _ om1 hw
    obtain ⟨rfl, R1, h1⟩ := hw.bS
    obtain ⟨a1, b1, rfl⟩ := h1.form
    obtain ⟨l1, e1⟩ : ∃ B, B = l ++ [40] := ⟨_, rfl⟩
    have L1 : l1.length = l.length + 1 := by rw [e1, List.length_append]; try rfl
    rw [← e1] at h1
    simp only [go_sem, Int.reduceEq, Int.reduceLE, Int.reduceLT, Int.reduceToNat, Cf.c_mk, Cf.cs_eq, Int.reduceBEq, Cf.c_take, hdx, hlt, List.length_map, df_0]
    have hX := wrStrG g.c pageN l1 dx.1.data.toList R1 _ h1 (by omega) (by omega)
    rw [ba_back] at hX
    refine ⟨_, hX, ?_⟩
    rintro _ om2 hw
    obtain ⟨rfl, R2, h2⟩ := hw.bS
    obtain ⟨a2, b2, rfl⟩ := h2.form
    obtain ⟨l2, e2⟩ : ∃ B, B = l1 ++ dx.1.data.toList := ⟨_, rfl⟩
    have L2 : l2.length = l1.length + dx.1.data.toList.length := by rw [e2, List.length_append]; try rfl
    rw [← e2] at h2
    simp only [go_sem, Int.reduceEq, Int.reduceLE, Int.reduceLT, Int.reduceToNat, Cf.c_mk, Cf.cs_eq, Int.reduceBEq, Cf.c_take, hdx, hlt, List.length_map, df_0]
    refine ⟨_, wrByteG g.c pageN l2 41 R2 _ h2 (by omega), ?_⟩
    rintro _ om3 hw
    obtain ⟨rfl, R3, h3⟩ := hw.bS
    obtain ⟨a3, b3, rfl⟩ := h3.form
    obtain ⟨l3, e3⟩ : ∃ B, B = l2 ++ [41] := ⟨_, rfl⟩
    have L3 : l3.length = l2.length + 1 := by rw [e3, List.length_append]; try rfl
    rw [← e3] at h3
    simp only [go_sem, Int.reduceEq, Int.reduceLE, Int.reduceLT, Int.reduceToNat, Cf.c_mk, Cf.cs_eq, Int.reduceBEq, Cf.c_take, hdx, hlt, List.length_map, df_0]
    refine finSelf ⟨rfl, R3, ?_⟩
    have e : l ++ brk true ((Cf.mk 6 n []).tx g.kinds (g.defs.map (·.1))) = l3 := by rw [e3, e2, e1, Cf.tx_6, nm_at hs, brkT]; try (simp only [List.append_assoc, List.cons_append, List.nil_append])
    rw [e]
    exact h3
  | false =>
    simp only [go_sem, Int.reduceEq, Int.reduceLE, Int.reduceLT, Int.reduceToNat, Cf.c_mk, Cf.cs_eq, Int.reduceBEq, hdx, hlt, List.length_map, df_0]
    have hX := wrStrG g.c pageN l dx.1.data.toList R _ hB (by omega) (by omega)
    rw [ba_back] at hX
    refine ⟨_, hX, ?_⟩
    rintro _ om1 hw
    obtain ⟨rfl, R1, h1⟩ := hw.bS
    obtain ⟨a1, b1, rfl⟩ := h1.form
    obtain ⟨l1, e1⟩ : ∃ B, B = l ++ dx.1.data.toList := ⟨_, rfl⟩
    have L1 : l1.length = l.length + dx.1.data.toList.length := by rw [e1, List.length_append]; try rfl
    rw [← e1] at h1
    simp only [go_sem, Int.reduceEq, Int.reduceLE, Int.reduceLT, Int.reduceToNat, Cf.c_mk, Cf.cs_eq, Int.reduceBEq, Cf.c_take, hdx, hlt, List.length_map, df_0]
    refine finSelf ⟨rfl, R1, ?_⟩
    have e : l ++ brk false ((Cf.mk 6 n []).tx g.kinds (g.defs.map (·.1))) = l1 := by rw [e1, Cf.tx_6, nm_at hs, brkF]; try (simp only [List.append_assoc, List.cons_append, List.nil_append])
    rw [e]
    exact h1
set_option maxHeartbeats 2000000 in
theorem putC4 (g : Gr) (x y : Cf) (hx : (x.tx g.kinds (g.defs.map (·.1))).length + 4 ≤ 110 * x.sz) (hy : (y.tx g.kinds (g.defs.map (·.1))).length + 4 ≤ 110 * y.sz) (ihx : putC g x) (ihy : putC g y) : putC g (.mk 4 0 [x, y]) := by
  intro K ks l R om hK hk hB hl
  rw [Cf.sz_mk, Cf.szs_cons, Cf.szs_cons, Cf.szs_nil] at hl
  have hc0 := hasK ks 4 (by omega)
  have hq := pelG g
  obtain ⟨a0, b0, rfl⟩ := hB.form
  refine AC.lbody hT hm Tryz.func39 f39_nm f39_lc f39_res f39_nt ?_
  simp only [go_sem, Int.reduceEq, Int.reduceLE, Int.reduceLT, Int.reduceToNat, Cf.c_mk]
  refine hc0.pv ⟨hK.cv, .v, trivial⟩ ?_
  have hin : isIn ks (Cf.mk 4 0 [x, y]).kind = ks.contains 4 := rfl
  rw [hin]
  clear hin
  cases hc : ks.contains 4 with
  | true =>
    simp only [go_sem, Int.reduceEq, Int.reduceLE, Int.reduceLT, Int.reduceToNat, Cf.c_mk, Cf.cs_eq, Int.reduceBEq, hq]
    refine ⟨_, wrByteG g.c pageN l 40 R _ hB (by omega), ?_⟩
    rintro _ om1 hw
    obtain ⟨rfl, R1, h1⟩ := hw.bS
    obtain ⟨a1, b1, rfl⟩ := h1.form
    obtain ⟨l1, e1⟩ : ∃ B, B = l ++ [40] := ⟨_, rfl⟩
    have L1 : l1.length = l.length + 1 := by rw [e1, List.length_append]; try rfl
    rw [← e1] at h1
    simp only [go_sem, Int.reduceEq, Int.reduceLE, Int.reduceLT, Int.reduceToNat, Cf.c_mk, Cf.cs_eq, Int.reduceBEq, Cf.c_take, hq]
    refine ⟨_, ihx (Ks [4, 5]) [4, 5] l1 R1 _ (.inl rfl) (by simp) h1 (by omega), ?_⟩
    rintro _ om2 ⟨rfl, R2, h2⟩
    obtain ⟨a2, b2, rfl⟩ := h2.form
    obtain ⟨l2, e2⟩ : ∃ B, B = l1 ++ (brk (isIn [4, 5] x.kind) (x.tx g.kinds (g.defs.map (·.1)))) := ⟨_, rfl⟩
    have L2 : l2.length ≤ l1.length + 110 * x.sz := by rw [e2, List.length_append]; have := brk_lenC (isIn [4, 5] x.kind) (x.tx g.kinds (g.defs.map (·.1))); omega
    rw [← e2] at h2
    simp only [go_sem, Int.reduceEq, Int.reduceLE, Int.reduceLT, Int.reduceToNat, Cf.c_mk, Cf.cs_eq, Int.reduceBEq, Cf.c_take, hq]
    refine ⟨_, wrByteG g.c pageN l2 32 R2 _ h2 (by omega), ?_⟩
    rintro _ om3 hw
    obtain ⟨rfl, R3, h3⟩ := hw.bS
    obtain ⟨a3, b3, rfl⟩ := h3.form
    obtain ⟨l3, e3⟩ : ∃ B, B = l2 ++ [32] := ⟨_, rfl⟩
    have L3 : l3.length = l2.length + 1 := by rw [e3, List.length_append]; try rfl
    rw [← e3] at h3
    simp only [go_sem, Int.reduceEq, Int.reduceLE, Int.reduceLT, Int.reduceToNat, Cf.c_mk, Cf.cs_eq, Int.reduceBEq, Cf.c_take, hq]
    refine ⟨_, ihy (Ks [5]) [5] l3 R3 _ (.inl rfl) (by simp) h3 (by omega), ?_⟩
    rintro _ om4 ⟨rfl, R4, h4⟩
    obtain ⟨a4, b4, rfl⟩ := h4.form
    obtain ⟨l4, e4⟩ : ∃ B, B = l3 ++ (brk (isIn [5] y.kind) (y.tx g.kinds (g.defs.map (·.1)))) := ⟨_, rfl⟩
    have L4 : l4.length ≤ l3.length + 110 * y.sz := by rw [e4, List.length_append]; have := brk_lenC (isIn [5] y.kind) (y.tx g.kinds (g.defs.map (·.1))); omega
    rw [← e4] at h4
    simp only [go_sem, Int.reduceEq, Int.reduceLE, Int.reduceLT, Int.reduceToNat, Cf.c_mk, Cf.cs_eq, Int.reduceBEq, Cf.c_take, hq]
    refine ⟨_, wrByteG g.c pageN l4 41 R4 _ h4 (by omega), ?_⟩
    rintro _ om5 hw
    obtain ⟨rfl, R5, h5⟩ := hw.bS
    obtain ⟨a5, b5, rfl⟩ := h5.form
    obtain ⟨l5, e5⟩ : ∃ B, B = l4 ++ [41] := ⟨_, rfl⟩
    have L5 : l5.length = l4.length + 1 := by rw [e5, List.length_append]; try rfl
    rw [← e5] at h5
    simp only [go_sem, Int.reduceEq, Int.reduceLE, Int.reduceLT, Int.reduceToNat, Cf.c_mk, Cf.cs_eq, Int.reduceBEq, Cf.c_take, hq]
    refine finSelf ⟨rfl, R5, ?_⟩
    have e : l ++ brk true ((Cf.mk 4 0 [x, y]).tx g.kinds (g.defs.map (·.1))) = l5 := by rw [e5, e4, e3, e2, e1, Cf.tx_4, brkT]; try (simp only [List.append_assoc, List.cons_append, List.nil_append])
    rw [e]
    exact h5
  | false =>
    simp only [go_sem, Int.reduceEq, Int.reduceLE, Int.reduceLT, Int.reduceToNat, Cf.c_mk, Cf.cs_eq, Int.reduceBEq, hq]
    refine ⟨_, ihx (Ks [4, 5]) [4, 5] l R _ (.inl rfl) (by simp) hB (by omega), ?_⟩
    rintro _ om1 ⟨rfl, R1, h1⟩
    obtain ⟨a1, b1, rfl⟩ := h1.form
    obtain ⟨l1, e1⟩ : ∃ B, B = l ++ (brk (isIn [4, 5] x.kind) (x.tx g.kinds (g.defs.map (·.1)))) := ⟨_, rfl⟩
    have L1 : l1.length ≤ l.length + 110 * x.sz := by rw [e1, List.length_append]; have := brk_lenC (isIn [4, 5] x.kind) (x.tx g.kinds (g.defs.map (·.1))); omega
    rw [← e1] at h1
    simp only [go_sem, Int.reduceEq, Int.reduceLE, Int.reduceLT, Int.reduceToNat, Cf.c_mk, Cf.cs_eq, Int.reduceBEq, Cf.c_take, hq]
    refine ⟨_, wrByteG g.c pageN l1 32 R1 _ h1 (by omega), ?_⟩
    rintro _ om2 hw
    obtain ⟨rfl, R2, h2⟩ := hw.bS
    obtain ⟨a2, b2, rfl⟩ := h2.form
    obtain ⟨l2, e2⟩ : ∃ B, B = l1 ++ [32] := ⟨_, rfl⟩
    have L2 : l2.length = l1.length + 1 := by rw [e2, List.length_append]; try rfl
    rw [← e2] at h2
    simp only [go_sem, Int.reduceEq, Int.reduceLE, Int.reduceLT, Int.reduceToNat, Cf.c_mk, Cf.cs_eq, Int.reduceBEq, Cf.c_take, hq]
    refine ⟨_, ihy (Ks [5]) [5] l2 R2 _ (.inl rfl) (by simp) h2 (by omega), ?_⟩
    rintro _ om3 ⟨rfl, R3, h3⟩
    obtain ⟨a3, b3, rfl⟩ := h3.form
    obtain ⟨l3, e3⟩ : ∃ B, B = l2 ++ (brk (isIn [5] y.kind) (y.tx g.kinds (g.defs.map (·.1)))) := ⟨_, rfl⟩
    have L3 : l3.length ≤ l2.length + 110 * y.sz := by rw [e3, List.length_append]; have := brk_lenC (isIn [5] y.kind) (y.tx g.kinds (g.defs.map (·.1))); omega
    rw [← e3] at h3
    simp only [go_sem, Int.reduceEq, Int.reduceLE, Int.reduceLT, Int.reduceToNat, Cf.c_mk, Cf.cs_eq, Int.reduceBEq, Cf.c_take, hq]
    refine finSelf ⟨rfl, R3, ?_⟩
    have e : l ++ brk false ((Cf.mk 4 0 [x, y]).tx g.kinds (g.defs.map (·.1))) = l3 := by rw [e3, e2, e1, Cf.tx_4, brkF]; try (simp only [List.append_assoc, List.cons_append, List.nil_append])
    rw [e]
    exact h3
set_option maxHeartbeats 2000000 in
theorem putC5 (g : Gr) (x y : Cf) (hx : (x.tx g.kinds (g.defs.map (·.1))).length + 4 ≤ 110 * x.sz) (hy : (y.tx g.kinds (g.defs.map (·.1))).length + 4 ≤ 110 * y.sz) (ihx : putC g x) (ihy : putC g y) : putC g (.mk 5 0 [x, y]) := by
  intro K ks l R om hK hk hB hl
  rw [Cf.sz_mk, Cf.szs_cons, Cf.szs_cons, Cf.szs_nil] at hl
  have hc0 := hasK ks 5 (by omega)
  have hq := pelG g
  obtain ⟨a0, b0, rfl⟩ := hB.form
  refine AC.lbody hT hm Tryz.func39 f39_nm f39_lc f39_res f39_nt ?_
  simp only [go_sem, Int.reduceEq, Int.reduceLE, Int.reduceLT, Int.reduceToNat, Cf.c_mk]
  refine hc0.pv ⟨hK.cv, .v, trivial⟩ ?_
  have hin : isIn ks (Cf.mk 5 0 [x, y]).kind = ks.contains 5 := rfl
  rw [hin]
  clear hin
  cases hc : ks.contains 5 with
  | true =>
    simp only [go_sem, Int.reduceEq, Int.reduceLE, Int.reduceLT, Int.reduceToNat, Cf.c_mk, Cf.cs_eq, Int.reduceBEq, hq]
    refine ⟨_, wrByteG g.c pageN l 40 R _ hB (by omega), ?_⟩
    rintro _ om1 hw
    obtain ⟨rfl, R1, h1⟩ := hw.bS
    obtain ⟨a1, b1, rfl⟩ := h1.form
    obtain ⟨l1, e1⟩ : ∃ B, B = l ++ [40] := ⟨_, rfl⟩
    have L1 : l1.length = l.length + 1 := by rw [e1, List.length_append]; try rfl
    rw [← e1] at h1
    simp only [go_sem, Int.reduceEq, Int.reduceLE, Int.reduceLT, Int.reduceToNat, Cf.c_mk, Cf.cs_eq, Int.reduceBEq, Cf.c_take, hq]
    refine ⟨_, ihx (Ks [5]) [5] l1 R1 _ (.inl rfl) (by simp) h1 (by omega), ?_⟩
    rintro _ om2 ⟨rfl, R2, h2⟩
    obtain ⟨a2, b2, rfl⟩ := h2.form
    obtain ⟨l2, e2⟩ : ∃ B, B = l1 ++ (brk (isIn [5] x.kind) (x.tx g.kinds (g.defs.map (·.1)))) := ⟨_, rfl⟩
    have L2 : l2.length ≤ l1.length + 110 * x.sz := by rw [e2, List.length_append]; have := brk_lenC (isIn [5] x.kind) (x.tx g.kinds (g.defs.map (·.1))); omega
    rw [← e2] at h2
    simp only [go_sem, Int.reduceEq, Int.reduceLE, Int.reduceLT, Int.reduceToNat, Cf.c_mk, Cf.cs_eq, Int.reduceBEq, Cf.c_take, hq]
    refine ⟨_, wrStrG g.c pageN l2 [32, 124, 32] R2 _ h2 (by omega) (by simp), ?_⟩
    rintro _ om3 hw
    obtain ⟨rfl, R3, h3⟩ := hw.bS
    obtain ⟨a3, b3, rfl⟩ := h3.form
    obtain ⟨l3, e3⟩ : ∃ B, B = l2 ++ [32, 124, 32] := ⟨_, rfl⟩
    have L3 : l3.length = l2.length + 3 := by rw [e3, List.length_append]; try rfl
    rw [← e3] at h3
    simp only [go_sem, Int.reduceEq, Int.reduceLE, Int.reduceLT, Int.reduceToNat, Cf.c_mk, Cf.cs_eq, Int.reduceBEq, Cf.c_take, hq]
    refine ⟨_, ihy (.v (.slice none 0 0)) [] l3 R3 _ (.inr ⟨rfl, rfl⟩) (by simp) h3 (by omega), ?_⟩
    rintro _ om4 ⟨rfl, R4, h4⟩
    obtain ⟨a4, b4, rfl⟩ := h4.form
    obtain ⟨l4, e4⟩ : ∃ B, B = l3 ++ (brk (isIn [] y.kind) (y.tx g.kinds (g.defs.map (·.1)))) := ⟨_, rfl⟩
    have L4 : l4.length ≤ l3.length + 110 * y.sz := by rw [e4, List.length_append]; have := brk_lenC (isIn [] y.kind) (y.tx g.kinds (g.defs.map (·.1))); omega
    rw [← e4] at h4
    simp only [go_sem, Int.reduceEq, Int.reduceLE, Int.reduceLT, Int.reduceToNat, Cf.c_mk, Cf.cs_eq, Int.reduceBEq, Cf.c_take, hq]
    refine ⟨_, wrByteG g.c pageN l4 41 R4 _ h4 (by omega), ?_⟩
    rintro _ om5 hw
    obtain ⟨rfl, R5, h5⟩ := hw.bS
    obtain ⟨a5, b5, rfl⟩ := h5.form
    obtain ⟨l5, e5⟩ : ∃ B, B = l4 ++ [41] := ⟨_, rfl⟩
    have L5 : l5.length = l4.length + 1 := by rw [e5, List.length_append]; try rfl
    rw [← e5] at h5
    simp only [go_sem, Int.reduceEq, Int.reduceLE, Int.reduceLT, Int.reduceToNat, Cf.c_mk, Cf.cs_eq, Int.reduceBEq, Cf.c_take, hq]
    refine finSelf ⟨rfl, R5, ?_⟩
    have e : l ++ brk true ((Cf.mk 5 0 [x, y]).tx g.kinds (g.defs.map (·.1))) = l5 := by rw [e5, e4, e3, e2, e1, show isIn [] y.kind = false from rfl, brkF, Cf.tx_5, brkT]; try (simp only [List.append_assoc, List.cons_append, List.nil_append])
    rw [e]
    exact h5
  | false =>
    simp only [go_sem, Int.reduceEq, Int.reduceLE, Int.reduceLT, Int.reduceToNat, Cf.c_mk, Cf.cs_eq, Int.reduceBEq, hq]
    refine ⟨_, ihx (Ks [5]) [5] l R _ (.inl rfl) (by simp) hB (by omega), ?_⟩
    rintro _ om1 ⟨rfl, R1, h1⟩
    obtain ⟨a1, b1, rfl⟩ := h1.form
    obtain ⟨l1, e1⟩ : ∃ B, B = l ++ (brk (isIn [5] x.kind) (x.tx g.kinds (g.defs.map (·.1)))) := ⟨_, rfl⟩
    have L1 : l1.length ≤ l.length + 110 * x.sz := by rw [e1, List.length_append]; have := brk_lenC (isIn [5] x.kind) (x.tx g.kinds (g.defs.map (·.1))); omega
    rw [← e1] at h1
    simp only [go_sem, Int.reduceEq, Int.reduceLE, Int.reduceLT, Int.reduceToNat, Cf.c_mk, Cf.cs_eq, Int.reduceBEq, Cf.c_take, hq]
    refine ⟨_, wrStrG g.c pageN l1 [32, 124, 32] R1 _ h1 (by omega) (by simp), ?_⟩
    rintro _ om2 hw
    obtain ⟨rfl, R2, h2⟩ := hw.bS
    obtain ⟨a2, b2, rfl⟩ := h2.form
    obtain ⟨l2, e2⟩ : ∃ B, B = l1 ++ [32, 124, 32] := ⟨_, rfl⟩
    have L2 : l2.length = l1.length + 3 := by rw [e2, List.length_append]; try rfl
    rw [← e2] at h2
    simp only [go_sem, Int.reduceEq, Int.reduceLE, Int.reduceLT, Int.reduceToNat, Cf.c_mk, Cf.cs_eq, Int.reduceBEq, Cf.c_take, hq]
    refine ⟨_, ihy (.v (.slice none 0 0)) [] l2 R2 _ (.inr ⟨rfl, rfl⟩) (by simp) h2 (by omega), ?_⟩
    rintro _ om3 ⟨rfl, R3, h3⟩
    obtain ⟨a3, b3, rfl⟩ := h3.form
    obtain ⟨l3, e3⟩ : ∃ B, B = l2 ++ (brk (isIn [] y.kind) (y.tx g.kinds (g.defs.map (·.1)))) := ⟨_, rfl⟩
    have L3 : l3.length ≤ l2.length + 110 * y.sz := by rw [e3, List.length_append]; have := brk_lenC (isIn [] y.kind) (y.tx g.kinds (g.defs.map (·.1))); omega
    rw [← e3] at h3
    simp only [go_sem, Int.reduceEq, Int.reduceLE, Int.reduceLT, Int.reduceToNat, Cf.c_mk, Cf.cs_eq, Int.reduceBEq, Cf.c_take, hq]
    refine finSelf ⟨rfl, R3, ?_⟩
    have e : l ++ brk false ((Cf.mk 5 0 [x, y]).tx g.kinds (g.defs.map (·.1))) = l3 := by rw [e3, e2, e1, show isIn [] y.kind = false from rfl, brkF, Cf.tx_5, brkF]; try (simp only [List.append_assoc, List.cons_append, List.nil_append])
    rw [e]
    exact h3
theorem putAll (g : Gr) (hK : ∀ x ∈ g.kinds, x.size ≤ 100) (hN : ∀ x ∈ g.defs, x.1.size ≤ 100) (r : Cf) (hr : r.may g.kinds.length g.defs.length = true) : putC g r := by
  have hN' : ∀ x ∈ g.defs.map (·.1), x.size ≤ 100 := by
    intro x hx
    obtain ⟨y, hy, rfl⟩ := List.mem_map.1 hx
    exact hN y hy
  have ht := tx_len hK hN'
  rw [List.length_map] at ht
  refine may_cases (putC1 g) (putC2 g) (fun n hn => ?_) (fun n hn => ?_) (fun x y hx hy => putC4 g x y (ht x hx) (ht y hy)) (fun x y hx hy => putC5 g x y (ht x hx) (ht y hy)) r hr
  · have h := List.getElem?_eq_getElem hn
    exact putC3 g n _ h (hK _ (List.getElem_mem hn))
  · have hn' : n < (g.defs.map (·.1)).length := by simpa using hn
    have h := List.getElem?_eq_getElem hn'
    exact putC6 g n _ h (hN' _ (List.getElem_mem hn'))
end Go.Proofs.YtdliolbjngcgcaaGreat.W
set_option maxRecDepth 100000
/- A grammar's text. -/
namespace Go.Proofs.YtdliolbjngcgcaaGreat.W
open Go Go.Proofs Go.Proofs.YtdliolbjngcgcaaGreat.AWP
attribute [local irreducible] xl hide aop aops aopQ qops guardP condP
abbrev txC (l : List UInt8) : D := .s ⟨l.toArray⟩
theorem mayG_facts {g : Gr} (h : mayG g = true) : (∀ x ∈ g.kinds, x.size ≤ 30) ∧ (∀ x ∈ g.defs, x.1.size ≤ 30 ∧ x.2.may g.kinds.length g.defs.length = true) ∧ 1 ≤ g.kinds.length ∧ g.kinds.length ≤ 100 ∧ 1 ≤ g.defs.length ∧ g.defs.length ≤ 50 ∧ onceB (grNms g) = true ∧ grSz g.defs ≤ 2000 := by
  unfold mayG at h
  simp only [Bool.and_eq_true, decide_eq_true_eq] at h
  obtain ⟨⟨h1, h2, h3, h4, h5⟩, h6, h7⟩ := h
  have hn : ∀ x ∈ grNms g, x.size ≤ 30 := by
    intro x hx
    unfold onceB at h5
    rw [Bool.and_eq_true, List.all_eq_true] at h5
    have := h5.1 x hx
    unfold nameB at this
    simp only [Bool.and_eq_true, decide_eq_true_eq] at this
    exact this.2.2
  refine ⟨fun x hx => hn x (List.mem_append.2 (.inl hx)), fun x hx => ⟨hn _ (List.mem_append.2 (.inr (List.mem_map.2 ⟨x, hx, rfl⟩))), ?_⟩, h1, h2, h3, h4, h5, h7⟩
  unfold defsOk at h6
  exact List.all_eq_true.1 h6 x hx
abbrev gNm (g : Gr) : List ByteArray := g.defs.map (·.1)
/-- A definition's line. -/
def dfL (g : Gr) (x : Df) : List UInt8 := x.1.data.toList ++ 32 :: 61 :: 32 :: (x.2.tx g.kinds (gNm g) ++ [10])
def dfT (g : Gr) : List Df → List UInt8
  | [] => []
  | x :: l => dfL g x ++ dfT g l
theorem dfT_app (g : Gr) : ∀ (a b : List Df), dfT g (a ++ b) = dfT g a ++ dfT g b
  | [], b => rfl
  | x :: a, b => by rw [List.cons_append, dfT, dfT, dfT_app g a b, List.append_assoc]
theorem dfT_at (g : Gr) {l : List Df} {i : Nat} {x : Df} (h : l[i]? = some x) : dfT g (l.take (i + 1)) = dfT g (l.take i) ++ dfL g x := by
  rw [List.take_add_one, h, dfT_app]; simp [dfT]
theorem dfT_len (g : Gr) : ∀ (l : List Df), (∀ x ∈ l, x.1.size ≤ 30 ∧ (x.2.tx g.kinds (gNm g)).length + 4 ≤ 110 * x.2.sz) → (dfT g l).length ≤ l.length * 40 + 110 * grSz l
  | [], _ => by simp [dfT]
  | x :: l, h => by
    have h1 := h x (by simp)
    have h2 := dfT_len g l fun y hy => h y (by simp [hy])
    have h4 : x.1.data.toList.length = x.1.size := Array.length_toList
    have h5 : grSz (x :: l) = x.2.sz + grSz l := by unfold grSz; rw [List.map_cons, Cf.szs_cons]
    rw [dfT, List.length_append, h5, List.length_cons, Nat.add_mul]
    unfold dfL
    simp only [List.length_append, List.length_cons, List.length_nil]
    omega
/-- A grammar's text, or an error. -/
def prC (g : Gr) : List UInt8 × Int :=
  if mayG g = false then ([], 1) else if 65536 < (dfT g g.defs).length then ([], 3) else (dfT g g.defs, 0)
abbrev prCD (x : List UInt8 × Int) : D := .tup [txC x.1, .i x.2]
set_option maxHeartbeats 8000000 in
theorem cPrint (g : Gr) (hg : GFit g) : AP Tryz.prog 13 [.agg g.c] (prCD (prC g)) := by
  have hq := pelG g
  have hM := cMayG g hg
  have hqd : ∀ om (F : Nat → Bool) (kk : List (Option Nat)), Cv om F kk (Defs g.defs) (Defs g.defs) := fun om F kk => .same (Defs_bl _)
  unfold prC
  refine AC.lbody hT hm Tryz.func13 f13_nm f13_lc f13_res f13_nt ?_
  simp only [go_sem, Int.reduceEq, Int.reduceLE, Int.reduceLT, Int.reduceToNat, gr_take, gr_c_len]
  refine hM.pv ⟨.same (Gr.d_bl g), trivial⟩ ?_
  cases hmay : mayG g with
  | false =>
    rw [if_pos rfl]
    simp only [go_sem, Int.reduceEq, Int.reduceLE, Int.reduceLT, Int.reduceToNat, Bool.not_false]
    exact Fin.ret (.tupL (by simp))
  | true =>
  rw [if_neg (by simp)]
  obtain ⟨hkz, hdz, hk1, hk2, hd1, hd2, hon, hsz⟩ := mayG_facts hmay
  have hpall : ∀ x ∈ g.defs, putC g x.2 := fun x hx => putAll g (fun y hy => by have := hkz y hy; omega) (fun y hy => by have := (hdz y hy).1; omega) x.2 (hdz x hx).2
  have htx : ∀ x ∈ g.defs, (x.2.tx g.kinds (gNm g)).length + 4 ≤ 110 * x.2.sz := fun x hx => by
    refine tx_len (fun y hy => by have := hkz y hy; omega) (fun y hy => ?_) x.2 (by rw [List.length_map]; exact (hdz x hx).2)
    obtain ⟨z, hz, rfl⟩ := List.mem_map.1 hy
    have := (hdz z hz).1; omega
  have hbd : ∀ i, (dfT g (g.defs.take i)).length ≤ 1000000 := fun i => by
    have h1 := dfT_len g (g.defs.take i) fun x hx => ⟨(hdz x (List.mem_of_mem_take hx)).1, htx x (List.mem_of_mem_take hx)⟩
    have h2 := grSz_le g.defs i
    have h3 : (g.defs.take i).length ≤ 50 := by rw [List.length_take]; omega
    have h4 : (g.defs.take i).length * 40 ≤ 50 * 40 := Nat.mul_le_mul_right _ h3
    omega
  simp only [go_sem, Int.reduceEq, Int.reduceLE, Int.reduceLT, Int.reduceToNat, Bool.not_true, List.length_map, gr_take, gr_c_len]
  refine xl_loopM hT hm (fun i : Nat × List Ob × List Ob => ⟨f13_i11 (.ref 0 0) (Defs g.defs) (.i g.defs.length) (.i i.1), i.2.2⟩)
    (fun i => i.1 ≤ g.defs.length ∧ bS PGC g.c (dfT g (g.defs.take i.1)) i.2.1 i.2.2) (fun i => g.defs.length - i.1) (0, [], _) ⟨Nat.zero_le _, .inl ⟨rfl, rfl⟩⟩ (Mv.keep (by simp [f13_i11])) ?_
  rintro ⟨i, R, om⟩ ⟨hi, hB⟩
  simp only at hi hB
  obtain ⟨a0, b0, rfl⟩ := hB.form
  simp only [go_sem, Int.reduceEq, Int.reduceLE, Int.reduceLT, Int.reduceToNat, List.length_map]
  by_cases h : i < g.defs.length
  case neg =>
    have ht : g.defs.take i = g.defs := List.take_of_length_le (by omega)
    rw [ht] at hB
    simp only [go_sem, Int.reduceEq, Int.reduceLE, Int.reduceLT, Int.reduceToNat, h]
    refine ⟨_, lenG g.c _ R _ hB, ?_⟩
    rintro _ _ ⟨rfl, rfl⟩
    by_cases hlen : 65536 < (dfT g g.defs).length
    · rw [if_pos hlen]
      have hlen' : (65536 : Int) < ((dfT g g.defs).length : Nat) := by omega
      simp only [go_sem, Int.reduceEq, Int.reduceLE, Int.reduceLT, Int.reduceToNat, hlen']
      exact Fin.ret (.tupL (by simp))
    · rw [if_neg hlen]
      have hlen' : ¬ (65536 : Int) < ((dfT g g.defs).length : Nat) := by omega
      simp only [go_sem, Int.reduceEq, Int.reduceLE, Int.reduceLT, Int.reduceToNat, hlen']
      refine ⟨_, strOfG g.c _ R _ hB ?_, ?_⟩
      · obtain ⟨x, l', hx⟩ : ∃ x l', g.defs = x :: l' := by
          cases hd : g.defs with
          | nil => rw [hd] at hd1; simp at hd1
          | cons x l' => exact ⟨x, l', rfl⟩
        rw [hx, dfT]
        intro h
        have := (List.append_eq_nil_iff.1 h).1
        unfold dfL at this
        simp at this
      rintro _ om' rfl
      simp only [go_sem, Int.reduceEq, Int.reduceLE, Int.reduceLT, Int.reduceToNat]
      exact Fin.ret (.tupL ⟨.v, .v, trivial⟩)
  obtain ⟨x, hx⟩ := get_ex h
  have hmx := List.mem_of_getElem? hx
  have hwi := wrap_succ i (by omega)
  have hbi := hbd i
  have hxz := (hdz x hmx).1
  have hsz1 : x.2.sz ≤ 2000 := by have := grSz_mem hmx; omega
  have hs1 : x.1.size ≤ 9223372036854775804 := by omega
  have hs2 : x.1.size + 3 ≤ 9223372036854775807 := by omega
  have hP := hpall x hmx
  have hdl : x.1.data.toList.length = x.1.size := Array.length_toList
  have e1 : x.1 ++ ⟨#[32, 61, 32]⟩ = (⟨(x.1.data.toList ++ [32, 61, 32]).toArray⟩ : ByteArray) := by
    refine ByteArray.ext ?_
    simp [ByteArray.data_append]
  simp only [go_sem, Int.reduceEq, Int.reduceLE, Int.reduceLT, Int.reduceToNat, List.length_map, h, hx, df_0, df_len, df_take, df_put, df_drop, get_con, set_con, hs1, hs2, e1]
  have hB' : bS PGC g.c (dfT g (g.defs.take i)) (R ++ [.var 66 (dfC x)]) (.var PGC (a0 :: b0 :: g.c) :: (R ++ [.var 66 (dfC x)])) := by
    rcases hB with ⟨h1, h2⟩ | ⟨j, h1, h2⟩
    · injection h2 with h2 _; injection h2 with _ h2; injection h2 with h3 h4; injection h4 with h4 _; subst h3; subst h4
      exact .inl ⟨h1, rfl⟩
    · injection h2 with h2 _; injection h2 with _ h2; injection h2 with h3 h4; injection h4 with h4 _; subst h3; subst h4
      exact .inr ⟨j, by rw [List.getElem?_append_left (List.getElem?_eq_some_iff.1 h1).1]; exact h1, rfl⟩
  refine ⟨_, wrStrG g.c pageN (dfT g (g.defs.take i)) (x.1.data.toList ++ [32, 61, 32]) _ _ hB' (by omega) (by simp only [List.length_append, List.length_cons, List.length_nil]; omega), ?_⟩
  intro o om' hw
  obtain ⟨rfl, R1, r1, r2, rfl⟩ := hw
  have hR1 : R1[R.length]? = some (.var 66 (dfC x)) := (r2 R.length _ (by simp)).resolve_left (by rintro ⟨l, hl⟩; cases hl)
  have hR1l : R.length < R1.length := (List.getElem?_eq_some_iff.1 hR1).1
  have hget : (R1 ++ [byOb (dfT g (g.defs.take i) ++ (x.1.data.toList ++ [32, 61, 32]))])[R.length]? = some (.var 66 (dfC x)) := by rw [List.getElem?_append_left hR1l]; exact hR1
  have hB2 : bS PGC g.c (dfT g (g.defs.take i) ++ (x.1.data.toList ++ [32, 61, 32])) (R1 ++ [byOb (dfT g (g.defs.take i) ++ (x.1.data.toList ++ [32, 61, 32]))]) (.var PGC (.ref 0 0 :: .own (R1.length + 1) :: g.c) :: (R1 ++ [byOb (dfT g (g.defs.take i) ++ (x.1.data.toList ++ [32, 61, 32]))])) := .inr ⟨R1.length, by simp, rfl⟩
  obtain ⟨B, hBq⟩ : ∃ B, B = dfT g (g.defs.take i) ++ (x.1.data.toList ++ [32, 61, 32]) := ⟨_, rfl⟩
  have hBl : B.length = (dfT g (g.defs.take i)).length + x.1.size + 3 := by rw [hBq]; simp only [List.length_append, List.length_cons, List.length_nil]; omega
  rw [← hBq] at hget hB2 ⊢
  clear r2 hR1
  generalize R1 ++ [byOb B] = R2 at hget hB2 ⊢
  simp only [go_sem, Int.reduceEq, Int.reduceLE, Int.reduceLT, Int.reduceToNat, hget, df_drop, df_len, Cf.c_take]
  refine ⟨_, hP (.v (.slice none 0 0)) [] B R2 _ (.inr ⟨rfl, rfl⟩) (by simp) hB2 (by omega), ?_⟩
  rintro _ om3 ⟨rfl, R3, h3⟩
  rw [show brk (isIn [] x.2.kind) (x.2.tx g.kinds (g.defs.map (·.1))) = x.2.tx g.kinds (gNm g) from rfl] at h3
  have htl := htx x hmx
  have hBl2 : (B ++ x.2.tx g.kinds (gNm g)).length ≤ 10000000 := by rw [List.length_append]; omega
  obtain ⟨a3, b3, rfl⟩ := h3.form
  simp only [go_sem, Int.reduceEq, Int.reduceLE, Int.reduceLT, Int.reduceToNat]
  refine ⟨_, wrByteG g.c pageN (B ++ x.2.tx g.kinds (gNm g)) 10 R3 _ h3 (by omega), ?_⟩
  rintro _ om4 hw
  obtain ⟨rfl, R4, h4⟩ := hw.bS
  obtain ⟨a4, b4, rfl⟩ := h4.form
  simp only [go_sem, Int.reduceEq, Int.reduceLE, Int.reduceLT, Int.reduceToNat, hwi]
  refine ⟨(i + 1, R4, _), ⟨h, ?_⟩, by dsimp only; omega, Mv.keep (by simp [f13_i11, hqd])⟩
  have e : dfT g (g.defs.take (i + 1)) = B ++ x.2.tx g.kinds (gNm g) ++ [10] := by rw [dfT_at g hx, hBq]; simp [dfL]
  dsimp only
  rw [e]
  exact h4
end Go.Proofs.YtdliolbjngcgcaaGreat.W
set_option maxRecDepth 100000
/- The document's example; the grammar of any text. -/
namespace Go.Proofs.YtdliolbjngcgcaaGreat.W
open Go Go.Proofs Go.Proofs.YtdliolbjngcgcaaGreat.AWP
attribute [local irreducible] xl hide aop aops aopQ qops guardP condP
def s21 : ByteArray := ⟨#[115, 32, 61, 32, 97, 32, 115, 32, 98, 32, 124, 32, 40, 41, 10]⟩
def k21 : List ByteArray := [⟨#[97]⟩, ⟨#[98]⟩]
theorem GFit_may {g : Gr} (h : mayG g = true) : GFit g := by
  obtain ⟨h1, h2, h3, h4, h5, h6, h7, h8⟩ := mayG_facts h
  refine ⟨by omega, by omega, by omega, fun x hx => ?_⟩
  rcases List.mem_append.1 hx with hx | hx
  · have := h1 x hx; omega
  · obtain ⟨y, hy, rfl⟩ := List.mem_map.1 hx
    have := (h2 y hy).1; omega
set_option maxHeartbeats 4000000 in
theorem awake21 : AP Tryz.prog 7 [] (.b true) := by
  have e1 : (readC s21 k21).2 = (0, 0) := by decide +kernel
  have e2 : prC (readC s21 k21).1 = (s21.data.toList, 0) := by decide +kernel
  have e3 : mayG (readC s21 k21).1 = true := by decide +kernel
  have hR := cReadA s21 k21 (by decide) (by decide)
  have hF := GFit_may e3
  have hP := cPrint _ hF
  rw [e2] at hP
  have hM := cMayS [(readC s21 k21).1] (by decide) (by simpa using hF)
  have e4 : [(readC s21 k21).1].all mayG = true := by simp [e3]
  rw [e4] at hM
  have hs : (⟨s21.data.toList.toArray⟩ : ByteArray) = s21 := by simp
  generalize readC s21 k21 = p at *
  obtain ⟨g, a, b⟩ := p
  cases e1
  have c1 : (((0 : Nat) : Int) == 0) = true := rfl
  have c2 : (s21.data.toList == [115, 32, 61, 32, 97, 32, 115, 32, 98, 32, 124, 32, 40, 41, 10]) = true := by decide
  have hk : Strs k21 = .sl 1 [[.s ⟨#[97]⟩], [.s ⟨#[98]⟩]] := rfl
  refine AC.lbody hT hm Tryz.func7 f7_nm f7_lc f7_res f7_nt ?_
  simp only [go_sem, Int.reduceEq, Int.reduceLE, Int.reduceLT, Int.reduceToNat]
  refine hR.pd ⟨.v, .same (Strs_bl k21), trivial⟩ (readCD_bl _) ?_
  simp only [go_sem, Int.reduceEq, Int.reduceLE, Int.reduceLT, Int.reduceToNat, gr_take, gr_c_len]
  dsimp only at hP hM
  refine hP.pd ⟨.same (Gr.d_bl g), trivial⟩ (.tup (by simp)) ?_
  have c3 : ((⟨s21.data.toList.toArray⟩ : ByteArray).data.toList == [115, 32, 61, 32, 97, 32, 115, 32, 98, 32, 124, 32, 40, 41, 10]) = true := by rw [hs]; exact c2
  simp only [go_sem, Int.reduceEq, Int.reduceLE, Int.reduceLT, Int.reduceToNat, c1, c2, c3, gr_take, gr_c_len]
  refine hM.pv ⟨.same (Grs_bl [g]), trivial⟩ ?_
  simp only [go_sem, Int.reduceEq, Int.reduceLE, Int.reduceLT, Int.reduceToNat]
  exact Fin.v rfl
end Go.Proofs.YtdliolbjngcgcaaGreat.W
set_option maxRecDepth 100000
/- The law: the grammar of any text. -/
namespace Go.Proofs.YtdliolbjngcgcaaGreat.W
open Go Go.Proofs Go.Proofs.YtdliolbjngcgcaaGreat.AWP
attribute [local irreducible] xl hide aop aops aopQ qops guardP condP
set_option maxHeartbeats 4000000 in
theorem cfxReadsL (s : ByteArray) (kinds : List ByteArray) : AP Tryz.prog 3 [.s s, Strs kinds] (.b true) := by
  have hqk : ∀ om (F : Nat → Bool) (kk : List (Option Nat)), Cv om F kk (Strs kinds) (Strs kinds) := fun om F kk => .same (Strs_bl kinds)
  refine AC.lbody hT hm Tryz.func3 f3_nm f3_lc f3_res f3_nt ?_
  simp only [go_sem, Int.reduceEq, Int.reduceLE, Int.reduceLT, Int.reduceToNat, List.length_map]
  by_cases h0 : 1000 < s.size
  · have h0' : (1000 : Int) < s.size := by omega
    simp only [go_sem, Int.reduceEq, Int.reduceLE, Int.reduceLT, Int.reduceToNat, h0']
    refine awake21.pv (by simp) ?_
    simp only [go_sem, Int.reduceEq, Int.reduceLE, Int.reduceLT, Int.reduceToNat]
    exact Fin.v rfl
  have h0' : ¬ (1000 : Int) < s.size := by omega
  by_cases h1 : 12 < kinds.length
  · have h1' : (12 : Int) < kinds.length := by omega
    simp only [go_sem, Int.reduceEq, Int.reduceLE, Int.reduceLT, Int.reduceToNat, h0', h1', List.length_map]
    refine awake21.pv (by simp) ?_
    simp only [go_sem, Int.reduceEq, Int.reduceLE, Int.reduceLT, Int.reduceToNat]
    exact Fin.v rfl
  have h1' : ¬ (12 : Int) < kinds.length := by omega
  simp only [go_sem, Int.reduceEq, Int.reduceLE, Int.reduceLT, Int.reduceToNat, h0', h1', List.length_map]
  refine xl_loopM hT hm (fun i : Nat => ⟨f3_i8 (.s s) (Strs kinds) (.i i), []⟩)
    (fun i => i ≤ kinds.length ∧ ∀ (j : Nat) (x : ByteArray), j < i → kinds[j]? = some x → x.size ≤ 100) (fun i => kinds.length - i) 0 ⟨Nat.zero_le _, fun _ _ h => by omega⟩ (Mv.none (by simp only [f3_i8, CvL]; simp [hqk])) ?_
  rintro i ⟨hi, hz⟩
  simp only [go_sem, Int.reduceEq, Int.reduceLE, Int.reduceLT, Int.reduceToNat, List.length_map]
  by_cases h : i < kinds.length
  · obtain ⟨x, hx⟩ := get_ex h
    have hwi := wrap_succ i (by omega)
    by_cases h2 : 100 < x.size
    · have h2' : (100 : Int) < x.size := by omega
      simp only [go_sem, Int.reduceEq, Int.reduceLE, Int.reduceLT, Int.reduceToNat, h, hx, str_get hx, h2', List.length_map]
      refine awake21.pv (by simp) ?_
      simp only [go_sem, Int.reduceEq, Int.reduceLE, Int.reduceLT, Int.reduceToNat]
      exact Fin.v rfl
    have h2' : ¬ (100 : Int) < x.size := by omega
    simp only [go_sem, Int.reduceEq, Int.reduceLE, Int.reduceLT, Int.reduceToNat, h, hx, str_get hx, h2', List.length_map, hwi]
    refine ⟨i + 1, ⟨h, fun j y hj hy => ?_⟩, by omega, Mv.none (by simp only [CvL]; simp [hqk])⟩
    rcases Nat.lt_succ_iff_lt_or_eq.1 hj with hj | rfl
    · exact hz j y hj hy
    · rw [hx] at hy; cases hy; omega
  have hks : ∀ x ∈ kinds, x.size ≤ 1000000 := by
    intro x hx
    obtain ⟨j, hj⟩ := List.getElem?_of_mem hx
    have hjl := (List.getElem?_eq_some_iff.1 hj).1
    have := hz j x (by omega) hj
    omega
  have hR := cReadA s kinds (by omega) hks
  have hR2 := rReadG s kinds (by omega) (linesOk s kinds)
  obtain ⟨g1, g2⟩ := readC_len s kinds (by omega)
  simp only [go_sem, Int.reduceEq, Int.reduceLE, Int.reduceLT, Int.reduceToNat, h, List.length_map]
  refine hR.pd ⟨.v, hqk _ _ _, trivial⟩ (readCD_bl _) ?_
  generalize readC s kinds = p at hR hR2 g1 g2
  obtain ⟨g, a, b⟩ := p
  have c1 : ((b : Int) == (b : Int)) = true := by simp
  have c2 : (a == a) = true := by simp
  simp only [go_sem, Int.reduceEq, Int.reduceLE, Int.reduceLT, Int.reduceToNat, gr_take, gr_c_len]
  refine hR2.pd ⟨.v, hqk _ _ _, trivial⟩ (readCD_bl _) ?_
  simp only [go_sem, Int.reduceEq, Int.reduceLE, Int.reduceLT, Int.reduceToNat, gr_take, gr_c_len, c1, c2]
  refine (rSameAll g g1 g2).pv ⟨.same (Gr.d_bl g), .same (Gr.d_bl g), trivial⟩ ?_
  simp only [go_sem, Int.reduceEq, Int.reduceLE, Int.reduceLT, Int.reduceToNat]
  refine awake21.pv (by simp) ?_
  simp only [go_sem, Int.reduceEq, Int.reduceLE, Int.reduceLT, Int.reduceToNat]
  exact Fin.v rfl
end Go.Proofs.YtdliolbjngcgcaaGreat.W
