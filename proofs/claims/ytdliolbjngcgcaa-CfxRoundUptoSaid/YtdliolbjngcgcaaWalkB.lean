/- The law: a text in round brackets. -/
import Derived.Test.YtdliolbjngcgcaaWalkA
import Derived.Test.YtdliolbjngcgcaaMathB
import Derived.Test.YtdliolbjngcgcaaLogicD
import Derived.Test.YtdliolbjngcgcaaMathA
import Derived.Test.YtdliolbjngcgcaaBridgeA
import Derived.ChangeMaps5
import Derived.JoinedCond
import Derived.HandedShaped
import Derived.Shelf.Vars
import Derived.Test.YtdliolbjngcgcaaRows
set_option linter.unusedVariables false
set_option linter.unusedSimpArgs false
set_option linter.unusedSectionVars false
set_option maxRecDepth 100000
/- The grammar of a text. -/
namespace Go.Proofs.Ytdliolbjngcgcaa.W
open Go Go.Proofs Go.Proofs.Ytdliolbjngcgcaa.AWP
attribute [local irreducible] xl hide aop aops aopQ qops guardP condP
theorem wholeSK (ks ds : List ByteArray) (s : ByteArray) (hs : s.size ≤ 65536) (hk : ks.length ≤ 1000000) (hd : ds.length ≤ 1000000) (fr : List Ob) : AC Try.prog 19 [.ref fr.length 0] (fr ++ [crOb ks ds s 0]) (fun o om => ∃ om', (o = .ret (wcD (wholeP ks ds s)) ∧ ∃ k, om' = [crOb ks ds s k]) ∧ om = fr ++ om') := by
  refine (wholeK (ks := ks) (ds := ds) hs hk hd).shift rfl ?_ ?_ ?_
  · intro j d d' h1 h2
    match j with
    | 0 => cases h1; cases h2; exact .inr ⟨0, 0, rfl, rfl⟩
    | j + 1 => cases h1
  · intro o ho
    rw [List.mem_singleton.1 ho]
    exact crBl ks ds s 0
  · rintro o om' ⟨rfl, k, rfl⟩
    refine ⟨rfl, .tup ?_, fun x hx => ?_⟩
    · intro d hd
      simp only [List.mem_cons, List.not_mem_nil, or_false] at hd
      rcases hd with rfl | rfl | rfl
      · exact Cf.d_bl _
      · exact .v _
      · exact .v _
    · rw [List.mem_singleton.1 hx]
      exact crBl ks ds s k
def bodiesGo (ks ns : List ByteArray) : List Ln → List Df → (Int × Nat) ⊕ List Df
  | [], d => .inr d
  | x :: l, d =>
    if (wholeP ks ns x.2.2).2.2 ≠ 0 then .inl (IntKind.i64.wrap (((x.1 + x.2.1.size + 3 : Nat) : Int) + ((wholeP ks ns x.2.2).2.1 : Int)), (wholeP ks ns x.2.2).2.2)
    else bodiesGo ks ns l (d ++ [(x.2.1, (wholeP ks ns x.2.2).1)])
def zGr : Gr := ⟨[], []⟩
def readB (kinds : List ByteArray) : (Int × Nat) ⊕ List Df → Gr × Int × Nat
  | .inl (p, e) => (zGr, p, e)
  | .inr d => if 2000 < grSz d then (zGr, 0, 4) else (⟨kinds, d⟩, 0, 0)
/-- The grammar of a text; a place; an error's number. -/
def readC (s : ByteArray) (kinds : List ByteArray) : Gr × Int × Nat :=
  if 65536 < s.size then (zGr, 0, 3)
  else if kinds.length < 1 then (zGr, 0, 1)
  else if 100 < kinds.length then (zGr, 0, 1)
  else if onceB kinds = false then (zGr, 0, 1)
  else if (linesR s kinds).2.2 ≠ 0 then (zGr, (linesR s kinds).2.1, (linesR s kinds).2.2)
  else readB kinds (bodiesGo kinds ((linesR s kinds).1.map (·.2.1)) (linesR s kinds).1 [])
abbrev readCD (x : Gr × Int × Nat) : D := .tup [.agg x.1.c, .i x.2.1, .i x.2.2]
theorem readCD_bl (x : Gr × Int × Nat) : Bl 0 (readCD x) := .tup (by
  intro d hd
  simp only [List.mem_cons, List.not_mem_nil, or_false] at hd
  rcases hd with rfl | rfl | rfl
  · exact Gr.d_bl _
  · exact .v _
  · exact .v _)
theorem cvZ {om : List Ob} {F : Nat → Bool} {kk : List (Option Nat)} : Cv om F kk (.agg [.v (.slice Option.none 0 0), .v (.slice Option.none 0 0)]) (.agg zGr.c) := .aggL ⟨.nil, .nil, trivial⟩
/-- What is known of lines that are read. -/
structure LinesOk (kinds : List ByteArray) (n : Nat) (l : List Ln) : Prop where
  len : l.length ≤ 50
  at_ : ∀ x ∈ l, x.1 ≤ n ∧ x.2.1.size ≤ 30 ∧ x.2.2.size ≤ n
set_option maxHeartbeats 8000000 in
theorem cRead (s : ByteArray) (kinds : List ByteArray) (hkn : kinds.length ≤ 1000000) (hks : ∀ x ∈ kinds, x.size ≤ 1000000) (hL : (linesR s kinds).2.2 = 0 → LinesOk kinds s.size (linesR s kinds).1)
    (hM : ∀ d, s.size ≤ 65536 → 1 ≤ kinds.length → kinds.length ≤ 100 → onceB kinds = true → bodiesGo kinds ((linesR s kinds).1.map (·.2.1)) (linesR s kinds).1 [] = .inr d → (linesR s kinds).2.2 = 0 → GFit ⟨kinds, d⟩ ∧ mayG ⟨kinds, d⟩ = decide (grSz d ≤ 2000)) :
    AP Try.prog 14 [.s s, Strs kinds] (readCD (readC s kinds)) := by
  have hqk : ∀ om (F : Nat → Bool) (kk : List (Option Nat)), Cv om F kk (Strs kinds) (Strs kinds) := fun om F kk => .same (Strs_bl kinds)
  unfold readC
  refine AC.lbody hT hm Try.func14 f14_nm f14_lc f14_res f14_nt ?_
  simp only [go_sem, Int.reduceEq, Int.reduceLE, Int.reduceLT, Int.reduceToNat, List.length_map]
  by_cases h0 : 65536 < s.size
  · have h0' : (65536 : Int) < s.size := by omega
    rw [if_pos h0]
    simp only [go_sem, Int.reduceEq, Int.reduceLE, Int.reduceLT, Int.reduceToNat, h0']
    exact Fin.ret (.tupL ⟨cvZ, .v, .v, trivial⟩)
  have h0' : ¬ (65536 : Int) < s.size := by omega
  rw [if_neg h0]
  by_cases h1 : kinds.length < 1
  · have h1' : (kinds.length : Int) < 1 := by omega
    rw [if_pos h1]
    simp only [go_sem, Int.reduceEq, Int.reduceLE, Int.reduceLT, Int.reduceToNat, h0', h1', List.length_map]
    exact Fin.ret (.tupL ⟨cvZ, .v, .v, trivial⟩)
  have h1' : ¬ (kinds.length : Int) < 1 := by omega
  rw [if_neg h1]
  by_cases h2 : 100 < kinds.length
  · have h2' : (100 : Int) < kinds.length := by omega
    rw [if_pos h2]
    simp only [go_sem, Int.reduceEq, Int.reduceLE, Int.reduceLT, Int.reduceToNat, h0', h1', h2', List.length_map]
    exact Fin.ret (.tupL ⟨cvZ, .v, .v, trivial⟩)
  have h2' : ¬ (100 : Int) < kinds.length := by omega
  rw [if_neg h2]
  simp only [go_sem, Int.reduceEq, Int.reduceLE, Int.reduceLT, Int.reduceToNat, h0', h1', h2', List.length_map]
  refine (once kinds hkn hks).pv ⟨hqk _ _ _, trivial⟩ ?_
  cases ho : onceB kinds with
  | false =>
    rw [if_pos rfl]
    simp only [go_sem, Int.reduceEq, Int.reduceLE, Int.reduceLT, Int.reduceToNat, Bool.not_false]
    exact Fin.ret (.tupL ⟨cvZ, .v, .v, trivial⟩)
  | true =>
  rw [if_neg (by simp)]
  have hne : kinds ≠ [] := fun h => by subst h; exact h1 (by decide)
  simp only [go_sem, Int.reduceEq, Int.reduceLE, Int.reduceLT, Int.reduceToNat, Bool.not_true]
  refine (cLines s (by omega) kinds (by omega) hne).pd ⟨.v, hqk _ _ _, trivial⟩ (linesD_bl _) ?_
  have hM' := fun d => hM d (by omega) (by omega) (by omega) ho
  clear hM
  generalize linesR s kinds = x at hL hM'
  obtain ⟨l, p, e⟩ := x
  dsimp only at hL hM' ⊢
  by_cases he : e = 0
  case neg =>
    have he' : ((e : Int) != 0) = true := by simp; omega
    rw [if_pos he]
    simp only [go_sem, Int.reduceEq, Int.reduceLE, Int.reduceLT, Int.reduceToNat, he']
    exact Fin.ret (.tupL ⟨cvZ, .v, .v, trivial⟩)
  subst he
  have he' : (((0 : Nat) : Int) != 0) = false := rfl
  rw [if_neg (by simp)]
  simp only [go_sem, Int.reduceEq, Int.reduceLE, Int.reduceLT, Int.reduceToNat, he']
  refine ⟨_, cloneS kinds hkn _, ?_⟩
  rintro _ _ (⟨h0, rfl, rfl⟩ | ⟨rfl, rfl⟩)
  · exact absurd h0 hne
  simp only [go_sem, Int.reduceEq, Int.reduceLE, Int.reduceLT, Int.reduceToNat]
  obtain ⟨hl50, hlx⟩ := hL rfl
  have hql : ∀ om (F : Nat → Bool) (kk : List (Option Nat)), Cv om F kk (Lns l) (Lns l) := fun om F kk => .same (Lns_bl l)
  refine xl_loopM hT hm (fun i : Nat => ⟨f14_i15 (Strs kinds) (.ref 0 0) (Lns l) (.ref 2 0) (.own 3) (Lns l) (.i l.length) (.i i), [.var 25 [.v (.slice none 0 0), .v (.slice none 0 0)], strOb kinds, .var 25 [.own 1, .v (.slice none 0 0)], strOb ((l.take i).map (·.2.1))]⟩)
    (fun i => i ≤ l.length) (fun i => l.length - i) 0 (Nat.zero_le _) ?_ ?_
  · exact Mv.of [some 0, some 2, some 3, none] rfl ⟨.varS rfl (by simp), .slcS rfl (strR_bl _), .varL rfl (by simp [CvL]), .nil (by decide), trivial⟩ (by simp only [f14_i15, CvL]; simp [hqk, hql])
  · intro i hi
    simp only [go_sem, Int.reduceEq, Int.reduceLE, Int.reduceLT, Int.reduceToNat, List.length_map]
    by_cases h : i < l.length
    · obtain ⟨x, hx⟩ := get_ex h
      have hwi := wrap_succ i (by omega)
      have ht : (l.take (i + 1)).map (·.2.1) = (l.take i).map (·.2.1) ++ [x.2.1] := by rw [List.take_add_one, hx, List.map_append]; rfl
      simp only [go_sem, Int.reduceEq, Int.reduceLE, Int.reduceLT, Int.reduceToNat, h, hx, List.length_map, hwi]
      refine ⟨by rw [List.length_take]; omega, i + 1, h, by omega, ?_⟩
      rw [ht]
      exact Mv.of [some 0, some 1, some 2, some 5] rfl ⟨.varS rfl (by simp), .slcS rfl (strR_bl _), .varL rfl (by simp [CvL]), .slcS (by simp) (strR_bl _), trivial⟩ (by simp only [CvL]; simp [hqk, hql])
    have ht : l.take i = l := List.take_of_length_le (by omega)
    simp only [go_sem, Int.reduceEq, Int.reduceLE, Int.reduceLT, Int.reduceToNat, h, List.length_map]
    rw [ht]
    clear ht h hi
    have hqn : ∀ om (F : Nat → Bool) (kk : List (Option Nat)), Cv om F kk (Strs (l.map (·.2.1))) (Strs (l.map (·.2.1))) := fun om F kk => .same (Strs_bl _)
    have hnl : (l.map (·.2.1)).length ≤ 1000000 := by simp; omega
    generalize hns : l.map (·.2.1) = ns at hM' hqn hnl
    refine xl_loopM hT hm (fun i : Nat × List Df => ⟨f14_i24 (Strs kinds) (.ref 0 0) (.ref 2 0) (Strs ns) (Lns l) (.i l.length) (.i i.1), [.var 25 [.v (.slice none 0 0), .v (.slice none 0 0)], strOb kinds, .var 25 [.own 1, .own 3], .slc 40 4 (dfR i.2)]⟩)
      (fun i => i.1 ≤ l.length ∧ i.2.length = i.1 ∧ bodiesGo kinds ns l [] = bodiesGo kinds ns (l.drop i.1) i.2) (fun i => l.length - i.1) (0, []) ⟨Nat.zero_le _, rfl, rfl⟩ ?_ ?_
    · exact Mv.of [some 0, some 1, some 2, none] rfl ⟨.varS rfl (by simp), .slcS rfl (strR_bl _), .varL rfl (by simp [CvL]), .nil (by decide), trivial⟩ (by simp only [f14_i24, CvL]; simp [hqk, hql]; exact .frzS rfl rfl (strR_bl _))
    rintro ⟨i, d⟩ ⟨hi, hdl, hgo⟩
    dsimp only at hi hdl hgo
    simp only [go_sem, Int.reduceEq, Int.reduceLE, Int.reduceLT, Int.reduceToNat, List.length_map]
    by_cases h : i < l.length
    case neg =>
      have hend : bodiesGo kinds ns l [] = .inr d := by rw [hgo, List.drop_of_length_le (by omega), bodiesGo]
      obtain ⟨hF, hMay⟩ := hM' d hend rfl
      have hMG := cMayG ⟨kinds, d⟩ hF
      rw [hMay] at hMG
      rw [hend]
      simp only [go_sem, Int.reduceEq, Int.reduceLE, Int.reduceLT, Int.reduceToNat, h, List.length_map]
      refine hMG.pv ⟨.aggL ⟨.frzS rfl rfl (strR_bl _), .frzS rfl rfl (dfR_bl _), trivial⟩, trivial⟩ ?_
      rw [show readB kinds (.inr d) = (if 2000 < grSz d then (zGr, 0, 4) else (⟨kinds, d⟩, 0, 0)) from rfl]
      by_cases hz : grSz d ≤ 2000
      · rw [decide_eq_true hz, if_neg (by omega)]
        simp only [go_sem, Int.reduceEq, Int.reduceLE, Int.reduceLT, Int.reduceToNat, Bool.not_true]
        exact Fin.ret (.tupL ⟨.aggL ⟨.frzS rfl rfl (strR_bl _), .frzS rfl rfl (dfR_bl _), trivial⟩, .v, .v, trivial⟩)
      · rw [decide_eq_false hz, if_pos (by omega)]
        simp only [go_sem, Int.reduceEq, Int.reduceLE, Int.reduceLT, Int.reduceToNat, Bool.not_false]
        exact Fin.ret (.tupL ⟨cvZ, .v, .v, trivial⟩)
    obtain ⟨x, hx⟩ := get_ex h
    have hxs := hlx x (List.mem_of_getElem? hx)
    have hwi := wrap_succ i (by omega)
    rw [drop_get hx, bodiesGo] at hgo
    have hW := wholeSK kinds ns x.2.2 (by omega) hkn hnl
    simp only [go_sem, Int.reduceEq, Int.reduceLE, Int.reduceLT, Int.reduceToNat, h, hx, List.length_map]
    refine ⟨_, hW [_, _, _, _, _], ?_⟩
    rintro _ _ ⟨_, ⟨rfl, k, rfl⟩, rfl⟩
    clear hW
    generalize wholeP kinds ns x.2.2 = w at hgo
    obtain ⟨c, pl, e⟩ := w
    dsimp only at hgo
    by_cases he : e = 0
    case neg =>
      have he2 : ((e : Int) != 0) = true := by simp; omega
      have hw1 : IntKind.i64.wrap ((x.1 : Int) + (x.2.1.size : Int)) = ((x.1 + x.2.1.size : Nat) : Int) := by rw [wrap_int _ (by omega) (by omega)]; omega
      have hw2 : IntKind.i64.wrap (((x.1 + x.2.1.size : Nat) : Int) + 3) = ((x.1 + x.2.1.size + 3 : Nat) : Int) := by rw [wrap_int _ (by omega) (by omega)]; omega
      rw [if_pos he] at hgo
      rw [hgo]
      simp only [go_sem, Int.reduceEq, Int.reduceLE, Int.reduceLT, Int.reduceToNat, he2, hw1, hw2]
      refine free_gen (fun i => ([.agg [.v (.slice none 0 0), .v (.slice none 0 0)], .ref 4 0, .i x.1, .ref 4 1, .s x.2.1, .i x.2.1.size, .i (x.1 + x.2.1.size : Nat), .i (x.1 + x.2.1.size + 3 : Nat), .i pl, .i (IntKind.i64.wrap (((x.1 + x.2.1.size + 3 : Nat) : Int) + (pl : Int))), .i e, .any, .i (IntKind.i64.wrap (((x.1 + x.2.1.size + 3 : Nat) : Int) + (pl : Int))), .i e] : List D).getD i .any) [4, 15, 17, 18] (by rfl) ?_ ?_
      · intro i o hio env' hlen hkeep hdep K' hK'
        have k4 : env'.getD 4 .any = .ref 0 0 := hkeep 4 (by simp)
        have k15 : env'.getD 15 .any = .ref 4 0 := hkeep 15 (by simp)
        have k17 : env'.getD 17 .any = .i pl := hkeep 17 (by simp)
        have k18 : env'.getD 18 .any = .i e := hkeep 18 (by simp)
        have hi : i < 14 := (List.getElem?_eq_some_iff.1 hio).1
        match i, hi with
        | 0, _ =>
          cases hio
          simp only [go_sem, Int.reduceEq, Int.reduceLE, Int.reduceLT, Int.reduceToNat, evD_tmp]
          exact hK'
        | 1, _ =>
          cases hio
          simp only [go_sem, Int.reduceEq, Int.reduceLE, Int.reduceLT, Int.reduceToNat, evD_tmp, k15]
          exact hK'
        | 2, _ =>
          cases hio
          have d := hdep 1 (by decide) 86 rfl
          simp only [go_sem, Int.reduceEq, Int.reduceLE, Int.reduceLT, Int.reduceToNat, evD_tmp, d]
          exact hK'
        | 3, _ =>
          cases hio
          simp only [go_sem, Int.reduceEq, Int.reduceLE, Int.reduceLT, Int.reduceToNat, evD_tmp, k15]
          exact hK'
        | 4, _ =>
          cases hio
          have d3 := hdep 3 (by decide) 88 rfl
          simp only [go_sem, Int.reduceEq, Int.reduceLE, Int.reduceLT, Int.reduceToNat, evD_tmp, d3]
          exact hK'
        | 5, _ =>
          cases hio
          have d4 := hdep 4 (by decide) 89 rfl
          simp only [go_sem, Int.reduceEq, Int.reduceLE, Int.reduceLT, Int.reduceToNat, evD_tmp, d4]
          exact hK'
        | 6, _ =>
          cases hio
          have d2 := hdep 2 (by decide) 87 rfl
          have d5 := hdep 5 (by decide) 90 rfl
          simp only [go_sem, Int.reduceEq, Int.reduceLE, Int.reduceLT, Int.reduceToNat, evD_tmp, d2, d5, hw1]
          exact hK'
        | 7, _ =>
          cases hio
          have d6 := hdep 6 (by decide) 91 rfl
          simp only [go_sem, Int.reduceEq, Int.reduceLE, Int.reduceLT, Int.reduceToNat, evD_tmp, d6, hw2]
          exact hK'
        | 8, _ =>
          cases hio
          simp only [go_sem, Int.reduceEq, Int.reduceLE, Int.reduceLT, Int.reduceToNat, evD_tmp, k17]
          exact hK'
        | 9, _ =>
          cases hio
          have d7 := hdep 7 (by decide) 92 rfl
          have d8 := hdep 8 (by decide) 93 rfl
          simp only [go_sem, Int.reduceEq, Int.reduceLE, Int.reduceLT, Int.reduceToNat, evD_tmp, d7, d8]
          exact hK'
        | 10, _ =>
          cases hio
          simp only [go_sem, Int.reduceEq, Int.reduceLE, Int.reduceLT, Int.reduceToNat, evD_tmp, k18]
          exact hK'
        | 11, _ =>
          cases hio
          have d0 := hdep 0 (by decide) 85 rfl
          simp only [go_sem, Int.reduceEq, Int.reduceLE, Int.reduceLT, Int.reduceToNat, evD_tmp, d0, k4]
          exact hK'
        | 12, _ =>
          cases hio
          have d9 := hdep 9 (by decide) 94 rfl
          simp only [go_sem, Int.reduceEq, Int.reduceLE, Int.reduceLT, Int.reduceToNat, evD_tmp, d9]
          exact hK'
        | 13, _ =>
          cases hio
          have d10 := hdep 10 (by decide) 95 rfl
          simp only [go_sem, Int.reduceEq, Int.reduceLE, Int.reduceLT, Int.reduceToNat, evD_tmp, d10]
          exact hK'
        | i + 14, hi => exact absurd hi (by omega)
      · intro env' hlen hkeep hV
        have k4 : env'.getD 4 .any = .ref 0 0 := hkeep 4 (by simp)
        have k5 : env'.getD 5 .any = .i (IntKind.i64.wrap (((x.1 + x.2.1.size + 3 : Nat) : Int) + (pl : Int))) := hV 12 5 rfl
        have k6 : env'.getD 6 .any = .i e := hV 13 6 rfl
        rw [show readB kinds (.inl (IntKind.i64.wrap (((x.1 + x.2.1.size + 3 : Nat) : Int) + (pl : Int)), e)) = (zGr, IntKind.i64.wrap (((x.1 + x.2.1.size + 3 : Nat) : Int) + (pl : Int)), e) from rfl]
        simp only [go_sem, Int.reduceEq, Int.reduceLE, Int.reduceLT, Int.reduceToNat, evD_tmp, k4, k5, k6]
        exact Fin.ret (.tupL ⟨cvZ, .v, .v, trivial⟩)
    subst he
    have he2 : (((0 : Nat) : Int) != 0) = false := rfl
    rw [if_neg (by simp)] at hgo
    simp only [go_sem, Int.reduceEq, Int.reduceLE, Int.reduceLT, Int.reduceToNat, he2, List.length_map, hwi, Cf.c_take]
    exact ⟨by omega, (i + 1, d ++ [(x.2.1, c)]), ⟨h, by simp; omega, hgo⟩, by dsimp only; omega, Mv.of [some 0, some 1, some 2, some 7] rfl ⟨.varS rfl (by simp), .slcS rfl (strR_bl _), .varL rfl (by simp [CvL]), .slcS (by simp) (dfR_bl _), trivial⟩ (by simp only [f14_i24, CvL]; simp [hqk, hql, hqn])⟩
end Go.Proofs.Ytdliolbjngcgcaa.W
set_option maxRecDepth 100000
/- What is known of a grammar that is read. -/
namespace Go.Proofs.Ytdliolbjngcgcaa.W
open Go Go.Proofs Go.Proofs.Ytdliolbjngcgcaa.AWP
theorem cutL_sz2 (s sep : ByteArray) : (cutL s sep).2.1.size ≤ s.size := by
  unfold cutL Go.Lib.cut
  split
  · rename_i a b c h
    split at h
    · cases h
      show (List.drop _ s.data.toList).toArray.size ≤ _
      simp only [List.size_toArray, List.length_drop, Array.length_toList]
      show s.size - _ ≤ _
      omega
    · cases h
      exact Nat.zero_le _
theorem nameB_szC {s : ByteArray} (h : nameB s = true) : s.size ≤ 30 := by
  unfold nameB at h
  simp only [Bool.and_eq_true, decide_eq_true_eq] at h
  exact h.2.2
/-- What holds of lines that are read. -/
structure LnJ (tot : Nat) (kinds : List ByteArray) (l : List Ln) : Prop where
  len : l.length ≤ 50
  sz : ∀ x ∈ l, x.1 ≤ tot ∧ x.2.1.size ≤ 30 ∧ x.2.2.size ≤ tot
  nm : ∀ x ∈ l, nameB x.2.1 = true
  nd : kinds.Nodup → (metC kinds l).Nodup
theorem lnJ_step {tot : Nat} {kinds : List ByteArray} {l : List Ln} {a : Nat} {ln : ByteArray} {l' : List Ln} {a' : Nat} (hJ : LnJ tot kinds l) (ha : a + ln.size ≤ tot) (h : lnStep tot kinds l a ln = .inr (l', a')) : LnJ tot kinds l' ∧ a' = a + ln.size := by
  obtain ⟨h1, rfl, h3, h4, h5⟩ := lnK_inr h
  obtain ⟨j1, j2, j3, j4⟩ := hJ
  have hs := csuf_szC 10 ln
  have hs2 := cutL_sz2 (csuf 10 ln).1 eqS
  refine ⟨⟨by simp; omega, fun x hx => ?_, fun x hx => ?_, fun hkn => ?_⟩, h3⟩
  · rcases List.mem_append.1 hx with hx | hx
    · exact j2 x hx
    · rw [List.mem_singleton.1 hx]
      exact ⟨by dsimp only; omega, nameB_szC h4, by dsimp only; omega⟩
  · rcases List.mem_append.1 hx with hx | hx
    · exact j3 x hx
    · rw [List.mem_singleton.1 hx]; exact h4
  · have e : metC kinds (l ++ [(a, (cutL (csuf 10 ln).1 eqS).1, (cutL (csuf 10 ln).1 eqS).2.1)]) = metC kinds l ++ [(cutL (csuf 10 ln).1 eqS).1] := by simp [metC]
    rw [e, List.nodup_append]
    refine ⟨j4 hkn, by simp, fun x hx y hy hxy => ?_⟩
    rw [List.mem_singleton.1 hy] at hxy
    have := List.any_eq_false.1 h5 x hx
    simp only [decide_eq_true_eq] at this
    exact this hxy.symm
theorem lnGo_J {tot : Nat} {kinds : List ByteArray} : ∀ (n : Nat) (r : ByteArray) (l : List Ln) (a : Nat) {l' : List Ln} {a' : Nat}, LnJ tot kinds l → a + r.size ≤ tot → lnGo tot kinds n r l a = .inr (l', a') → LnJ tot kinds l' := by
  intro n
  induction n with
  | zero =>
    intro r l a l' a' hJ ha h
    rw [lnGo] at h; cases h; exact hJ
  | succ n ih =>
    intro r l a l' a' hJ ha h
    rw [lnGo] at h
    split at h
    · cases h; exact hJ
    · rename_i h0
      have hl := lineOfC_size r (by omega)
      split at h
      · cases h
      · rename_i l1 a1 hst
        obtain ⟨hJ1, e⟩ := lnJ_step hJ (by omega) hst
        exact ih _ _ _ hJ1 (by omega) h
theorem linesR_J (s : ByteArray) (kinds : List ByteArray) (h : (linesR s kinds).2.2 = 0) (he : ∀ p e, lnGo s.size kinds s.size s [] 0 = .inl (p, e) → e ≠ 0) : LnJ s.size kinds (linesR s kinds).1 := by
  have h0 : LnJ s.size kinds [] := ⟨by simp, by simp, by simp, fun h => by simpa [metC] using h⟩
  have key := @lnGo_J s.size kinds s.size s [] 0
  unfold linesR at h ⊢
  generalize lnGo s.size kinds s.size s [] 0 = q at h he key ⊢
  cases q with
  | inl q =>
    obtain ⟨p, e⟩ := q
    exact absurd h (he p e rfl)
  | inr q =>
    obtain ⟨l, a⟩ := q
    rw [show linesQ (.inr (l, a)) = (if l = [] then ([], 0, 2) else (l, 0, 0)) from rfl] at h ⊢
    split
    · exact h0
    · exact key h0 (by omega) rfl
theorem lnK_inl {tot : Nat} {kinds : List ByteArray} {out : List Ln} {a sz : Nat} {ended : Bool} {k : ByteArray × ByteArray × Bool} {p e : Nat} (h : lnK tot kinds out a sz ended k = .inl (p, e)) : e ≠ 0 := by
  unfold lnK at h
  split at h
  · cases h; simp
  split at h
  · cases h; simp
  split at h
  · cases h; simp
  split at h
  · cases h; simp
  split at h
  · cases h; simp
  · cases h
theorem lnGo_e {tot : Nat} {kinds : List ByteArray} : ∀ (n : Nat) (r : ByteArray) (l : List Ln) (a : Nat) {p e : Nat}, lnGo tot kinds n r l a = .inl (p, e) → e ≠ 0 := by
  intro n
  induction n with
  | zero => intro r l a p e h; rw [lnGo] at h; cases h
  | succ n ih =>
    intro r l a p e h
    rw [lnGo] at h
    split at h
    · cases h
    · split at h
      · rename_i q hst
        cases h
        exact lnK_inl hst
      · exact ih _ _ _ h
theorem bodiesGo_inr {ks ns : List ByteArray} : ∀ (l : List Ln) (d0 : List Df) {d : List Df}, bodiesGo ks ns l d0 = .inr d → d = d0 ++ l.map (fun x => (x.2.1, (wholeP ks ns x.2.2).1)) ∧ ∀ x ∈ l, (wholeP ks ns x.2.2).2.2 = 0
  | [], d0, d, h => by rw [bodiesGo] at h; cases h; simp
  | x :: l, d0, d, h => by
    rw [bodiesGo] at h
    split at h
    · cases h
    · rename_i h0
      obtain ⟨h1, h2⟩ := bodiesGo_inr l _ h
      refine ⟨by rw [h1]; simp, fun y hy => ?_⟩
      rcases List.mem_cons.1 hy with rfl | hy
      · simpa using h0
      · exact h2 y hy
theorem grSz_le_of {d : List Df} {m : Nat} : (∀ x ∈ d, x.2.sz ≤ m) → grSz d ≤ d.length * m := by
  induction d with
  | nil => intro _; simp [grSz, Cf.szs_nil]
  | cons x d ih =>
    intro h
    have h1 := h x (by simp)
    have h2 := ih fun y hy => h y (by simp [hy])
    unfold grSz at h2 ⊢
    rw [List.map_cons, Cf.szs_cons, List.length_cons, Nat.add_mul]
    omega
/-- A grammar that is read may be, if it has not too many nodes. -/
theorem read_may (s : ByteArray) (hs : s.size ≤ 65536) (kinds : List ByteArray) (hks : ∀ x ∈ kinds, x.size ≤ 1000000) (d : List Df) (h1 : 1 ≤ kinds.length) (h2 : kinds.length ≤ 100) (ho : onceB kinds = true)
    (hb : bodiesGo kinds ((linesR s kinds).1.map (·.2.1)) (linesR s kinds).1 [] = .inr d) (he : (linesR s kinds).2.2 = 0) (hne : (linesR s kinds).1 ≠ []) : GFit ⟨kinds, d⟩ ∧ mayG ⟨kinds, d⟩ = decide (grSz d ≤ 2000) := by
  have hon : kinds.all nameB = true ∧ kinds.Nodup := by unfold onceB at ho; simpa using ho
  obtain ⟨j1, j2, j3, j4⟩ := linesR_J s kinds he fun p e h => lnGo_e _ _ _ _ h
  generalize (linesR s kinds).1 = l at *
  obtain ⟨hd, hw⟩ := bodiesGo_inr l [] hb
  rw [List.nil_append] at hd
  have hnm : d.map (·.1) = l.map (·.2.1) := by rw [hd, List.map_map]; rfl
  have hdl : d.length = l.length := by rw [hd]; simp
  have hgood : ∀ x ∈ d, x.2.sz ≤ 131072 ∧ x.2.may kinds.length d.length = true := by
    intro x hx
    rw [hd] at hx
    obtain ⟨y, hy, rfl⟩ := List.mem_map.1 hx
    have hg := wholeP_good kinds (l.map (·.2.1)) y.2.2 (hw y hy)
    have := (j2 y hy).2.2
    refine ⟨by dsimp only; omega, ?_⟩
    have hl : (l.map (·.2.1)).length = d.length := by rw [hdl]; simp
    rw [hl] at hg
    exact hg.2
  have hz := grSz_le_of fun x hx => (hgood x hx).1
  have hzz : d.length * 131072 ≤ 50 * 131072 := Nat.mul_le_mul_right _ (by omega)
  have hlp := List.length_pos_iff.2 hne
  have hgn : grNms ⟨kinds, d⟩ = metC kinds l := by unfold grNms metC; rw [← hnm]
  refine ⟨⟨by dsimp only; omega, by dsimp only; omega, by dsimp only; omega, fun x hx => ?_⟩, ?_⟩
  · rw [hgn] at hx
    rcases List.mem_append.1 hx with hx | hx
    · exact hks x hx
    · obtain ⟨y, hy, rfl⟩ := List.mem_map.1 hx
      have := (j2 y hy).2.1; omega
  · have hob : onceB (grNms ⟨kinds, d⟩) = true := by
      rw [hgn]
      unfold onceB
      rw [decide_eq_true (j4 hon.2), Bool.and_true, List.all_eq_true]
      intro x hx
      rcases List.mem_append.1 hx with hx | hx
      · exact List.all_eq_true.1 hon.1 x hx
      · obtain ⟨y, hy, rfl⟩ := List.mem_map.1 hx
        exact j3 y hy
    have hdo : defsOk ⟨kinds, d⟩ = true := by
      unfold defsOk
      rw [List.all_eq_true]
      exact fun x hx => (hgood x hx).2
    unfold mayG
    rw [hob, hdo]
    dsimp only
    rw [decide_eq_true h1, decide_eq_true h2, decide_eq_true (show 1 ≤ d.length by omega), decide_eq_true (show d.length ≤ 50 by omega)]
    rfl
theorem linesR_ne (s : ByteArray) (kinds : List ByteArray) (h : (linesR s kinds).2.2 = 0) : (linesR s kinds).1 ≠ [] := by
  have he := @lnGo_e s.size kinds s.size s [] 0
  unfold linesR at h ⊢
  generalize lnGo s.size kinds s.size s [] 0 = q at h he ⊢
  cases q with
  | inl q => obtain ⟨p, e⟩ := q; exact absurd h (he rfl)
  | inr q =>
    obtain ⟨l, a⟩ := q
    rw [show linesQ (.inr (l, a)) = (if l = [] then ([], 0, 2) else (l, 0, 0)) from rfl] at h ⊢
    split at h
    · cases h
    · rename_i hl; rw [if_neg hl]; exact hl
theorem linesOk (s : ByteArray) (kinds : List ByteArray) (h : (linesR s kinds).2.2 = 0) : LinesOk kinds s.size (linesR s kinds).1 := by
  obtain ⟨j1, j2, _, _⟩ := linesR_J s kinds h fun p e h => lnGo_e _ _ _ _ h
  exact ⟨j1, j2⟩
theorem cReadA (s : ByteArray) (kinds : List ByteArray) (hkn : kinds.length ≤ 1000000) (hks : ∀ x ∈ kinds, x.size ≤ 1000000) : AP Try.prog 14 [.s s, Strs kinds] (readCD (readC s kinds)) :=
  cRead s kinds hkn hks (linesOk s kinds) fun d hs h1 h2 ho hb he => read_may s hs kinds hks d h1 h2 ho hb he (linesR_ne s kinds he)
end Go.Proofs.Ytdliolbjngcgcaa.W
set_option maxRecDepth 100000
/- The grammar of a text: the document's words. -/
namespace Go.Proofs.Ytdliolbjngcgcaa.W
open Go Go.Proofs Go.Proofs.Ytdliolbjngcgcaa.AWP
attribute [local irreducible] xl hide aop aops aopQ qops guardP condP
/-! ### A line, two ways -/
end Go.Proofs.Ytdliolbjngcgcaa.W
set_option maxRecDepth 100000
/- An expression's text, put on a page: the program's way. -/
namespace Go.Proofs.Ytdliolbjngcgcaa.W
open Go Go.Proofs Go.Proofs.Ytdliolbjngcgcaa.AWP
attribute [local irreducible] xl hide aop aops aopQ qops guardP condP
def kRows (l : List Int) : List (List D) := l.map fun n => [.v (.int .u8 n)]
abbrev Ks (l : List Int) : D := .sl 1 (kRows l)
theorem kRows_len (l : List Int) : (kRows l).length = l.length := by simp [kRows]
theorem kRows_get {l : List Int} {i : Nat} {x : Int} (h : l[i]? = some x) : (kRows l)[i]? = some [.v (.int .u8 x)] := by simp [kRows, h]
def idxK : List Int → Int → Nat → Int
  | [], _, _ => -1
  | y :: l, x, i => if x = y then (i : Int) else idxK l x (i + 1)
theorem ixK (l : List Int) (x : Int) (hl : l.length ≤ 1000) : AP Try.prog 66 [Ks l, .v (.int .u8 x)] (.i (idxK l x 0)) := by
  have hrl := kRows_len l
  refine AC.lbody hT hm Try.func66 f66_nm f66_lc f66_res f66_nt ?_
  simp only [go_sem, Int.reduceEq, Int.reduceLE, Int.reduceLT, Int.reduceToNat, hrl]
  refine xl_loopM hT hm (fun i : Nat => ⟨f66_i7 (Ks l) (.v (.int .u8 x)) (.i l.length) (.i i), []⟩)
    (fun i => i ≤ l.length ∧ idxK (l.drop i) x i = idxK l x 0) (fun i => l.length - i) 0 ⟨Nat.zero_le _, rfl⟩ (Mv.none (by simp [f66_i7, kRows])) ?_
  rintro i ⟨hi, hx⟩
  simp only [go_sem, Int.reduceEq, Int.reduceLE, Int.reduceLT, Int.reduceToNat, hrl]
  by_cases h : i < l.length
  case neg =>
    rw [List.drop_of_length_le (by omega)] at hx
    simp only [go_sem, Int.reduceEq, Int.reduceLE, Int.reduceLT, Int.reduceToNat, h]
    exact Fin.v (by rw [← hx]; rfl)
  obtain ⟨y, hy⟩ := get_ex h
  rw [drop_get hy, idxK] at hx
  simp only [go_sem, Int.reduceEq, Int.reduceLE, Int.reduceLT, Int.reduceToNat, h, hrl, kRows_get hy]
  by_cases hxy : x = y
  · rw [if_pos hxy] at hx
    have e : (x == y) = true := by simp [hxy]
    simp only [go_sem, Int.reduceEq, Int.reduceLE, Int.reduceLT, Int.reduceToNat, e]
    exact Fin.v (by rw [← hx])
  · rw [if_neg hxy] at hx
    have e : (x == y) = false := by simp [hxy]
    simp only [go_sem, Int.reduceEq, Int.reduceLE, Int.reduceLT, Int.reduceToNat, e]
    refine ⟨i + 1, ⟨h, hx⟩, by omega, ?_⟩
    rw [wrap_succ i (by omega)]
    exact Mv.none (by simp [kRows])
theorem idxK_ge : ∀ (l : List Int) (x : Int) (i : Nat), decide (0 ≤ idxK l x i) = l.contains x
  | [], x, i => by simp [idxK]
  | y :: l, x, i => by
    rw [idxK]
    split
    · rename_i h; subst h; simp
    · rename_i h
      rw [idxK_ge l x (i + 1), List.contains_cons, beq_false h, Bool.false_or]
theorem hasK (l : List Int) (x : Int) (hl : l.length ≤ 1000) : AP Try.prog 46 [Ks l, .v (.int .u8 x)] (.b (l.contains x)) := by
  have h := idxK_ge l x 0
  refine AC.lbody hT hm Try.func46 f46_nm f46_lc f46_res f46_nt ?_
  simp only [go_sem, Int.reduceEq, Int.reduceLE, Int.reduceLT, Int.reduceToNat]
  refine (ixK l x hl).pv ⟨.same (.sl fun r hr d hd => ?_), .v, trivial⟩ ?_
  · obtain ⟨n, _, rfl⟩ := List.mem_map.1 hr
    rw [List.mem_singleton.1 hd]; exact .v _
  simp only [go_sem, Int.reduceEq, Int.reduceLE, Int.reduceLT, Int.reduceToNat]
  exact Fin.v (by rw [h])
def KsD (K : D) (ks : List Int) : Prop := K = Ks ks ∨ (ks = [] ∧ K = .v (.slice none 0 0))
theorem Ks_bl (ks : List Int) : Bl 0 (Ks ks) := .sl fun r hr d hd => by
  obtain ⟨n, _, rfl⟩ := List.mem_map.1 hr
  rw [List.mem_singleton.1 hd]; exact .v _
theorem KsD.cv {K : D} {ks : List Int} (h : KsD K ks) {om : List Ob} {F : Nat → Bool} : Cv om F [] K (Ks ks) := by
  rcases h with rfl | ⟨rfl, rfl⟩
  · exact .same (Ks_bl ks)
  · exact .nil
abbrev PGC : Nat := 66
theorem bS.form {T : Nat} {x : List D} {l : List UInt8} {R om : List Ob} (h : bS T x l R om) : ∃ a b, om = .var T (a :: b :: x) :: R := by
  rcases h with ⟨_, rfl⟩ | ⟨j, _, rfl⟩
  · exact ⟨_, _, rfl⟩
  · exact ⟨_, _, rfl⟩
theorem brkT (l : List UInt8) : brk true l = 40 :: (l ++ [41]) := _root_.id rfl
theorem brkF (l : List UInt8) : brk false l = l := _root_.id rfl
/-- What is put: in brackets, if the kind is one of some. -/
def putC (g : Gr) (r : Cf) : Prop := ∀ (K : D) (ks : List Int) (l : List UInt8) (R om : List Ob), KsD K ks → ks.length ≤ 10 → bS PGC g.c l R om → l.length + r.sz * 110 ≤ 100000000 →
  AC Try.prog 25 [.ref 0 0, .agg r.c, K] om (fun o om' => o = .ret (.tup []) ∧ ∃ R', bS PGC g.c (l ++ brk (isIn ks r.kind) (r.tx g.kinds (g.defs.map (·.1)))) R' om')
theorem ba_back (s : ByteArray) : (⟨s.data.toList.toArray⟩ : ByteArray) = s := by cases s; simp
theorem nm_at {L : List ByteArray} {n : Nat} {s : ByteArray} (h : L[n]? = some s) : (L.getD ((n : Int)).toNat ⟨#[]⟩).data.toList = s.data.toList := by
  rw [Int.toNat_natCast, List.getD_eq_getElem?_getD, h]; rfl
set_option maxHeartbeats 2000000 in
theorem putC1 (g : Gr) : putC g (.mk 1 0 []) := by
  intro K ks l R om hK hk hB hl
  rw [Cf.sz_mk, Cf.szs_nil] at hl
  have hc0 := hasK ks 1 (by omega)
  have hq := pelG g
  obtain ⟨a0, b0, rfl⟩ := hB.form
  refine AC.lbody hT hm Try.func25 f25_nm f25_lc f25_res f25_nt ?_
  simp only [go_sem, Int.reduceEq, Int.reduceLE, Int.reduceLT, Int.reduceToNat, Cf.c_mk]
  refine hc0.pv ⟨hK.cv, .v, trivial⟩ ?_
  have hin : isIn ks (Cf.mk 1 0 []).kind = ks.contains 1 := rfl
  rw [hin]
  clear hin
  cases hc : ks.contains 1 with
  | true =>
    simp only [go_sem, Int.reduceEq, Int.reduceLE, Int.reduceLT, Int.reduceToNat, Cf.c_mk, Cf.cs_eq, Int.reduceBEq, hq]
    refine ⟨_, wrByteG g.c pageN l 40 R _ hB (by omega), ?_⟩
    rintro _ om1 hw
    obtain ⟨rfl, R1, h1⟩ := hw.bS
    obtain ⟨a1, b1, rfl⟩ := h1.form
    obtain ⟨l1, e1⟩ : ∃ B, B = l ++ [40] := ⟨_, rfl⟩
    have L1 : l1.length = l.length + 1 := by rw [e1, List.length_append]; try rfl
    rw [← e1] at h1
    simp only [go_sem, Int.reduceEq, Int.reduceLE, Int.reduceLT, Int.reduceToNat, Cf.c_mk, Cf.cs_eq, Int.reduceBEq, Cf.c_take, hq]
    refine ⟨_, wrStrG g.c pageN l1 [91, 93] R1 _ h1 (by omega) (by simp), ?_⟩
    rintro _ om2 hw
    obtain ⟨rfl, R2, h2⟩ := hw.bS
    obtain ⟨a2, b2, rfl⟩ := h2.form
    obtain ⟨l2, e2⟩ : ∃ B, B = l1 ++ [91, 93] := ⟨_, rfl⟩
    have L2 : l2.length = l1.length + 2 := by rw [e2, List.length_append]; try rfl
    rw [← e2] at h2
    simp only [go_sem, Int.reduceEq, Int.reduceLE, Int.reduceLT, Int.reduceToNat, Cf.c_mk, Cf.cs_eq, Int.reduceBEq, Cf.c_take, hq]
    refine ⟨_, wrByteG g.c pageN l2 41 R2 _ h2 (by omega), ?_⟩
    rintro _ om3 hw
    obtain ⟨rfl, R3, h3⟩ := hw.bS
    obtain ⟨a3, b3, rfl⟩ := h3.form
    obtain ⟨l3, e3⟩ : ∃ B, B = l2 ++ [41] := ⟨_, rfl⟩
    have L3 : l3.length = l2.length + 1 := by rw [e3, List.length_append]; try rfl
    rw [← e3] at h3
    simp only [go_sem, Int.reduceEq, Int.reduceLE, Int.reduceLT, Int.reduceToNat, Cf.c_mk, Cf.cs_eq, Int.reduceBEq, Cf.c_take, hq]
    refine finSelf ⟨rfl, R3, ?_⟩
    have e : l ++ brk true ((Cf.mk 1 0 []).tx g.kinds (g.defs.map (·.1))) = l3 := by rw [e3, e2, e1, Cf.tx_1, brkT]; try (simp only [List.append_assoc, List.cons_append, List.nil_append])
    rw [e]
    exact h3
  | false =>
    simp only [go_sem, Int.reduceEq, Int.reduceLE, Int.reduceLT, Int.reduceToNat, Cf.c_mk, Cf.cs_eq, Int.reduceBEq, hq]
    refine ⟨_, wrStrG g.c pageN l [91, 93] R _ hB (by omega) (by simp), ?_⟩
    rintro _ om1 hw
    obtain ⟨rfl, R1, h1⟩ := hw.bS
    obtain ⟨a1, b1, rfl⟩ := h1.form
    obtain ⟨l1, e1⟩ : ∃ B, B = l ++ [91, 93] := ⟨_, rfl⟩
    have L1 : l1.length = l.length + 2 := by rw [e1, List.length_append]; try rfl
    rw [← e1] at h1
    simp only [go_sem, Int.reduceEq, Int.reduceLE, Int.reduceLT, Int.reduceToNat, Cf.c_mk, Cf.cs_eq, Int.reduceBEq, Cf.c_take, hq]
    refine finSelf ⟨rfl, R1, ?_⟩
    have e : l ++ brk false ((Cf.mk 1 0 []).tx g.kinds (g.defs.map (·.1))) = l1 := by rw [e1, Cf.tx_1, brkF]; try (simp only [List.append_assoc, List.cons_append, List.nil_append])
    rw [e]
    exact h1
set_option maxHeartbeats 2000000 in
theorem putC2 (g : Gr) : putC g (.mk 2 0 []) := by
  intro K ks l R om hK hk hB hl
  rw [Cf.sz_mk, Cf.szs_nil] at hl
  have hc0 := hasK ks 2 (by omega)
  have hq := pelG g
  obtain ⟨a0, b0, rfl⟩ := hB.form
  refine AC.lbody hT hm Try.func25 f25_nm f25_lc f25_res f25_nt ?_
  simp only [go_sem, Int.reduceEq, Int.reduceLE, Int.reduceLT, Int.reduceToNat, Cf.c_mk]
  refine hc0.pv ⟨hK.cv, .v, trivial⟩ ?_
  have hin : isIn ks (Cf.mk 2 0 []).kind = ks.contains 2 := rfl
  rw [hin]
  clear hin
  cases hc : ks.contains 2 with
  | true =>
    simp only [go_sem, Int.reduceEq, Int.reduceLE, Int.reduceLT, Int.reduceToNat, Cf.c_mk, Cf.cs_eq, Int.reduceBEq, hq]
    refine ⟨_, wrByteG g.c pageN l 40 R _ hB (by omega), ?_⟩
    rintro _ om1 hw
    obtain ⟨rfl, R1, h1⟩ := hw.bS
    obtain ⟨a1, b1, rfl⟩ := h1.form
    obtain ⟨l1, e1⟩ : ∃ B, B = l ++ [40] := ⟨_, rfl⟩
    have L1 : l1.length = l.length + 1 := by rw [e1, List.length_append]; try rfl
    rw [← e1] at h1
    simp only [go_sem, Int.reduceEq, Int.reduceLE, Int.reduceLT, Int.reduceToNat, Cf.c_mk, Cf.cs_eq, Int.reduceBEq, Cf.c_take, hq]
    refine ⟨_, wrStrG g.c pageN l1 [40, 41] R1 _ h1 (by omega) (by simp), ?_⟩
    rintro _ om2 hw
    obtain ⟨rfl, R2, h2⟩ := hw.bS
    obtain ⟨a2, b2, rfl⟩ := h2.form
    obtain ⟨l2, e2⟩ : ∃ B, B = l1 ++ [40, 41] := ⟨_, rfl⟩
    have L2 : l2.length = l1.length + 2 := by rw [e2, List.length_append]; try rfl
    rw [← e2] at h2
    simp only [go_sem, Int.reduceEq, Int.reduceLE, Int.reduceLT, Int.reduceToNat, Cf.c_mk, Cf.cs_eq, Int.reduceBEq, Cf.c_take, hq]
    refine ⟨_, wrByteG g.c pageN l2 41 R2 _ h2 (by omega), ?_⟩
    rintro _ om3 hw
    obtain ⟨rfl, R3, h3⟩ := hw.bS
    obtain ⟨a3, b3, rfl⟩ := h3.form
    obtain ⟨l3, e3⟩ : ∃ B, B = l2 ++ [41] := ⟨_, rfl⟩
    have L3 : l3.length = l2.length + 1 := by rw [e3, List.length_append]; try rfl
    rw [← e3] at h3
    simp only [go_sem, Int.reduceEq, Int.reduceLE, Int.reduceLT, Int.reduceToNat, Cf.c_mk, Cf.cs_eq, Int.reduceBEq, Cf.c_take, hq]
    refine finSelf ⟨rfl, R3, ?_⟩
    have e : l ++ brk true ((Cf.mk 2 0 []).tx g.kinds (g.defs.map (·.1))) = l3 := by rw [e3, e2, e1, Cf.tx_2, brkT]; try (simp only [List.append_assoc, List.cons_append, List.nil_append])
    rw [e]
    exact h3
  | false =>
    simp only [go_sem, Int.reduceEq, Int.reduceLE, Int.reduceLT, Int.reduceToNat, Cf.c_mk, Cf.cs_eq, Int.reduceBEq, hq]
    refine ⟨_, wrStrG g.c pageN l [40, 41] R _ hB (by omega) (by simp), ?_⟩
    rintro _ om1 hw
    obtain ⟨rfl, R1, h1⟩ := hw.bS
    obtain ⟨a1, b1, rfl⟩ := h1.form
    obtain ⟨l1, e1⟩ : ∃ B, B = l ++ [40, 41] := ⟨_, rfl⟩
    have L1 : l1.length = l.length + 2 := by rw [e1, List.length_append]; try rfl
    rw [← e1] at h1
    simp only [go_sem, Int.reduceEq, Int.reduceLE, Int.reduceLT, Int.reduceToNat, Cf.c_mk, Cf.cs_eq, Int.reduceBEq, Cf.c_take, hq]
    refine finSelf ⟨rfl, R1, ?_⟩
    have e : l ++ brk false ((Cf.mk 2 0 []).tx g.kinds (g.defs.map (·.1))) = l1 := by rw [e1, Cf.tx_2, brkF]; try (simp only [List.append_assoc, List.cons_append, List.nil_append])
    rw [e]
    exact h1
set_option maxHeartbeats 2000000 in
theorem putC3 (g : Gr) (n : Nat) (s : ByteArray) (hs : g.kinds[n]? = some s) (hz : s.size ≤ 100) : putC g (.mk 3 n []) := by
  intro K ks l R om hK hk hB hl
  rw [Cf.sz_mk, Cf.szs_nil] at hl
  have hc0 := hasK ks 3 (by omega)
  have hq := pelG g
  obtain ⟨a0, b0, rfl⟩ := hB.form
  have hsl : s.data.toList.length = s.size := Array.length_toList
  have hlt : n < g.kinds.length := (List.getElem?_eq_some_iff.1 hs).1
  refine AC.lbody hT hm Try.func25 f25_nm f25_lc f25_res f25_nt ?_
  simp only [go_sem, Int.reduceEq, Int.reduceLE, Int.reduceLT, Int.reduceToNat, Cf.c_mk]
  refine hc0.pv ⟨hK.cv, .v, trivial⟩ ?_
  have hin : isIn ks (Cf.mk 3 n []).kind = ks.contains 3 := rfl
  rw [hin]
  clear hin
  cases hc : ks.contains 3 with
  | true =>
    simp only [go_sem, Int.reduceEq, Int.reduceLE, Int.reduceLT, Int.reduceToNat, Cf.c_mk, Cf.cs_eq, Int.reduceBEq, hs, str_get hs, hlt, List.length_map]
    refine ⟨_, wrByteG g.c pageN l 40 R _ hB (by omega), ?_⟩
    rintro _ om1 hw
    obtain ⟨rfl, R1, h1⟩ := hw.bS
    obtain ⟨a1, b1, rfl⟩ := h1.form
    obtain ⟨l1, e1⟩ : ∃ B, B = l ++ [40] := ⟨_, rfl⟩
    have L1 : l1.length = l.length + 1 := by rw [e1, List.length_append]; try rfl
    rw [← e1] at h1
    simp only [go_sem, Int.reduceEq, Int.reduceLE, Int.reduceLT, Int.reduceToNat, Cf.c_mk, Cf.cs_eq, Int.reduceBEq, Cf.c_take, hs, str_get hs, hlt, List.length_map]
    have hX := wrStrG g.c pageN l1 s.data.toList R1 _ h1 (by omega) (by omega)
    rw [ba_back] at hX
    refine ⟨_, hX, ?_⟩
    rintro _ om2 hw
    obtain ⟨rfl, R2, h2⟩ := hw.bS
    obtain ⟨a2, b2, rfl⟩ := h2.form
    obtain ⟨l2, e2⟩ : ∃ B, B = l1 ++ s.data.toList := ⟨_, rfl⟩
    have L2 : l2.length = l1.length + s.data.toList.length := by rw [e2, List.length_append]; try rfl
    rw [← e2] at h2
    simp only [go_sem, Int.reduceEq, Int.reduceLE, Int.reduceLT, Int.reduceToNat, Cf.c_mk, Cf.cs_eq, Int.reduceBEq, Cf.c_take, hs, str_get hs, hlt, List.length_map]
    refine ⟨_, wrByteG g.c pageN l2 41 R2 _ h2 (by omega), ?_⟩
    rintro _ om3 hw
    obtain ⟨rfl, R3, h3⟩ := hw.bS
    obtain ⟨a3, b3, rfl⟩ := h3.form
    obtain ⟨l3, e3⟩ : ∃ B, B = l2 ++ [41] := ⟨_, rfl⟩
    have L3 : l3.length = l2.length + 1 := by rw [e3, List.length_append]; try rfl
    rw [← e3] at h3
    simp only [go_sem, Int.reduceEq, Int.reduceLE, Int.reduceLT, Int.reduceToNat, Cf.c_mk, Cf.cs_eq, Int.reduceBEq, Cf.c_take, hs, str_get hs, hlt, List.length_map]
    refine finSelf ⟨rfl, R3, ?_⟩
    have e : l ++ brk true ((Cf.mk 3 n []).tx g.kinds (g.defs.map (·.1))) = l3 := by rw [e3, e2, e1, Cf.tx_3, nm_at hs, brkT]; try (simp only [List.append_assoc, List.cons_append, List.nil_append])
    rw [e]
    exact h3
  | false =>
    simp only [go_sem, Int.reduceEq, Int.reduceLE, Int.reduceLT, Int.reduceToNat, Cf.c_mk, Cf.cs_eq, Int.reduceBEq, hs, str_get hs, hlt, List.length_map]
    have hX := wrStrG g.c pageN l s.data.toList R _ hB (by omega) (by omega)
    rw [ba_back] at hX
    refine ⟨_, hX, ?_⟩
    rintro _ om1 hw
    obtain ⟨rfl, R1, h1⟩ := hw.bS
    obtain ⟨a1, b1, rfl⟩ := h1.form
    obtain ⟨l1, e1⟩ : ∃ B, B = l ++ s.data.toList := ⟨_, rfl⟩
    have L1 : l1.length = l.length + s.data.toList.length := by rw [e1, List.length_append]; try rfl
    rw [← e1] at h1
    simp only [go_sem, Int.reduceEq, Int.reduceLE, Int.reduceLT, Int.reduceToNat, Cf.c_mk, Cf.cs_eq, Int.reduceBEq, Cf.c_take, hs, str_get hs, hlt, List.length_map]
    refine finSelf ⟨rfl, R1, ?_⟩
    have e : l ++ brk false ((Cf.mk 3 n []).tx g.kinds (g.defs.map (·.1))) = l1 := by rw [e1, Cf.tx_3, nm_at hs, brkF]; try (simp only [List.append_assoc, List.cons_append, List.nil_append])
    rw [e]
    exact h1
set_option maxHeartbeats 2000000 in
theorem putC6 (g : Gr) (n : Nat) (s : ByteArray) (hs : (g.defs.map (·.1))[n]? = some s) (hz : s.size ≤ 100) : putC g (.mk 6 n []) := by
  intro K ks l R om hK hk hB hl
  rw [Cf.sz_mk, Cf.szs_nil] at hl
  have hc0 := hasK ks 6 (by omega)
  have hq := pelG g
  obtain ⟨a0, b0, rfl⟩ := hB.form
  obtain ⟨dx, hdx, rfl⟩ : ∃ dx, g.defs[n]? = some dx ∧ s = dx.1 := by rw [List.getElem?_map, Option.map_eq_some_iff] at hs; obtain ⟨dx, h1, h2⟩ := hs; exact ⟨dx, h1, h2.symm⟩
  have hsl : dx.1.data.toList.length = dx.1.size := Array.length_toList
  have hlt : n < g.defs.length := (List.getElem?_eq_some_iff.1 hdx).1
  refine AC.lbody hT hm Try.func25 f25_nm f25_lc f25_res f25_nt ?_
  simp only [go_sem, Int.reduceEq, Int.reduceLE, Int.reduceLT, Int.reduceToNat, Cf.c_mk]
  refine hc0.pv ⟨hK.cv, .v, trivial⟩ ?_
  have hin : isIn ks (Cf.mk 6 n []).kind = ks.contains 6 := rfl
  rw [hin]
  clear hin
  cases hc : ks.contains 6 with
  | true =>
    simp only [go_sem, Int.reduceEq, Int.reduceLE, Int.reduceLT, Int.reduceToNat, Cf.c_mk, Cf.cs_eq, Int.reduceBEq, hdx, hlt, List.length_map, df_0]
    refine ⟨_, wrByteG g.c pageN l 40 R _ hB (by omega), ?_⟩
    rintro _ om1 hw
    obtain ⟨rfl, R1, h1⟩ := hw.bS
    obtain ⟨a1, b1, rfl⟩ := h1.form
    obtain ⟨l1, e1⟩ : ∃ B, B = l ++ [40] := ⟨_, rfl⟩
    have L1 : l1.length = l.length + 1 := by rw [e1, List.length_append]; try rfl
    rw [← e1] at h1
    simp only [go_sem, Int.reduceEq, Int.reduceLE, Int.reduceLT, Int.reduceToNat, Cf.c_mk, Cf.cs_eq, Int.reduceBEq, Cf.c_take, hdx, hlt, List.length_map, df_0]
    have hX := wrStrG g.c pageN l1 dx.1.data.toList R1 _ h1 (by omega) (by omega)
    rw [ba_back] at hX
    refine ⟨_, hX, ?_⟩
    rintro _ om2 hw
    obtain ⟨rfl, R2, h2⟩ := hw.bS
    obtain ⟨a2, b2, rfl⟩ := h2.form
    obtain ⟨l2, e2⟩ : ∃ B, B = l1 ++ dx.1.data.toList := ⟨_, rfl⟩
    have L2 : l2.length = l1.length + dx.1.data.toList.length := by rw [e2, List.length_append]; try rfl
    rw [← e2] at h2
    simp only [go_sem, Int.reduceEq, Int.reduceLE, Int.reduceLT, Int.reduceToNat, Cf.c_mk, Cf.cs_eq, Int.reduceBEq, Cf.c_take, hdx, hlt, List.length_map, df_0]
    refine ⟨_, wrByteG g.c pageN l2 41 R2 _ h2 (by omega), ?_⟩
    rintro _ om3 hw
    obtain ⟨rfl, R3, h3⟩ := hw.bS
    obtain ⟨a3, b3, rfl⟩ := h3.form
    obtain ⟨l3, e3⟩ : ∃ B, B = l2 ++ [41] := ⟨_, rfl⟩
    have L3 : l3.length = l2.length + 1 := by rw [e3, List.length_append]; try rfl
    rw [← e3] at h3
    simp only [go_sem, Int.reduceEq, Int.reduceLE, Int.reduceLT, Int.reduceToNat, Cf.c_mk, Cf.cs_eq, Int.reduceBEq, Cf.c_take, hdx, hlt, List.length_map, df_0]
    refine finSelf ⟨rfl, R3, ?_⟩
    have e : l ++ brk true ((Cf.mk 6 n []).tx g.kinds (g.defs.map (·.1))) = l3 := by rw [e3, e2, e1, Cf.tx_6, nm_at hs, brkT]; try (simp only [List.append_assoc, List.cons_append, List.nil_append])
    rw [e]
    exact h3
  | false =>
    simp only [go_sem, Int.reduceEq, Int.reduceLE, Int.reduceLT, Int.reduceToNat, Cf.c_mk, Cf.cs_eq, Int.reduceBEq, hdx, hlt, List.length_map, df_0]
    have hX := wrStrG g.c pageN l dx.1.data.toList R _ hB (by omega) (by omega)
    rw [ba_back] at hX
    refine ⟨_, hX, ?_⟩
    rintro _ om1 hw
    obtain ⟨rfl, R1, h1⟩ := hw.bS
    obtain ⟨a1, b1, rfl⟩ := h1.form
    obtain ⟨l1, e1⟩ : ∃ B, B = l ++ dx.1.data.toList := ⟨_, rfl⟩
    have L1 : l1.length = l.length + dx.1.data.toList.length := by rw [e1, List.length_append]; try rfl
    rw [← e1] at h1
    simp only [go_sem, Int.reduceEq, Int.reduceLE, Int.reduceLT, Int.reduceToNat, Cf.c_mk, Cf.cs_eq, Int.reduceBEq, Cf.c_take, hdx, hlt, List.length_map, df_0]
    refine finSelf ⟨rfl, R1, ?_⟩
    have e : l ++ brk false ((Cf.mk 6 n []).tx g.kinds (g.defs.map (·.1))) = l1 := by rw [e1, Cf.tx_6, nm_at hs, brkF]; try (simp only [List.append_assoc, List.cons_append, List.nil_append])
    rw [e]
    exact h1
set_option maxHeartbeats 2000000 in
theorem putC4 (g : Gr) (x y : Cf) (hx : (x.tx g.kinds (g.defs.map (·.1))).length + 4 ≤ 110 * x.sz) (hy : (y.tx g.kinds (g.defs.map (·.1))).length + 4 ≤ 110 * y.sz) (ihx : putC g x) (ihy : putC g y) : putC g (.mk 4 0 [x, y]) := by
  intro K ks l R om hK hk hB hl
  rw [Cf.sz_mk, Cf.szs_cons, Cf.szs_cons, Cf.szs_nil] at hl
  have hc0 := hasK ks 4 (by omega)
  have hq := pelG g
  obtain ⟨a0, b0, rfl⟩ := hB.form
  refine AC.lbody hT hm Try.func25 f25_nm f25_lc f25_res f25_nt ?_
  simp only [go_sem, Int.reduceEq, Int.reduceLE, Int.reduceLT, Int.reduceToNat, Cf.c_mk]
  refine hc0.pv ⟨hK.cv, .v, trivial⟩ ?_
  have hin : isIn ks (Cf.mk 4 0 [x, y]).kind = ks.contains 4 := rfl
  rw [hin]
  clear hin
  cases hc : ks.contains 4 with
  | true =>
    simp only [go_sem, Int.reduceEq, Int.reduceLE, Int.reduceLT, Int.reduceToNat, Cf.c_mk, Cf.cs_eq, Int.reduceBEq, hq]
    refine ⟨_, wrByteG g.c pageN l 40 R _ hB (by omega), ?_⟩
    rintro _ om1 hw
    obtain ⟨rfl, R1, h1⟩ := hw.bS
    obtain ⟨a1, b1, rfl⟩ := h1.form
    obtain ⟨l1, e1⟩ : ∃ B, B = l ++ [40] := ⟨_, rfl⟩
    have L1 : l1.length = l.length + 1 := by rw [e1, List.length_append]; try rfl
    rw [← e1] at h1
    simp only [go_sem, Int.reduceEq, Int.reduceLE, Int.reduceLT, Int.reduceToNat, Cf.c_mk, Cf.cs_eq, Int.reduceBEq, Cf.c_take, hq]
    refine ⟨_, ihx (Ks [4, 5]) [4, 5] l1 R1 _ (.inl rfl) (by simp) h1 (by omega), ?_⟩
    rintro _ om2 ⟨rfl, R2, h2⟩
    obtain ⟨a2, b2, rfl⟩ := h2.form
    obtain ⟨l2, e2⟩ : ∃ B, B = l1 ++ (brk (isIn [4, 5] x.kind) (x.tx g.kinds (g.defs.map (·.1)))) := ⟨_, rfl⟩
    have L2 : l2.length ≤ l1.length + 110 * x.sz := by rw [e2, List.length_append]; have := brk_lenC (isIn [4, 5] x.kind) (x.tx g.kinds (g.defs.map (·.1))); omega
    rw [← e2] at h2
    simp only [go_sem, Int.reduceEq, Int.reduceLE, Int.reduceLT, Int.reduceToNat, Cf.c_mk, Cf.cs_eq, Int.reduceBEq, Cf.c_take, hq]
    refine ⟨_, wrByteG g.c pageN l2 32 R2 _ h2 (by omega), ?_⟩
    rintro _ om3 hw
    obtain ⟨rfl, R3, h3⟩ := hw.bS
    obtain ⟨a3, b3, rfl⟩ := h3.form
    obtain ⟨l3, e3⟩ : ∃ B, B = l2 ++ [32] := ⟨_, rfl⟩
    have L3 : l3.length = l2.length + 1 := by rw [e3, List.length_append]; try rfl
    rw [← e3] at h3
    simp only [go_sem, Int.reduceEq, Int.reduceLE, Int.reduceLT, Int.reduceToNat, Cf.c_mk, Cf.cs_eq, Int.reduceBEq, Cf.c_take, hq]
    refine ⟨_, ihy (Ks [5]) [5] l3 R3 _ (.inl rfl) (by simp) h3 (by omega), ?_⟩
    rintro _ om4 ⟨rfl, R4, h4⟩
    obtain ⟨a4, b4, rfl⟩ := h4.form
    obtain ⟨l4, e4⟩ : ∃ B, B = l3 ++ (brk (isIn [5] y.kind) (y.tx g.kinds (g.defs.map (·.1)))) := ⟨_, rfl⟩
    have L4 : l4.length ≤ l3.length + 110 * y.sz := by rw [e4, List.length_append]; have := brk_lenC (isIn [5] y.kind) (y.tx g.kinds (g.defs.map (·.1))); omega
    rw [← e4] at h4
    simp only [go_sem, Int.reduceEq, Int.reduceLE, Int.reduceLT, Int.reduceToNat, Cf.c_mk, Cf.cs_eq, Int.reduceBEq, Cf.c_take, hq]
    refine ⟨_, wrByteG g.c pageN l4 41 R4 _ h4 (by omega), ?_⟩
    rintro _ om5 hw
    obtain ⟨rfl, R5, h5⟩ := hw.bS
    obtain ⟨a5, b5, rfl⟩ := h5.form
    obtain ⟨l5, e5⟩ : ∃ B, B = l4 ++ [41] := ⟨_, rfl⟩
    have L5 : l5.length = l4.length + 1 := by rw [e5, List.length_append]; try rfl
    rw [← e5] at h5
    simp only [go_sem, Int.reduceEq, Int.reduceLE, Int.reduceLT, Int.reduceToNat, Cf.c_mk, Cf.cs_eq, Int.reduceBEq, Cf.c_take, hq]
    refine finSelf ⟨rfl, R5, ?_⟩
    have e : l ++ brk true ((Cf.mk 4 0 [x, y]).tx g.kinds (g.defs.map (·.1))) = l5 := by rw [e5, e4, e3, e2, e1, Cf.tx_4, brkT]; try (simp only [List.append_assoc, List.cons_append, List.nil_append])
    rw [e]
    exact h5
  | false =>
    simp only [go_sem, Int.reduceEq, Int.reduceLE, Int.reduceLT, Int.reduceToNat, Cf.c_mk, Cf.cs_eq, Int.reduceBEq, hq]
    refine ⟨_, ihx (Ks [4, 5]) [4, 5] l R _ (.inl rfl) (by simp) hB (by omega), ?_⟩
    rintro _ om1 ⟨rfl, R1, h1⟩
    obtain ⟨a1, b1, rfl⟩ := h1.form
    obtain ⟨l1, e1⟩ : ∃ B, B = l ++ (brk (isIn [4, 5] x.kind) (x.tx g.kinds (g.defs.map (·.1)))) := ⟨_, rfl⟩
    have L1 : l1.length ≤ l.length + 110 * x.sz := by rw [e1, List.length_append]; have := brk_lenC (isIn [4, 5] x.kind) (x.tx g.kinds (g.defs.map (·.1))); omega
    rw [← e1] at h1
    simp only [go_sem, Int.reduceEq, Int.reduceLE, Int.reduceLT, Int.reduceToNat, Cf.c_mk, Cf.cs_eq, Int.reduceBEq, Cf.c_take, hq]
    refine ⟨_, wrByteG g.c pageN l1 32 R1 _ h1 (by omega), ?_⟩
    rintro _ om2 hw
    obtain ⟨rfl, R2, h2⟩ := hw.bS
    obtain ⟨a2, b2, rfl⟩ := h2.form
    obtain ⟨l2, e2⟩ : ∃ B, B = l1 ++ [32] := ⟨_, rfl⟩
    have L2 : l2.length = l1.length + 1 := by rw [e2, List.length_append]; try rfl
    rw [← e2] at h2
    simp only [go_sem, Int.reduceEq, Int.reduceLE, Int.reduceLT, Int.reduceToNat, Cf.c_mk, Cf.cs_eq, Int.reduceBEq, Cf.c_take, hq]
    refine ⟨_, ihy (Ks [5]) [5] l2 R2 _ (.inl rfl) (by simp) h2 (by omega), ?_⟩
    rintro _ om3 ⟨rfl, R3, h3⟩
    obtain ⟨a3, b3, rfl⟩ := h3.form
    obtain ⟨l3, e3⟩ : ∃ B, B = l2 ++ (brk (isIn [5] y.kind) (y.tx g.kinds (g.defs.map (·.1)))) := ⟨_, rfl⟩
    have L3 : l3.length ≤ l2.length + 110 * y.sz := by rw [e3, List.length_append]; have := brk_lenC (isIn [5] y.kind) (y.tx g.kinds (g.defs.map (·.1))); omega
    rw [← e3] at h3
    simp only [go_sem, Int.reduceEq, Int.reduceLE, Int.reduceLT, Int.reduceToNat, Cf.c_mk, Cf.cs_eq, Int.reduceBEq, Cf.c_take, hq]
    refine finSelf ⟨rfl, R3, ?_⟩
    have e : l ++ brk false ((Cf.mk 4 0 [x, y]).tx g.kinds (g.defs.map (·.1))) = l3 := by rw [e3, e2, e1, Cf.tx_4, brkF]; try (simp only [List.append_assoc, List.cons_append, List.nil_append])
    rw [e]
    exact h3
set_option maxHeartbeats 2000000 in
theorem putC5 (g : Gr) (x y : Cf) (hx : (x.tx g.kinds (g.defs.map (·.1))).length + 4 ≤ 110 * x.sz) (hy : (y.tx g.kinds (g.defs.map (·.1))).length + 4 ≤ 110 * y.sz) (ihx : putC g x) (ihy : putC g y) : putC g (.mk 5 0 [x, y]) := by
  intro K ks l R om hK hk hB hl
  rw [Cf.sz_mk, Cf.szs_cons, Cf.szs_cons, Cf.szs_nil] at hl
  have hc0 := hasK ks 5 (by omega)
  have hq := pelG g
  obtain ⟨a0, b0, rfl⟩ := hB.form
  refine AC.lbody hT hm Try.func25 f25_nm f25_lc f25_res f25_nt ?_
  simp only [go_sem, Int.reduceEq, Int.reduceLE, Int.reduceLT, Int.reduceToNat, Cf.c_mk]
  refine hc0.pv ⟨hK.cv, .v, trivial⟩ ?_
  have hin : isIn ks (Cf.mk 5 0 [x, y]).kind = ks.contains 5 := rfl
  rw [hin]
  clear hin
  cases hc : ks.contains 5 with
  | true =>
    simp only [go_sem, Int.reduceEq, Int.reduceLE, Int.reduceLT, Int.reduceToNat, Cf.c_mk, Cf.cs_eq, Int.reduceBEq, hq]
    refine ⟨_, wrByteG g.c pageN l 40 R _ hB (by omega), ?_⟩
    rintro _ om1 hw
    obtain ⟨rfl, R1, h1⟩ := hw.bS
    obtain ⟨a1, b1, rfl⟩ := h1.form
    obtain ⟨l1, e1⟩ : ∃ B, B = l ++ [40] := ⟨_, rfl⟩
    have L1 : l1.length = l.length + 1 := by rw [e1, List.length_append]; try rfl
    rw [← e1] at h1
    simp only [go_sem, Int.reduceEq, Int.reduceLE, Int.reduceLT, Int.reduceToNat, Cf.c_mk, Cf.cs_eq, Int.reduceBEq, Cf.c_take, hq]
    refine ⟨_, ihx (Ks [5]) [5] l1 R1 _ (.inl rfl) (by simp) h1 (by omega), ?_⟩
    rintro _ om2 ⟨rfl, R2, h2⟩
    obtain ⟨a2, b2, rfl⟩ := h2.form
    obtain ⟨l2, e2⟩ : ∃ B, B = l1 ++ (brk (isIn [5] x.kind) (x.tx g.kinds (g.defs.map (·.1)))) := ⟨_, rfl⟩
    have L2 : l2.length ≤ l1.length + 110 * x.sz := by rw [e2, List.length_append]; have := brk_lenC (isIn [5] x.kind) (x.tx g.kinds (g.defs.map (·.1))); omega
    rw [← e2] at h2
    simp only [go_sem, Int.reduceEq, Int.reduceLE, Int.reduceLT, Int.reduceToNat, Cf.c_mk, Cf.cs_eq, Int.reduceBEq, Cf.c_take, hq]
    refine ⟨_, wrStrG g.c pageN l2 [32, 124, 32] R2 _ h2 (by omega) (by simp), ?_⟩
    rintro _ om3 hw
    obtain ⟨rfl, R3, h3⟩ := hw.bS
    obtain ⟨a3, b3, rfl⟩ := h3.form
    obtain ⟨l3, e3⟩ : ∃ B, B = l2 ++ [32, 124, 32] := ⟨_, rfl⟩
    have L3 : l3.length = l2.length + 3 := by rw [e3, List.length_append]; try rfl
    rw [← e3] at h3
    simp only [go_sem, Int.reduceEq, Int.reduceLE, Int.reduceLT, Int.reduceToNat, Cf.c_mk, Cf.cs_eq, Int.reduceBEq, Cf.c_take, hq]
    refine ⟨_, ihy (.v (.slice none 0 0)) [] l3 R3 _ (.inr ⟨rfl, rfl⟩) (by simp) h3 (by omega), ?_⟩
    rintro _ om4 ⟨rfl, R4, h4⟩
    obtain ⟨a4, b4, rfl⟩ := h4.form
    obtain ⟨l4, e4⟩ : ∃ B, B = l3 ++ (brk (isIn [] y.kind) (y.tx g.kinds (g.defs.map (·.1)))) := ⟨_, rfl⟩
    have L4 : l4.length ≤ l3.length + 110 * y.sz := by rw [e4, List.length_append]; have := brk_lenC (isIn [] y.kind) (y.tx g.kinds (g.defs.map (·.1))); omega
    rw [← e4] at h4
    simp only [go_sem, Int.reduceEq, Int.reduceLE, Int.reduceLT, Int.reduceToNat, Cf.c_mk, Cf.cs_eq, Int.reduceBEq, Cf.c_take, hq]
    refine ⟨_, wrByteG g.c pageN l4 41 R4 _ h4 (by omega), ?_⟩
    rintro _ om5 hw
    obtain ⟨rfl, R5, h5⟩ := hw.bS
    obtain ⟨a5, b5, rfl⟩ := h5.form
    obtain ⟨l5, e5⟩ : ∃ B, B = l4 ++ [41] := ⟨_, rfl⟩
    have L5 : l5.length = l4.length + 1 := by rw [e5, List.length_append]; try rfl
    rw [← e5] at h5
    simp only [go_sem, Int.reduceEq, Int.reduceLE, Int.reduceLT, Int.reduceToNat, Cf.c_mk, Cf.cs_eq, Int.reduceBEq, Cf.c_take, hq]
    refine finSelf ⟨rfl, R5, ?_⟩
    have e : l ++ brk true ((Cf.mk 5 0 [x, y]).tx g.kinds (g.defs.map (·.1))) = l5 := by rw [e5, e4, e3, e2, e1, show isIn [] y.kind = false from rfl, brkF, Cf.tx_5, brkT]; try (simp only [List.append_assoc, List.cons_append, List.nil_append])
    rw [e]
    exact h5
  | false =>
    simp only [go_sem, Int.reduceEq, Int.reduceLE, Int.reduceLT, Int.reduceToNat, Cf.c_mk, Cf.cs_eq, Int.reduceBEq, hq]
    refine ⟨_, ihx (Ks [5]) [5] l R _ (.inl rfl) (by simp) hB (by omega), ?_⟩
    rintro _ om1 ⟨rfl, R1, h1⟩
    obtain ⟨a1, b1, rfl⟩ := h1.form
    obtain ⟨l1, e1⟩ : ∃ B, B = l ++ (brk (isIn [5] x.kind) (x.tx g.kinds (g.defs.map (·.1)))) := ⟨_, rfl⟩
    have L1 : l1.length ≤ l.length + 110 * x.sz := by rw [e1, List.length_append]; have := brk_lenC (isIn [5] x.kind) (x.tx g.kinds (g.defs.map (·.1))); omega
    rw [← e1] at h1
    simp only [go_sem, Int.reduceEq, Int.reduceLE, Int.reduceLT, Int.reduceToNat, Cf.c_mk, Cf.cs_eq, Int.reduceBEq, Cf.c_take, hq]
    refine ⟨_, wrStrG g.c pageN l1 [32, 124, 32] R1 _ h1 (by omega) (by simp), ?_⟩
    rintro _ om2 hw
    obtain ⟨rfl, R2, h2⟩ := hw.bS
    obtain ⟨a2, b2, rfl⟩ := h2.form
    obtain ⟨l2, e2⟩ : ∃ B, B = l1 ++ [32, 124, 32] := ⟨_, rfl⟩
    have L2 : l2.length = l1.length + 3 := by rw [e2, List.length_append]; try rfl
    rw [← e2] at h2
    simp only [go_sem, Int.reduceEq, Int.reduceLE, Int.reduceLT, Int.reduceToNat, Cf.c_mk, Cf.cs_eq, Int.reduceBEq, Cf.c_take, hq]
    refine ⟨_, ihy (.v (.slice none 0 0)) [] l2 R2 _ (.inr ⟨rfl, rfl⟩) (by simp) h2 (by omega), ?_⟩
    rintro _ om3 ⟨rfl, R3, h3⟩
    obtain ⟨a3, b3, rfl⟩ := h3.form
    obtain ⟨l3, e3⟩ : ∃ B, B = l2 ++ (brk (isIn [] y.kind) (y.tx g.kinds (g.defs.map (·.1)))) := ⟨_, rfl⟩
    have L3 : l3.length ≤ l2.length + 110 * y.sz := by rw [e3, List.length_append]; have := brk_lenC (isIn [] y.kind) (y.tx g.kinds (g.defs.map (·.1))); omega
    rw [← e3] at h3
    simp only [go_sem, Int.reduceEq, Int.reduceLE, Int.reduceLT, Int.reduceToNat, Cf.c_mk, Cf.cs_eq, Int.reduceBEq, Cf.c_take, hq]
    refine finSelf ⟨rfl, R3, ?_⟩
    have e : l ++ brk false ((Cf.mk 5 0 [x, y]).tx g.kinds (g.defs.map (·.1))) = l3 := by rw [e3, e2, e1, show isIn [] y.kind = false from rfl, brkF, Cf.tx_5, brkF]; try (simp only [List.append_assoc, List.cons_append, List.nil_append])
    rw [e]
    exact h3
theorem putAll (g : Gr) (hK : ∀ x ∈ g.kinds, x.size ≤ 100) (hN : ∀ x ∈ g.defs, x.1.size ≤ 100) (r : Cf) (hr : r.may g.kinds.length g.defs.length = true) : putC g r := by
  have hN' : ∀ x ∈ g.defs.map (·.1), x.size ≤ 100 := by
    intro x hx
    obtain ⟨y, hy, rfl⟩ := List.mem_map.1 hx
    exact hN y hy
  have ht := tx_len hK hN'
  rw [List.length_map] at ht
  refine may_cases (putC1 g) (putC2 g) (fun n hn => ?_) (fun n hn => ?_) (fun x y hx hy => putC4 g x y (ht x hx) (ht y hy)) (fun x y hx hy => putC5 g x y (ht x hx) (ht y hy)) r hr
  · have h := List.getElem?_eq_getElem hn
    exact putC3 g n _ h (hK _ (List.getElem_mem hn))
  · have hn' : n < (g.defs.map (·.1)).length := by simpa using hn
    have h := List.getElem?_eq_getElem hn'
    exact putC6 g n _ h (hN' _ (List.getElem_mem hn'))
end Go.Proofs.Ytdliolbjngcgcaa.W
set_option maxRecDepth 100000
/- A grammar's text. -/
namespace Go.Proofs.Ytdliolbjngcgcaa.W
open Go Go.Proofs Go.Proofs.Ytdliolbjngcgcaa.AWP
attribute [local irreducible] xl hide aop aops aopQ qops guardP condP
abbrev txC (l : List UInt8) : D := .s ⟨l.toArray⟩
theorem mayG_facts {g : Gr} (h : mayG g = true) : (∀ x ∈ g.kinds, x.size ≤ 30) ∧ (∀ x ∈ g.defs, x.1.size ≤ 30 ∧ x.2.may g.kinds.length g.defs.length = true) ∧ 1 ≤ g.kinds.length ∧ g.kinds.length ≤ 100 ∧ 1 ≤ g.defs.length ∧ g.defs.length ≤ 50 ∧ onceB (grNms g) = true ∧ grSz g.defs ≤ 2000 := by
  unfold mayG at h
  simp only [Bool.and_eq_true, decide_eq_true_eq] at h
  obtain ⟨⟨h1, h2, h3, h4, h5⟩, h6, h7⟩ := h
  have hn : ∀ x ∈ grNms g, x.size ≤ 30 := by
    intro x hx
    unfold onceB at h5
    rw [Bool.and_eq_true, List.all_eq_true] at h5
    have := h5.1 x hx
    unfold nameB at this
    simp only [Bool.and_eq_true, decide_eq_true_eq] at this
    exact this.2.2
  refine ⟨fun x hx => hn x (List.mem_append.2 (.inl hx)), fun x hx => ⟨hn _ (List.mem_append.2 (.inr (List.mem_map.2 ⟨x, hx, rfl⟩))), ?_⟩, h1, h2, h3, h4, h5, h7⟩
  unfold defsOk at h6
  exact List.all_eq_true.1 h6 x hx
abbrev gNm (g : Gr) : List ByteArray := g.defs.map (·.1)
/-- A definition's line. -/
def dfL (g : Gr) (x : Df) : List UInt8 := x.1.data.toList ++ 32 :: 61 :: 32 :: (x.2.tx g.kinds (gNm g) ++ [10])
def dfT (g : Gr) : List Df → List UInt8
  | [] => []
  | x :: l => dfL g x ++ dfT g l
theorem dfT_app (g : Gr) : ∀ (a b : List Df), dfT g (a ++ b) = dfT g a ++ dfT g b
  | [], b => rfl
  | x :: a, b => by rw [List.cons_append, dfT, dfT, dfT_app g a b, List.append_assoc]
theorem dfT_at (g : Gr) {l : List Df} {i : Nat} {x : Df} (h : l[i]? = some x) : dfT g (l.take (i + 1)) = dfT g (l.take i) ++ dfL g x := by
  rw [List.take_add_one, h, dfT_app]; simp [dfT]
theorem dfT_len (g : Gr) : ∀ (l : List Df), (∀ x ∈ l, x.1.size ≤ 30 ∧ (x.2.tx g.kinds (gNm g)).length + 4 ≤ 110 * x.2.sz) → (dfT g l).length ≤ l.length * 40 + 110 * grSz l
  | [], _ => by simp [dfT]
  | x :: l, h => by
    have h1 := h x (by simp)
    have h2 := dfT_len g l fun y hy => h y (by simp [hy])
    have h4 : x.1.data.toList.length = x.1.size := Array.length_toList
    have h5 : grSz (x :: l) = x.2.sz + grSz l := by unfold grSz; rw [List.map_cons, Cf.szs_cons]
    rw [dfT, List.length_append, h5, List.length_cons, Nat.add_mul]
    unfold dfL
    simp only [List.length_append, List.length_cons, List.length_nil]
    omega
/-- A grammar's text, or an error. -/
def prC (g : Gr) : List UInt8 × Int :=
  if mayG g = false then ([], 1) else if 65536 < (dfT g g.defs).length then ([], 3) else (dfT g g.defs, 0)
abbrev prCD (x : List UInt8 × Int) : D := .tup [txC x.1, .i x.2]
set_option maxHeartbeats 8000000 in
theorem cPrint (g : Gr) (hg : GFit g) : AP Try.prog 15 [.agg g.c] (prCD (prC g)) := by
  have hq := pelG g
  have hM := cMayG g hg
  have hqd : ∀ om (F : Nat → Bool) (kk : List (Option Nat)), Cv om F kk (Defs g.defs) (Defs g.defs) := fun om F kk => .same (Defs_bl _)
  unfold prC
  refine AC.lbody hT hm Try.func15 f15_nm f15_lc f15_res f15_nt ?_
  simp only [go_sem, Int.reduceEq, Int.reduceLE, Int.reduceLT, Int.reduceToNat, gr_take, gr_c_len]
  refine hM.pv ⟨.same (Gr.d_bl g), trivial⟩ ?_
  cases hmay : mayG g with
  | false =>
    rw [if_pos rfl]
    simp only [go_sem, Int.reduceEq, Int.reduceLE, Int.reduceLT, Int.reduceToNat, Bool.not_false]
    exact Fin.ret (.tupL (by simp))
  | true =>
  rw [if_neg (by simp)]
  obtain ⟨hkz, hdz, hk1, hk2, hd1, hd2, hon, hsz⟩ := mayG_facts hmay
  have hpall : ∀ x ∈ g.defs, putC g x.2 := fun x hx => putAll g (fun y hy => by have := hkz y hy; omega) (fun y hy => by have := (hdz y hy).1; omega) x.2 (hdz x hx).2
  have htx : ∀ x ∈ g.defs, (x.2.tx g.kinds (gNm g)).length + 4 ≤ 110 * x.2.sz := fun x hx => by
    refine tx_len (fun y hy => by have := hkz y hy; omega) (fun y hy => ?_) x.2 (by rw [List.length_map]; exact (hdz x hx).2)
    obtain ⟨z, hz, rfl⟩ := List.mem_map.1 hy
    have := (hdz z hz).1; omega
  have hbd : ∀ i, (dfT g (g.defs.take i)).length ≤ 1000000 := fun i => by
    have h1 := dfT_len g (g.defs.take i) fun x hx => ⟨(hdz x (List.mem_of_mem_take hx)).1, htx x (List.mem_of_mem_take hx)⟩
    have h2 := grSz_le g.defs i
    have h3 : (g.defs.take i).length ≤ 50 := by rw [List.length_take]; omega
    have h4 : (g.defs.take i).length * 40 ≤ 50 * 40 := Nat.mul_le_mul_right _ h3
    omega
  simp only [go_sem, Int.reduceEq, Int.reduceLE, Int.reduceLT, Int.reduceToNat, Bool.not_true, List.length_map, gr_take, gr_c_len]
  refine xl_loopM hT hm (fun i : Nat × List Ob × List Ob => ⟨f15_i11 (.ref 0 0) (Defs g.defs) (.i g.defs.length) (.i i.1), i.2.2⟩)
    (fun i => i.1 ≤ g.defs.length ∧ bS PGC g.c (dfT g (g.defs.take i.1)) i.2.1 i.2.2) (fun i => g.defs.length - i.1) (0, [], _) ⟨Nat.zero_le _, .inl ⟨rfl, rfl⟩⟩ (Mv.keep (by simp [f15_i11])) ?_
  rintro ⟨i, R, om⟩ ⟨hi, hB⟩
  simp only at hi hB
  obtain ⟨a0, b0, rfl⟩ := hB.form
  simp only [go_sem, Int.reduceEq, Int.reduceLE, Int.reduceLT, Int.reduceToNat, List.length_map]
  by_cases h : i < g.defs.length
  case neg =>
    have ht : g.defs.take i = g.defs := List.take_of_length_le (by omega)
    rw [ht] at hB
    simp only [go_sem, Int.reduceEq, Int.reduceLE, Int.reduceLT, Int.reduceToNat, h]
    refine ⟨_, lenG g.c _ R _ hB, ?_⟩
    rintro _ _ ⟨rfl, rfl⟩
    by_cases hlen : 65536 < (dfT g g.defs).length
    · rw [if_pos hlen]
      have hlen' : (65536 : Int) < ((dfT g g.defs).length : Nat) := by omega
      simp only [go_sem, Int.reduceEq, Int.reduceLE, Int.reduceLT, Int.reduceToNat, hlen']
      exact Fin.ret (.tupL (by simp))
    · rw [if_neg hlen]
      have hlen' : ¬ (65536 : Int) < ((dfT g g.defs).length : Nat) := by omega
      simp only [go_sem, Int.reduceEq, Int.reduceLE, Int.reduceLT, Int.reduceToNat, hlen']
      refine ⟨_, strOfG g.c _ R _ hB ?_, ?_⟩
      · obtain ⟨x, l', hx⟩ : ∃ x l', g.defs = x :: l' := by
          cases hd : g.defs with
          | nil => rw [hd] at hd1; simp at hd1
          | cons x l' => exact ⟨x, l', rfl⟩
        rw [hx, dfT]
        intro h
        have := (List.append_eq_nil_iff.1 h).1
        unfold dfL at this
        simp at this
      rintro _ om' rfl
      simp only [go_sem, Int.reduceEq, Int.reduceLE, Int.reduceLT, Int.reduceToNat]
      exact Fin.ret (.tupL ⟨.v, .v, trivial⟩)
  obtain ⟨x, hx⟩ := get_ex h
  have hmx := List.mem_of_getElem? hx
  have hwi := wrap_succ i (by omega)
  have hbi := hbd i
  have hxz := (hdz x hmx).1
  have hsz1 : x.2.sz ≤ 2000 := by have := grSz_mem hmx; omega
  have hs1 : x.1.size ≤ 9223372036854775804 := by omega
  have hs2 : x.1.size + 3 ≤ 9223372036854775807 := by omega
  have hP := hpall x hmx
  have hdl : x.1.data.toList.length = x.1.size := Array.length_toList
  have e1 : x.1 ++ ⟨#[32, 61, 32]⟩ = (⟨(x.1.data.toList ++ [32, 61, 32]).toArray⟩ : ByteArray) := by
    refine ByteArray.ext ?_
    simp [ByteArray.data_append]
  simp only [go_sem, Int.reduceEq, Int.reduceLE, Int.reduceLT, Int.reduceToNat, List.length_map, h, hx, df_0, df_len, df_take, df_put, df_drop, get_con, set_con, hs1, hs2, e1]
  have hB' : bS PGC g.c (dfT g (g.defs.take i)) (R ++ [.var 40 (dfC x)]) (.var PGC (a0 :: b0 :: g.c) :: (R ++ [.var 40 (dfC x)])) := by
    rcases hB with ⟨h1, h2⟩ | ⟨j, h1, h2⟩
    · injection h2 with h2 _; injection h2 with _ h2; injection h2 with h3 h4; injection h4 with h4 _; subst h3; subst h4
      exact .inl ⟨h1, rfl⟩
    · injection h2 with h2 _; injection h2 with _ h2; injection h2 with h3 h4; injection h4 with h4 _; subst h3; subst h4
      exact .inr ⟨j, by rw [List.getElem?_append_left (List.getElem?_eq_some_iff.1 h1).1]; exact h1, rfl⟩
  refine ⟨_, wrStrG g.c pageN (dfT g (g.defs.take i)) (x.1.data.toList ++ [32, 61, 32]) _ _ hB' (by omega) (by simp only [List.length_append, List.length_cons, List.length_nil]; omega), ?_⟩
  intro o om' hw
  obtain ⟨rfl, R1, r1, r2, rfl⟩ := hw
  have hR1 : R1[R.length]? = some (.var 40 (dfC x)) := (r2 R.length _ (by simp)).resolve_left (by rintro ⟨l, hl⟩; cases hl)
  have hR1l : R.length < R1.length := (List.getElem?_eq_some_iff.1 hR1).1
  have hget : (R1 ++ [byOb (dfT g (g.defs.take i) ++ (x.1.data.toList ++ [32, 61, 32]))])[R.length]? = some (.var 40 (dfC x)) := by rw [List.getElem?_append_left hR1l]; exact hR1
  have hB2 : bS PGC g.c (dfT g (g.defs.take i) ++ (x.1.data.toList ++ [32, 61, 32])) (R1 ++ [byOb (dfT g (g.defs.take i) ++ (x.1.data.toList ++ [32, 61, 32]))]) (.var PGC (.ref 0 0 :: .own (R1.length + 1) :: g.c) :: (R1 ++ [byOb (dfT g (g.defs.take i) ++ (x.1.data.toList ++ [32, 61, 32]))])) := .inr ⟨R1.length, by simp, rfl⟩
  obtain ⟨B, hBq⟩ : ∃ B, B = dfT g (g.defs.take i) ++ (x.1.data.toList ++ [32, 61, 32]) := ⟨_, rfl⟩
  have hBl : B.length = (dfT g (g.defs.take i)).length + x.1.size + 3 := by rw [hBq]; simp only [List.length_append, List.length_cons, List.length_nil]; omega
  rw [← hBq] at hget hB2 ⊢
  clear r2 hR1
  generalize R1 ++ [byOb B] = R2 at hget hB2 ⊢
  simp only [go_sem, Int.reduceEq, Int.reduceLE, Int.reduceLT, Int.reduceToNat, hget, df_drop, df_len, Cf.c_take]
  refine ⟨_, hP (.v (.slice none 0 0)) [] B R2 _ (.inr ⟨rfl, rfl⟩) (by simp) hB2 (by omega), ?_⟩
  rintro _ om3 ⟨rfl, R3, h3⟩
  rw [show brk (isIn [] x.2.kind) (x.2.tx g.kinds (g.defs.map (·.1))) = x.2.tx g.kinds (gNm g) from rfl] at h3
  have htl := htx x hmx
  have hBl2 : (B ++ x.2.tx g.kinds (gNm g)).length ≤ 10000000 := by rw [List.length_append]; omega
  obtain ⟨a3, b3, rfl⟩ := h3.form
  simp only [go_sem, Int.reduceEq, Int.reduceLE, Int.reduceLT, Int.reduceToNat]
  refine ⟨_, wrByteG g.c pageN (B ++ x.2.tx g.kinds (gNm g)) 10 R3 _ h3 (by omega), ?_⟩
  rintro _ om4 hw
  obtain ⟨rfl, R4, h4⟩ := hw.bS
  obtain ⟨a4, b4, rfl⟩ := h4.form
  simp only [go_sem, Int.reduceEq, Int.reduceLE, Int.reduceLT, Int.reduceToNat, hwi]
  refine ⟨(i + 1, R4, _), ⟨h, ?_⟩, by dsimp only; omega, Mv.keep (by simp [f15_i11, hqd])⟩
  have e : dfT g (g.defs.take (i + 1)) = B ++ x.2.tx g.kinds (gNm g) ++ [10] := by rw [dfT_at g hx, hBq]; simp [dfL]
  dsimp only
  rw [e]
  exact h4
end Go.Proofs.Ytdliolbjngcgcaa.W
set_option maxRecDepth 100000
/- The document's example; the grammar of any text. -/
namespace Go.Proofs.Ytdliolbjngcgcaa.W
open Go Go.Proofs Go.Proofs.Ytdliolbjngcgcaa.AWP
attribute [local irreducible] xl hide aop aops aopQ qops guardP condP
def s21 : ByteArray := ⟨#[115, 32, 61, 32, 97, 32, 115, 32, 98, 32, 124, 32, 40, 41, 10]⟩
def k21 : List ByteArray := [⟨#[97]⟩, ⟨#[98]⟩]
theorem GFit_may {g : Gr} (h : mayG g = true) : GFit g := by
  obtain ⟨h1, h2, h3, h4, h5, h6, h7, h8⟩ := mayG_facts h
  refine ⟨by omega, by omega, by omega, fun x hx => ?_⟩
  rcases List.mem_append.1 hx with hx | hx
  · have := h1 x hx; omega
  · obtain ⟨y, hy, rfl⟩ := List.mem_map.1 hx
    have := (h2 y hy).1; omega
set_option maxHeartbeats 4000000 in
theorem awake21 : AP Try.prog 6 [] (.b true) := by
  have e1 : (readC s21 k21).2 = (0, 0) := by decide +kernel
  have e2 : prC (readC s21 k21).1 = (s21.data.toList, 0) := by decide +kernel
  have e3 : mayG (readC s21 k21).1 = true := by decide +kernel
  have hR := cReadA s21 k21 (by decide) (by decide)
  have hF := GFit_may e3
  have hP := cPrint _ hF
  rw [e2] at hP
  have hM := cMayS [(readC s21 k21).1] (by decide) (by simpa using hF)
  have e4 : [(readC s21 k21).1].all mayG = true := by simp [e3]
  rw [e4] at hM
  have hs : (⟨s21.data.toList.toArray⟩ : ByteArray) = s21 := by simp
  generalize readC s21 k21 = p at *
  obtain ⟨g, a, b⟩ := p
  cases e1
  have c1 : (((0 : Nat) : Int) == 0) = true := rfl
  have c2 : (s21.data.toList == [115, 32, 61, 32, 97, 32, 115, 32, 98, 32, 124, 32, 40, 41, 10]) = true := by decide
  have hk : Strs k21 = .sl 1 [[.s ⟨#[97]⟩], [.s ⟨#[98]⟩]] := rfl
  refine AC.lbody hT hm Try.func6 f6_nm f6_lc f6_res f6_nt ?_
  simp only [go_sem, Int.reduceEq, Int.reduceLE, Int.reduceLT, Int.reduceToNat]
  refine hR.pd ⟨.v, .same (Strs_bl k21), trivial⟩ (readCD_bl _) ?_
  simp only [go_sem, Int.reduceEq, Int.reduceLE, Int.reduceLT, Int.reduceToNat, gr_take, gr_c_len]
  dsimp only at hP hM
  refine hP.pd ⟨.same (Gr.d_bl g), trivial⟩ (.tup (by simp)) ?_
  have c3 : ((⟨s21.data.toList.toArray⟩ : ByteArray).data.toList == [115, 32, 61, 32, 97, 32, 115, 32, 98, 32, 124, 32, 40, 41, 10]) = true := by rw [hs]; exact c2
  simp only [go_sem, Int.reduceEq, Int.reduceLE, Int.reduceLT, Int.reduceToNat, c1, c2, c3, gr_take, gr_c_len]
  refine hM.pv ⟨.same (Grs_bl [g]), trivial⟩ ?_
  simp only [go_sem, Int.reduceEq, Int.reduceLE, Int.reduceLT, Int.reduceToNat]
  exact Fin.v rfl
end Go.Proofs.Ytdliolbjngcgcaa.W
set_option maxRecDepth 100000
/- The law: whether two expressions are the same; their nodes. -/
namespace Go.Proofs.Ytdliolbjngcgcaa.W
open Go Go.Proofs Go.Proofs.Ytdliolbjngcgcaa.AWP
attribute [local irreducible] xl hide aop aops aopQ qops guardP condP
end Go.Proofs.Ytdliolbjngcgcaa.W
set_option maxRecDepth 100000
/- Grammars and expressions as arguments, with their bulk. -/
namespace Go.Proofs.Ytdliolbjngcgcaa.W
open Go Go.Proofs Go.Proofs.Ytdliolbjngcgcaa.AWP Go.Proofs.Ytdliolbjngcgcaa
open Go.ChangeShapes Go.WideShapes Go.ChangeAt Go.RowKit
theorem cU8c : Try.prog.cellsOf 5 = 1 := by kernel_rfl
theorem cIntc : Try.prog.cellsOf 3 = 1 := by kernel_rfl
theorem cStrc : Try.prog.cellsOf 9 = 1 := by kernel_rfl
theorem cCfsc : Try.prog.cellsOf 28 = 1 := by kernel_rfl
theorem cCfc : Try.prog.cellsOf 30 = 3 := by kernel_rfl
theorem cfT : ∃ f0 f1 f2 : Field, Try.prog.underlying 30 = some (.struct #[f0, f1, f2]) ∧ (f0.type = 5 ∧ f0.offset = 0) ∧ (f1.type = 3 ∧ f1.offset = 1) ∧ (f2.type = 28 ∧ f2.offset = 1 + 1) :=
  ⟨_, _, _, Try.underlying30, ⟨rfl, rfl⟩, ⟨rfl, rfl⟩, ⟨rfl, rfl⟩⟩
theorem bulk_slice {H : Type} : ∀ (ds : List (DataW H)) (l : List Cf), ds.length = l.length → (∀ (i : Nat) (a : Cf) (d : DataW H), l[i]? = some a → ds[i]? = some d → a.sz ≤ Rows.uptoBulk d) → Cf.szs l ≤ Rows.uptoBulkAll ds
  | [], [], _, _ => by rw [Cf.szs_nil]; exact Nat.zero_le _
  | d :: ds, x :: l, hl, h => by
    have h1 := h 0 x d rfl rfl
    have h2 := bulk_slice ds l (by simpa using hl) fun i a e ha he => h (i + 1) a e (by simpa using ha) (by simpa using he)
    rw [Cf.szs_cons, Rows.uptoBulkAll]; omega
  | [], x :: l, hl, _ => by simp at hl
  | d :: ds, [], hl, _ => by simp at hl
theorem cf_readB {H : Type} {enc : TypeId × Value → H} {W : World} {sp : Nat → Bool} {hd : Bool} : ∀ (n : Nat) (cs : List Value) (x : DataW H × List MemPlace), DataW.trod enc Try.prog W 0 sp hd n 30 cs = some x → ∃ r : Cf, CellsL (envAt W) cs r.c ∧ r.sz ≤ Rows.uptoBulk x.1 := by
  intro n
  induction n using Nat.strongRecOn with
  | _ n ih =>
    intro cs x hx
    obtain ⟨k, m, l, d, d', d2, h1, h2, h3, h4, h5⟩ := struct3_read (c := fun k : Int => [D.v (.int .u8 k)]) (c' := fun k : Int => [D.v (.int .i64 k)]) (c2 := fun l : List Cf => [Cfs l]) (k0 := 1) (k1 := 1) (k2 := 1) cfT cU8c cIntc cCfsc cCfc (fun _ _ => True) (fun _ _ => True) (fun l d => Cf.szs l ≤ Rows.uptoBulk d)
      (fun m hm cs x hx => by obtain ⟨z, _, h, _⟩ := int_read Try.underlying5 hx; exact ⟨z, h, trivial⟩)
      (fun m hm cs x hx => by obtain ⟨z, _, h, _⟩ := int_read Try.underlying3 hx; exact ⟨z, h, trivial⟩)
      (fun m hm cs x hx => by
        obtain ⟨l, y, e1, e2, e3, e4⟩ := slice_read (c := Cf.c) (sz := 3) Try.underlying28 cCfc (by decide) Cf.c_len (fun r d => r.sz ≤ Rows.uptoBulk d) (n := m) (fun m' hm' cs x hx => ih m' (by omega) cs x hx) hx
        refine ⟨l, ?_, ?_⟩
        · rw [e1]
          refine CellsL.one e2 ?_
          show Rd _ (.sl 3 (Cf.cs l)) y
          rw [Cf.cs_eq]; exact e3
        · rcases e4 with ⟨rfl, _⟩ | ⟨ds, rest, e5, e6, e7⟩
          · rw [Cf.szs_nil]; exact Nat.zero_le _
          · have := bulk_slice ds l e6 e7
            rw [e5, Rows.uptoBulk]; omega) hx
    refine ⟨.mk k m l, by rw [Cf.c_mk]; exact h1, ?_⟩
    rw [h2, Cf.sz_mk, Rows.uptoBulk, Rows.uptoBulkAll, Rows.uptoBulkAll, Rows.uptoBulkAll, Rows.uptoBulkAll]
    omega
end Go.Proofs.Ytdliolbjngcgcaa.W
set_option maxRecDepth 100000
/- Readers of arguments: May grammars be, and an expression in one; their texts. -/
namespace Go.Proofs.Ytdliolbjngcgcaa.W
open Go Go.Proofs Go.Proofs.Ytdliolbjngcgcaa.AWP Go.Proofs.Ytdliolbjngcgcaa
open Go.ChangeShapes Go.WideShapes Go.ChangeAt Go.RowKit
theorem cDefc : Try.prog.cellsOf 40 = 4 := by kernel_rfl
theorem cStrsc : Try.prog.cellsOf 22 = 1 := by kernel_rfl
theorem cDefsc : Try.prog.cellsOf 23 = 1 := by kernel_rfl
theorem cGrc : Try.prog.cellsOf 25 = 2 := by kernel_rfl
theorem dfTy : ∃ f0 f1 : Field, Try.prog.underlying 40 = some (.struct #[f0, f1]) ∧ (f0.type = 9 ∧ f0.offset = 0) ∧ (f1.type = 30 ∧ f1.offset = 1) :=
  ⟨_, _, Try.underlying40, ⟨rfl, rfl⟩, ⟨rfl, rfl⟩⟩
theorem grTy : ∃ f0 f1 : Field, Try.prog.underlying 25 = some (.struct #[f0, f1]) ∧ (f0.type = 22 ∧ f0.offset = 0) ∧ (f1.type = 23 ∧ f1.offset = 1) :=
  ⟨_, _, Try.underlying25, ⟨rfl, rfl⟩, ⟨rfl, rfl⟩⟩
theorem bulk_mem {H : Type} : ∀ {ds : List (DataW H)} {d : DataW H}, d ∈ ds → Rows.uptoBulk d ≤ Rows.uptoBulkAll ds
  | e :: ds, d, h => by
    rw [Rows.uptoBulkAll]
    rcases List.mem_cons.1 h with rfl | h
    · omega
    · have := bulk_mem h; omega
section
variable {H : Type} {enc : TypeId × Value → H} {W : World} {sp : Nat → Bool} {hd : Bool}
theorem df_read {n : Nat} {cs : List Value} {x : DataW H × List MemPlace} (hx : DataW.trod enc Try.prog W 0 sp hd n 40 cs = some x) : ∃ r : Df, CellsL (envAt W) cs (dfC r) ∧ r.2.sz ≤ Rows.uptoBulk x.1 := by
  obtain ⟨s, r, d, d', h1, h2, _, h4⟩ := struct2_read (c := fun s : ByteArray => [D.s s]) (c' := Cf.c) (k0 := 1) (k1 := 3) dfTy cStrc cCfc cDefc (fun _ _ => True) (fun r d => r.sz ≤ Rows.uptoBulk d)
    (fun m hm cs x hx => by obtain ⟨s, h, _⟩ := str_read Try.underlying9 hx; exact ⟨s, h, trivial⟩)
    (fun m hm cs x hx => cf_readB m cs x hx) hx
  refine ⟨(s, r), h1, ?_⟩
  rw [h2, Rows.uptoBulk, Rows.uptoBulkAll, Rows.uptoBulkAll, Rows.uptoBulkAll]
  dsimp only
  omega
theorem gr_read {n : Nat} {cs : List Value} {x : DataW H × List MemPlace} (hx : DataW.trod enc Try.prog W 0 sp hd n 25 cs = some x) : ∃ g : Gr, CellsL (envAt W) cs g.c ∧ ∀ y ∈ g.defs, y.2.sz ≤ Rows.uptoBulk x.1 := by
  obtain ⟨ks, dl, d, d', h1, h2, _, h4⟩ := struct2_read (c := fun l : List ByteArray => [Strs l]) (c' := fun l : List Df => [Defs l]) (k0 := 1) (k1 := 1) grTy cStrsc cDefsc cGrc (fun _ _ => True) (fun l d => ∀ y ∈ l, y.2.sz ≤ Rows.uptoBulk d)
    (fun m hm cs x hx => by
      obtain ⟨l, y, e1, e2, e3, _⟩ := slice_read (c := fun s : ByteArray => [D.s s]) (sz := 1) Try.underlying22 cStrc (by decide) (fun _ => rfl) (fun _ _ => True) (fun m hm cs x hx => by
        obtain ⟨s, h, _⟩ := str_read Try.underlying9 hx; exact ⟨s, h, trivial⟩) hx
      exact ⟨l, by rw [e1]; exact CellsL.one e2 e3, trivial⟩)
    (fun m hm cs x hx => by
      obtain ⟨l, y, e1, e2, e3, e4⟩ := slice_read (c := dfC) (sz := 4) Try.underlying23 cDefc (by decide) df_len (fun r d => r.2.sz ≤ Rows.uptoBulk d) (fun m' hm' cs x hx => df_read hx) hx
      refine ⟨l, by rw [e1]; exact CellsL.one e2 e3, fun z hz => ?_⟩
      rcases e4 with ⟨rfl, _⟩ | ⟨ds, rest, e5, e6, e7⟩
      · cases hz
      · obtain ⟨j, hj⟩ := List.getElem?_of_mem hz
        have hjl : j < ds.length := by rw [e6]; exact (List.getElem?_eq_some_iff.1 hj).1
        have h8 := e7 j z _ hj (List.getElem?_eq_getElem hjl)
        have h9 := bulk_mem (List.getElem_mem hjl)
        rw [e5, Rows.uptoBulk]; omega) hx
  refine ⟨⟨ks, dl⟩, h1, fun y hy => ?_⟩
  have := h4 y hy
  rw [h2, Rows.uptoBulk, Rows.uptoBulkAll, Rows.uptoBulkAll, Rows.uptoBulkAll]
  omega
end
section
variable {H : Type} {enc : TypeId × Value → H} {W : World} {sp : Nat → Bool} {hd : Bool}
theorem gr_argB {v : Value} {d : DataW H} {p : List MemPlace} (h : DataW.Trod enc Try.prog W 0 sp hd 25 v d p) : ∃ g : Gr, Rd (envAt W) (.agg g.c) v ∧ ∀ y ∈ g.defs, y.2.sz ≤ Rows.uptoBulk d := by
  obtain ⟨n, hn⟩ := h
  obtain ⟨g, h1, h2⟩ := gr_read hn
  exact ⟨g, agg_arg (agg_of h1 (by simp)) h1, h2⟩
end
end Go.Proofs.Ytdliolbjngcgcaa.W
set_option maxRecDepth 100000
/- The expression of a text, in a grammar. -/
namespace Go.Proofs.Ytdliolbjngcgcaa.W
open Go Go.Proofs Go.Proofs.Ytdliolbjngcgcaa.AWP
attribute [local irreducible] xl hide aop aops aopQ qops guardP condP
abbrev zcf : Cf := .mk 0 0 []
/-- The expression of a text; a place; an error's number. -/
def oneW (x : Cf × Nat × Nat) : Cf × Nat × Nat := if x.2.2 = 0 ∧ 2000 < x.1.sz then (zcf, 0, 4) else x
def oneC (g : Gr) (s : ByteArray) : Cf × Nat × Nat :=
  if mayG g = false then (zcf, 0, 1)
  else if 65536 < s.size then (zcf, 0, 3)
  else oneW (wholeP g.kinds (gNm g) s)
theorem cvZf {om : List Ob} {F : Nat → Bool} {kk : List (Option Nat)} : Cv om F kk (.agg [.v (.int .u8 0), .v (.int .i64 0), .v (.slice Option.none 0 0)]) (.agg zcf.c) := by
  rw [Cf.c_mk, Cf.cs_eq]
  exact .aggL ⟨.v, .v, .nil, trivial⟩
theorem wholeSM (ks ds : List ByteArray) (s : ByteArray) (hs : s.size ≤ 65536) (hk : ks.length ≤ 1000000) (hd : ds.length ≤ 1000000) (fr bk : List Ob) : AC Try.prog 19 [.ref fr.length 0] (fr ++ [crOb ks ds s 0] ++ bk) (fun o om => ∃ om', (o = .ret (wcD (wholeP ks ds s)) ∧ ∃ k, om' = [crOb ks ds s k]) ∧ om = fr ++ om' ++ bk) := by
  refine (wholeK (ks := ks) (ds := ds) hs hk hd).shiftM rfl ?_ ?_ ?_ ?_
  · intro j d d' h1 h2
    match j with
    | 0 => cases h1; cases h2; exact .inr ⟨0, 0, rfl, rfl⟩
    | j + 1 => cases h1
  · intro j k off h
    match j with
    | 0 => cases h; exact Nat.zero_lt_one
    | j + 1 => cases h
  · intro o ho
    rw [List.mem_singleton.1 ho]
    exact crBl ks ds s 0
  · rintro o om' ⟨rfl, k, rfl⟩
    refine ⟨rfl, .tup ?_, fun x hx => ?_⟩
    · intro d hd
      simp only [List.mem_cons, List.not_mem_nil, or_false] at hd
      rcases hd with rfl | rfl | rfl
      · exact Cf.d_bl _
      · exact .v _
      · exact .v _
    · rw [List.mem_singleton.1 hx]
      exact crBl ks ds s k
theorem gd_set (env : List D) (i j : Nat) (v : D) : (env.set i v).getD j .any = if i = j ∧ i < env.length then v else env.getD j .any := by
  by_cases h : i = j
  · subst h
    by_cases h2 : i < env.length
    · rw [if_pos ⟨rfl, h2⟩]; exact getD_setS h2
    · rw [if_neg fun h => h2 h.2, List.set_eq_of_length_le (by omega)]
  · rw [if_neg fun h2 => h h2.1]; exact getD_setN h
/-- How the objects stand while a text is read: the reader, what is read. -/
def oneJ (ks ds : List ByteArray) (s : ByteArray) (w : Cf × Nat × Nat) (L : Nat → Bool) (x : St) : Prop :=
  ∃ k, (L 8 = false → k = 0) ∧ (L 8 = true → L 7 = true ∧ x.env.getD 29 .any = wcD w) ∧ (L 14 = true → L 13 = true) ∧
    ((L 7 = false ∧ L 13 = false ∧ x.om = [zCfOb]) ∨
     (L 7 = true ∧ L 13 = false ∧ x.om = [zCfOb, crOb ks ds s k] ∧ x.env.getD 28 .any = .ref 1 0) ∨
     (L 7 = false ∧ L 13 = true ∧ x.om = [zCfOb, .var 30 (if L 14 = true then w.1.c else zCf)] ∧ x.env.getD 7 .any = .ref 1 0) ∨
     (L 7 = true ∧ L 13 = true ∧ x.om = [zCfOb, crOb ks ds s k, .var 30 (if L 14 = true then w.1.c else zCf)] ∧ x.env.getD 28 .any = .ref 1 0 ∧ x.env.getD 7 .any = .ref 2 0) ∨
     (L 7 = true ∧ L 13 = true ∧ x.om = [zCfOb, .var 30 (if L 14 = true then w.1.c else zCf), crOb ks ds s k] ∧ x.env.getD 28 .any = .ref 2 0 ∧ x.env.getD 7 .any = .ref 1 0))
theorem oneJ_mono {ks ds : List ByteArray} {s : ByteArray} {w : Cf × Nat × Nat} {L L' : Nat → Bool} {e e' : List D} {om : List Ob} (h7 : L' 7 = L 7) (h8 : L' 8 = L 8) (h13 : L' 13 = L 13) (h14 : L' 14 = L 14) (e28 : e'.getD 28 .any = e.getD 28 .any) (e29 : e'.getD 29 .any = e.getD 29 .any) (e7 : e'.getD 7 .any = e.getD 7 .any)
    (h : oneJ ks ds s w L ⟨e, om⟩) : oneJ ks ds s w L' ⟨e', om⟩ := by
  unfold oneJ at h ⊢
  dsimp only at h ⊢
  rw [h7, h8, h13, h14, e28, e29, e7]
  exact h
def oneV (g : Gr) (s : ByteArray) (w : Cf × Nat × Nat) (i : Nat) : D :=
  ([.s s, .pel g.c, Strs g.kinds, .pel [Defs g.defs], Defs g.defs, Strs (gNm g), .agg [.s s, .i 0, Strs g.kinds, Strs (gNm g)], .any, .any, wcD w, .agg w.1.c, .i w.2.1, .i w.2.2, .any, .any, .i w.2.1, .i w.2.2] : List D).getD i .any
set_option maxHeartbeats 4000000 in
theorem cOne (g : Gr) (s : ByteArray) (hg : GFit g) : AP Try.prog 7 [.agg g.c, .s s] (wcD (oneC g s)) := by
  have hM := cMayG g hg
  have hN := cNames g.defs hg.defs
  unfold oneC
  refine AC.lbody hT hm Try.func7 f7_nm f7_lc f7_res f7_nt ?_
  simp only [go_sem, Int.reduceEq, Int.reduceLE, Int.reduceLT, Int.reduceToNat, gr_take, gr_c_len, List.length_map]
  refine hM.pv ⟨.same (Gr.d_bl g), trivial⟩ ?_
  cases hmay : mayG g with
  | false =>
    rw [if_pos rfl]
    simp only [go_sem, Int.reduceEq, Int.reduceLE, Int.reduceLT, Int.reduceToNat, Bool.not_false]
    exact Fin.ret (.tupL ⟨cvZf, .v, .v, trivial⟩)
  | true =>
  rw [if_neg (by simp)]
  by_cases h0 : 65536 < s.size
  · have h0' : (65536 : Int) < s.size := by omega
    rw [if_pos h0]
    simp only [go_sem, Int.reduceEq, Int.reduceLE, Int.reduceLT, Int.reduceToNat, h0', Bool.not_true]
    exact Fin.ret (.tupL ⟨cvZf, .v, .v, trivial⟩)
  have h0' : ¬ (65536 : Int) < s.size := by omega
  rw [if_neg h0]
  obtain ⟨hkz, hdz, hk1, hk2, hd1, hd2, hon, hsz⟩ := mayG_facts hmay
  have hW := wholeSK g.kinds (gNm g) s (by omega) (by omega) (by rw [List.length_map]; omega)
  have hgood := wholeP_good g.kinds (gNm g) s
  simp only [go_sem, Int.reduceEq, Int.reduceLE, Int.reduceLT, Int.reduceToNat, h0', Bool.not_true]
  have hW0 := wholeSM g.kinds (gNm g) s (by omega) (by omega) (by rw [List.length_map]; omega)
  generalize wholeP g.kinds (gNm g) s = w at hW hW0 hgood ⊢
  refine free_genJ (oneV g s w) [1, 2, 4] [7, 8, 13, 14] (oneJ g.kinds (gNm g) s w) (by rfl) ⟨0, fun _ => rfl, fun h => (by cases h), fun h => (by cases h), .inl ⟨rfl, rfl, rfl⟩⟩ ?_ ?_ ?_
  · intro L L' e e' om' hL he hJ
    exact oneJ_mono (hL 7 (by simp)) (hL 8 (by simp)) (hL 13 (by simp)) (hL 14 (by simp)) (he 7 (by simp) 28 rfl) (he 8 (by simp) 29 rfl) (he 13 (by simp) 7 rfl) hJ
  · intro i o hio L env' om' hlen hkeep hds hL hdep hJ K' hK1 hK2
    have k1 : env'.getD 1 .any = .s s := hkeep 1 (by simp)
    have k2 : env'.getD 2 .any = .pel g.c := hkeep 2 (by simp)
    have hlen' : env'.length = 45 := hlen
    have hi : i < 17 := (List.getElem?_eq_some_iff.1 hio).1
    match i, hi with
    | 0, _ =>
      cases hio
      simp only [go_sem, Int.reduceEq, Int.reduceLE, Int.reduceLT, Int.reduceToNat, evD_tmp, k1]
      exact hK1 rfl
    | 1, _ =>
      cases hio
      simp only [go_sem, Int.reduceEq, Int.reduceLE, Int.reduceLT, Int.reduceToNat, evD_tmp, k2]
      exact hK1 rfl
    | 2, _ =>
      cases hio
      have d := hdep 1 (by decide) rfl 22 rfl
      simp only [go_sem, Int.reduceEq, Int.reduceLE, Int.reduceLT, Int.reduceToNat, evD_tmp, d, oneV, List.getD_cons_succ, List.getD_cons_zero]
      exact hK1 rfl
    | 3, _ =>
      cases hio
      simp only [go_sem, Int.reduceEq, Int.reduceLE, Int.reduceLT, Int.reduceToNat, evD_tmp, k2]
      exact hK1 rfl
    | 4, _ =>
      cases hio
      have d := hdep 3 (by decide) rfl 24 rfl
      simp only [go_sem, Int.reduceEq, Int.reduceLE, Int.reduceLT, Int.reduceToNat, evD_tmp, d, oneV, List.getD_cons_succ, List.getD_cons_zero]
      exact hK1 rfl
    | 5, _ =>
      cases hio
      have d := hdep 4 (by decide) rfl 25 rfl
      simp only [go_sem, Int.reduceEq, Int.reduceLE, Int.reduceLT, Int.reduceToNat, evD_tmp, d, oneV, List.getD_cons_succ, List.getD_cons_zero]
      refine hN.pd ⟨.same (Defs_bl _), trivial⟩ (Strs_bl _) ?_
      simp only [go_sem, Int.reduceEq, Int.reduceLE, Int.reduceLT, Int.reduceToNat]
      exact hK1 rfl
    | 6, _ =>
      cases hio
      have d0 := hdep 0 (by decide) rfl 21 rfl
      have d2 := hdep 2 (by decide) rfl 23 rfl
      have d5 := hdep 5 (by decide) rfl 26 rfl
      simp only [go_sem, Int.reduceEq, Int.reduceLE, Int.reduceLT, Int.reduceToNat, evD_tmp, d0, d2, d5, oneV, List.getD_cons_succ, List.getD_cons_zero]
      exact hK1 rfl
    | 7, _ =>
      cases hio
      have d := hdep 6 (by decide) rfl 27 rfl
      simp only [go_sem, Int.reduceEq, Int.reduceLE, Int.reduceLT, Int.reduceToNat, evD_tmp, d, oneV, List.getD_cons_succ, List.getD_cons_zero]
      obtain ⟨k, j1, j2, j3, j⟩ := hJ
      have j8 : L 8 = true → False := fun h => by rw [(j2 h).1] at hL; cases hL
      dsimp only at j
      rcases j with ⟨a, b, rfl⟩ | ⟨a, _⟩ | ⟨a, b, rfl, c⟩ | ⟨a, _⟩ | ⟨a, _⟩
      · refine hK2 rfl _ (by simp [hlen']) (fun k hk => getD_setN fun e => hk (by rw [← e]; rfl)) ⟨0, fun _ => rfl, fun h => (j8 h).elim, j3, .inr (.inl ⟨rfl, b, rfl, getD_setS (by omega)⟩)⟩
      · rw [a] at hL; cases hL
      · refine hK2 rfl _ (by simp [hlen']) (fun k hk => getD_setN fun e => hk (by rw [← e]; rfl)) ⟨0, fun _ => rfl, fun h => (j8 h).elim, j3, .inr (.inr (.inr (.inr ⟨rfl, b, rfl, getD_setS (by omega), (getD_setN (by omega)).trans c⟩)))⟩
      · rw [a] at hL; cases hL
      · rw [a] at hL; cases hL
    | 8, _ =>
      cases hio
      have hL7 : L 7 = true := hds 7 (by decide)
      obtain ⟨k, j1, j2, j3, j⟩ := hJ
      have hk := j1 hL
      subst hk
      dsimp only at j
      rcases j with ⟨a, _⟩ | ⟨a, b, rfl, c⟩ | ⟨a, _⟩ | ⟨a, b, rfl, c, d⟩ | ⟨a, b, rfl, c, d⟩
      · rw [a] at hL7; cases hL7
      · simp only [go_sem, Int.reduceEq, Int.reduceLE, Int.reduceLT, Int.reduceToNat, evD_tmp, c]
        refine ⟨_, hW [_], ?_⟩
        rintro _ _ ⟨_, ⟨rfl, k, rfl⟩, rfl⟩
        simp only [go_sem, Int.reduceEq, Int.reduceLE, Int.reduceLT, Int.reduceToNat]
        refine hK2 rfl _ (by simp [hlen']) (fun k hk => getD_setN fun e => hk (by rw [← e]; rfl)) ⟨k, fun h => (by cases h), fun _ => ⟨a, getD_setS (by omega)⟩, j3, .inr (.inl ⟨a, b, rfl, (getD_setN (by omega)).trans c⟩)⟩
      · rw [a] at hL7; cases hL7
      · simp only [go_sem, Int.reduceEq, Int.reduceLE, Int.reduceLT, Int.reduceToNat, evD_tmp, c]
        refine ⟨_, hW0 [_] [_], ?_⟩
        rintro _ _ ⟨_, ⟨rfl, k, rfl⟩, rfl⟩
        simp only [go_sem, Int.reduceEq, Int.reduceLE, Int.reduceLT, Int.reduceToNat]
        refine hK2 rfl _ (by simp [hlen']) (fun k hk => getD_setN fun e => hk (by rw [← e]; rfl)) ⟨k, fun h => (by cases h), fun _ => ⟨a, getD_setS (by omega)⟩, j3, .inr (.inr (.inr (.inl ⟨a, b, rfl, (getD_setN (by omega)).trans c, (getD_setN (by omega)).trans d⟩)))⟩
      · simp only [go_sem, Int.reduceEq, Int.reduceLE, Int.reduceLT, Int.reduceToNat, evD_tmp, c]
        refine ⟨_, hW [_, _], ?_⟩
        rintro _ _ ⟨_, ⟨rfl, k, rfl⟩, rfl⟩
        simp only [go_sem, Int.reduceEq, Int.reduceLE, Int.reduceLT, Int.reduceToNat]
        refine hK2 rfl _ (by simp [hlen']) (fun k hk => getD_setN fun e => hk (by rw [← e]; rfl)) ⟨k, fun h => (by cases h), fun _ => ⟨a, getD_setS (by omega)⟩, j3, .inr (.inr (.inr (.inr ⟨a, b, rfl, (getD_setN (by omega)).trans c, (getD_setN (by omega)).trans d⟩)))⟩
    | 9, _ =>
      cases hio
      obtain ⟨k, j1, j2, j3, j⟩ := hJ
      have d := (j2 (hds 8 (by decide))).2
      dsimp only at d
      simp only [go_sem, Int.reduceEq, Int.reduceLE, Int.reduceLT, Int.reduceToNat, evD_tmp, d]
      exact hK1 rfl
    | 10, _ =>
      cases hio
      have d := hdep 9 (by decide) rfl 20 rfl
      simp only [go_sem, Int.reduceEq, Int.reduceLE, Int.reduceLT, Int.reduceToNat, evD_tmp, d, oneV, List.getD_cons_succ, List.getD_cons_zero]
      exact hK1 rfl
    | 11, _ =>
      cases hio
      have d := hdep 9 (by decide) rfl 20 rfl
      simp only [go_sem, Int.reduceEq, Int.reduceLE, Int.reduceLT, Int.reduceToNat, evD_tmp, d, oneV, List.getD_cons_succ, List.getD_cons_zero]
      exact hK1 rfl
    | 12, _ =>
      cases hio
      have d := hdep 9 (by decide) rfl 20 rfl
      simp only [go_sem, Int.reduceEq, Int.reduceLE, Int.reduceLT, Int.reduceToNat, evD_tmp, d, oneV, List.getD_cons_succ, List.getD_cons_zero]
      exact hK1 rfl
    | 13, _ =>
      cases hio
      simp only [go_sem, Int.reduceEq, Int.reduceLE, Int.reduceLT, Int.reduceToNat, evD_tmp]
      obtain ⟨k, j1, j2, j3, j⟩ := hJ
      have j14 : L 14 = false := by
        cases h : L 14 with
        | false => rfl
        | true => rw [j3 h] at hL; cases hL
      dsimp only at j
      rcases j with ⟨a, b, rfl⟩ | ⟨a, b, rfl, c⟩ | ⟨a, b, _⟩ | ⟨a, b, _⟩ | ⟨a, b, _⟩
      · refine hK2 rfl _ (by simp [hlen']) (fun k hk => getD_setN fun e => hk (by rw [← e]; rfl)) ⟨k, j1, fun h => ⟨(j2 h).1, (getD_setN (by omega)).trans (j2 h).2⟩, fun _ => rfl, .inr (.inr (.inl ⟨a, rfl, ?_, getD_setS (by omega)⟩))⟩
        show _ = [zCfOb, .var _ (if L 14 = true then w.1.c else zCf)]
        rw [j14]; rfl
      · refine hK2 rfl _ (by simp [hlen']) (fun k hk => getD_setN fun e => hk (by rw [← e]; rfl)) ⟨k, j1, fun h => ⟨(j2 h).1, (getD_setN (by omega)).trans (j2 h).2⟩, fun _ => rfl, .inr (.inr (.inr (.inl ⟨a, rfl, ?_, (getD_setN (by omega)).trans c, getD_setS (by omega)⟩)))⟩
        show _ = [zCfOb, _, .var _ (if L 14 = true then w.1.c else zCf)]
        rw [j14]; rfl
      · rw [b] at hL; cases hL
      · rw [b] at hL; cases hL
      · rw [b] at hL; cases hL
    | 14, _ =>
      cases hio
      have hL7 : L 7 = true := hds 7 (by decide)
      have hL13 : L 13 = true := hds 13 (by decide)
      have d := hdep 10 (by decide) rfl 30 rfl
      obtain ⟨k, j1, j2, j3, j⟩ := hJ
      dsimp only at j
      rcases j with ⟨a, _⟩ | ⟨a, b, _⟩ | ⟨a, _⟩ | ⟨a, b, rfl, c, e⟩ | ⟨a, b, rfl, c, e⟩
      · rw [a] at hL7; cases hL7
      · rw [b] at hL13; cases hL13
      · rw [a] at hL7; cases hL7
      · simp only [go_sem, Int.reduceEq, Int.reduceLE, Int.reduceLT, Int.reduceToNat, evD_tmp, d, e, oneV, List.getD_cons_succ, List.getD_cons_zero, hL]
        refine hK2 rfl _ hlen' (fun k hk => rfl) ⟨k, j1, j2, fun _ => b, .inr (.inr (.inr (.inl ⟨a, b, ?_, c, e⟩)))⟩
        rfl
      · simp only [go_sem, Int.reduceEq, Int.reduceLE, Int.reduceLT, Int.reduceToNat, evD_tmp, d, e, oneV, List.getD_cons_succ, List.getD_cons_zero, hL]
        refine hK2 rfl _ hlen' (fun k hk => rfl) ⟨k, j1, j2, fun _ => b, .inr (.inr (.inr (.inr ⟨a, b, ?_, c, e⟩)))⟩
        rfl
    | 15, _ =>
      cases hio
      have d := hdep 11 (by decide) rfl 31 rfl
      simp only [go_sem, Int.reduceEq, Int.reduceLE, Int.reduceLT, Int.reduceToNat, evD_tmp, d, oneV, List.getD_cons_succ, List.getD_cons_zero]
      exact hK1 rfl
    | 16, _ =>
      cases hio
      have d := hdep 12 (by decide) rfl 32 rfl
      simp only [go_sem, Int.reduceEq, Int.reduceLE, Int.reduceLT, Int.reduceToNat, evD_tmp, d, oneV, List.getD_cons_succ, List.getD_cons_zero]
      exact hK1 rfl
    | i + 17, hi => exact absurd hi (by omega)
  · intro L env' om' hall hlen hkeep hV hJ
    have k4 : env'.getD 4 .any = .ref 0 0 := hkeep 4 (by simp)
    have k8 : env'.getD 8 .any = .i w.2.1 := hV 15 8 rfl rfl
    have k9 : env'.getD 9 .any = .i w.2.2 := hV 16 9 rfl rfl
    have hall' : ∀ i, i < 17 → L i = true := hall
    have h14 := hall' 14 (by omega)
    obtain ⟨k, j1, j2, j3, j⟩ := hJ
    have h7 := hall' 7 (by omega)
    have h13 := hall' 13 (by omega)
    unfold oneW
    dsimp only at j
    rw [h14, if_pos rfl] at j
    have hlen' : env'.length = 45 := hlen
    rcases j with ⟨a, _⟩ | ⟨a, b, _⟩ | ⟨a, _⟩ | ⟨a, b, rfl, c, e⟩ | ⟨a, b, rfl, c, e⟩
    · rw [a] at h7; cases h7
    · rw [b] at h13; cases h13
    · rw [a] at h7; cases h7
    · simp only [go_sem, Int.reduceEq, Int.reduceLE, Int.reduceLT, Int.reduceToNat, evD_tmp, gd_set, List.length_set, hlen', Nat.reduceLT, Nat.reduceEqDiff, and_true, and_self, false_and, if_true, if_false, e, k8, k9]
      by_cases he : w.2.2 = 0
      · have c0 : ((w.2.2 : Int) == 0) = true := by rw [he]; rfl
        have hS := cSize1 w.1 (by have := (hgood he).1; omega)
        simp only [go_sem, Int.reduceEq, Int.reduceLE, Int.reduceLT, Int.reduceToNat, evD_tmp, gd_set, List.length_set, hlen', Nat.reduceLT, Nat.reduceEqDiff, and_true, and_self, false_and, if_true, if_false, e, k4, k8, k9, c0, Cf.c_take]
        refine hS.pv ⟨.same (one_blC _), trivial⟩ ?_
        by_cases hz : 2000 < w.1.sz
        · have hz' : (2000 : Int) < w.1.sz := by omega
          simp only [go_sem, Int.reduceEq, Int.reduceLE, Int.reduceLT, Int.reduceToNat, evD_tmp, gd_set, List.length_set, hlen', Nat.reduceLT, Nat.reduceEqDiff, and_true, and_self, false_and, if_true, if_false, e, k4, k8, k9, hz', Cf.c_take]
          rw [if_pos ⟨he, hz⟩]
          exact Fin.ret (.tupL ⟨cvZf, .v, .v, trivial⟩)
        · have hz' : ¬ (2000 : Int) < w.1.sz := by omega
          simp only [go_sem, Int.reduceEq, Int.reduceLE, Int.reduceLT, Int.reduceToNat, evD_tmp, gd_set, List.length_set, hlen', Nat.reduceLT, Nat.reduceEqDiff, and_true, and_self, false_and, if_true, if_false, e, k4, k8, k9, hz', Cf.c_take]
          rw [if_neg fun h => hz h.2]
          exact Fin.ret (.tupL ⟨.same (Cf.d_bl _), .v, .v, trivial⟩)
      · have c0 : ((w.2.2 : Int) == 0) = false := by rw [beq_eq_false_iff_ne]; omega
        simp only [go_sem, Int.reduceEq, Int.reduceLE, Int.reduceLT, Int.reduceToNat, evD_tmp, gd_set, List.length_set, hlen', Nat.reduceLT, Nat.reduceEqDiff, and_true, and_self, false_and, if_true, if_false, e, k4, k8, k9, c0, Cf.c_take]
        rw [if_neg fun h => he h.1]
        exact Fin.ret (.tupL ⟨.same (Cf.d_bl _), .v, .v, trivial⟩)
    · simp only [go_sem, Int.reduceEq, Int.reduceLE, Int.reduceLT, Int.reduceToNat, evD_tmp, gd_set, List.length_set, hlen', Nat.reduceLT, Nat.reduceEqDiff, and_true, and_self, false_and, if_true, if_false, e, k8, k9]
      by_cases he : w.2.2 = 0
      · have c0 : ((w.2.2 : Int) == 0) = true := by rw [he]; rfl
        have hS := cSize1 w.1 (by have := (hgood he).1; omega)
        simp only [go_sem, Int.reduceEq, Int.reduceLE, Int.reduceLT, Int.reduceToNat, evD_tmp, gd_set, List.length_set, hlen', Nat.reduceLT, Nat.reduceEqDiff, and_true, and_self, false_and, if_true, if_false, e, k4, k8, k9, c0, Cf.c_take]
        refine hS.pv ⟨.same (one_blC _), trivial⟩ ?_
        by_cases hz : 2000 < w.1.sz
        · have hz' : (2000 : Int) < w.1.sz := by omega
          simp only [go_sem, Int.reduceEq, Int.reduceLE, Int.reduceLT, Int.reduceToNat, evD_tmp, gd_set, List.length_set, hlen', Nat.reduceLT, Nat.reduceEqDiff, and_true, and_self, false_and, if_true, if_false, e, k4, k8, k9, hz', Cf.c_take]
          rw [if_pos ⟨he, hz⟩]
          exact Fin.ret (.tupL ⟨cvZf, .v, .v, trivial⟩)
        · have hz' : ¬ (2000 : Int) < w.1.sz := by omega
          simp only [go_sem, Int.reduceEq, Int.reduceLE, Int.reduceLT, Int.reduceToNat, evD_tmp, gd_set, List.length_set, hlen', Nat.reduceLT, Nat.reduceEqDiff, and_true, and_self, false_and, if_true, if_false, e, k4, k8, k9, hz', Cf.c_take]
          rw [if_neg fun h => hz h.2]
          exact Fin.ret (.tupL ⟨.same (Cf.d_bl _), .v, .v, trivial⟩)
      · have c0 : ((w.2.2 : Int) == 0) = false := by rw [beq_eq_false_iff_ne]; omega
        simp only [go_sem, Int.reduceEq, Int.reduceLE, Int.reduceLT, Int.reduceToNat, evD_tmp, gd_set, List.length_set, hlen', Nat.reduceLT, Nat.reduceEqDiff, and_true, and_self, false_and, if_true, if_false, e, k4, k8, k9, c0, Cf.c_take]
        rw [if_neg fun h => he h.1]
        exact Fin.ret (.tupL ⟨.same (Cf.d_bl _), .v, .v, trivial⟩)
end Go.Proofs.Ytdliolbjngcgcaa.W
set_option maxRecDepth 100000
/- Too great grammars. -/
namespace Go.Proofs.Ytdliolbjngcgcaa.W
open Go Go.Proofs Go.Proofs.Ytdliolbjngcgcaa.AWP
attribute [local irreducible] xl hide aop aops aopQ qops guardP condP
def greatD (x : Df) : Bool := decide (100 < x.1.size) || decide (60 < x.2.cnt 60)
def greatB (g : Gr) : Bool := decide (12 < g.kinds.length) || (decide (12 < g.defs.length) || ((g.kinds.any fun x => decide (100 < x.size)) || g.defs.any greatD))
theorem any_drop {α : Type} {p : α → Bool} {l : List α} {i : Nat} {x : α} (h : l[i]? = some x) : (l.drop i).any p = (p x || (l.drop (i + 1)).any p) := by rw [drop_get h, List.any_cons]
set_option maxHeartbeats 2000000 in
theorem rGreat (g : Gr) : AP Try.prog 5 [.agg g.c] (.b (greatB g)) := by
  have hq := pelG g
  unfold greatB
  refine AC.lbody hT hm Try.func5 f5_nm f5_lc f5_res f5_nt ?_
  simp only [go_sem, Int.reduceEq, Int.reduceLE, Int.reduceLT, Int.reduceToNat, List.length_map]
  by_cases h1 : 12 < g.kinds.length
  · have h1' : (12 : Int) < g.kinds.length := by omega
    simp only [go_sem, Int.reduceEq, Int.reduceLE, Int.reduceLT, Int.reduceToNat, h1', List.length_map]
    exact Fin.v (by rw [decide_eq_true h1, Bool.true_or])
  have h1' : ¬ (12 : Int) < g.kinds.length := by omega
  by_cases h2 : 12 < g.defs.length
  · have h2' : (12 : Int) < g.defs.length := by omega
    simp only [go_sem, Int.reduceEq, Int.reduceLE, Int.reduceLT, Int.reduceToNat, h1', h2', List.length_map]
    exact Fin.v (by rw [decide_eq_true h2, Bool.true_or, Bool.or_true])
  have h2' : ¬ (12 : Int) < g.defs.length := by omega
  rw [decide_eq_false h1, decide_eq_false h2, Bool.false_or, Bool.false_or]
  simp only [go_sem, Int.reduceEq, Int.reduceLE, Int.reduceLT, Int.reduceToNat, h1', h2', List.length_map]
  refine xl_loopM hT hm (fun i : Nat => ⟨f5_i9 (.pel g.c) (.i g.kinds.length) (.i i), []⟩)
    (fun i => i ≤ g.kinds.length ∧ (g.kinds.any fun x => decide (100 < x.size)) = (g.kinds.drop i).any fun x => decide (100 < x.size)) (fun i => g.kinds.length - i) 0 ⟨Nat.zero_le _, rfl⟩ (Mv.none (by simp only [f5_i9, CvL]; simp [hq])) ?_
  rintro i ⟨hi, hn⟩
  simp only [go_sem, Int.reduceEq, Int.reduceLE, Int.reduceLT, Int.reduceToNat, List.length_map]
  by_cases h : i < g.kinds.length
  · obtain ⟨x, hx⟩ := get_ex h
    have hwi := wrap_succ i (by omega)
    have hst := any_drop (p := fun x : ByteArray => decide (100 < x.size)) hx
    by_cases h3 : 100 < x.size
    · have h3' : (100 : Int) < x.size := by omega
      simp only [go_sem, Int.reduceEq, Int.reduceLE, Int.reduceLT, Int.reduceToNat, h, hx, str_get hx, h3', List.length_map]
      exact Fin.v (by rw [hn, hst, decide_eq_true h3, Bool.true_or, Bool.true_or])
    · have h3' : ¬ (100 : Int) < x.size := by omega
      simp only [go_sem, Int.reduceEq, Int.reduceLE, Int.reduceLT, Int.reduceToNat, h, hx, str_get hx, h3', List.length_map, hwi]
      exact ⟨i + 1, ⟨h, by rw [hn, hst, decide_eq_false h3, Bool.false_or]⟩, by omega, Mv.none (by simp only [CvL]; simp [hq])⟩
  have e1 : (g.kinds.any fun x => decide (100 < x.size)) = false := by rw [hn, drop_end h]; rfl
  rw [e1, Bool.false_or]
  simp only [go_sem, Int.reduceEq, Int.reduceLE, Int.reduceLT, Int.reduceToNat, h, List.length_map]
  clear h hi hn
  refine xl_loopM hT hm (fun i : Nat => ⟨f5_i16 (.pel g.c) (.i g.defs.length) (.i i), []⟩)
    (fun i => i ≤ g.defs.length ∧ g.defs.any greatD = (g.defs.drop i).any greatD) (fun i => g.defs.length - i) 0 ⟨Nat.zero_le _, rfl⟩ (Mv.none (by simp only [f5_i16, CvL]; simp [hq])) ?_
  rintro i ⟨hi, hn⟩
  simp only [go_sem, Int.reduceEq, Int.reduceLE, Int.reduceLT, Int.reduceToNat, List.length_map]
  by_cases h : i < g.defs.length
  · obtain ⟨x, hx⟩ := get_ex h
    have hwi := wrap_succ i (by omega)
    have hst := any_drop (p := greatD) hx
    by_cases h3 : 100 < x.1.size
    · have h3' : (100 : Int) < x.1.size := by omega
      simp only [go_sem, Int.reduceEq, Int.reduceLE, Int.reduceLT, Int.reduceToNat, h, hx, df_0, h3', List.length_map]
      exact Fin.v (by rw [hn, hst]; unfold greatD; rw [decide_eq_true h3, Bool.true_or, Bool.true_or])
    · have h3' : ¬ (100 : Int) < x.1.size := by omega
      simp only [go_sem, Int.reduceEq, Int.reduceLE, Int.reduceLT, Int.reduceToNat, h, hx, df_0, df_drop, df_len, h3', List.length_map, Cf.c_take]
      refine (rCount 60 x.2).pv ⟨.same (Cf.d_bl _), .v, trivial⟩ ?_
      by_cases h4 : 60 < x.2.cnt 60
      · simp only [go_sem, Int.reduceEq, Int.reduceLE, Int.reduceLT, Int.reduceToNat, h4]
        exact Fin.v (by rw [hn, hst]; unfold greatD; rw [decide_eq_true h4, Bool.or_true, Bool.true_or])
      · simp only [go_sem, Int.reduceEq, Int.reduceLE, Int.reduceLT, Int.reduceToNat, h4, hwi]
        exact ⟨i + 1, ⟨h, by rw [hn, hst]; unfold greatD; rw [decide_eq_false h3, decide_eq_false h4]; rfl⟩, by omega, Mv.none (by simp only [CvL]; simp [hq])⟩
  have e2 : g.defs.any greatD = false := by rw [hn, drop_end h]; rfl
  simp only [go_sem, Int.reduceEq, Int.reduceLE, Int.reduceLT, Int.reduceToNat, h, List.length_map]
  exact Fin.v (by rw [e2])
end Go.Proofs.Ytdliolbjngcgcaa.W
set_option maxRecDepth 100000
/- The law: may grammars be; their texts. -/
namespace Go.Proofs.Ytdliolbjngcgcaa.W
open Go Go.Proofs Go.Proofs.Ytdliolbjngcgcaa.AWP
attribute [local irreducible] xl hide aop aops aopQ qops guardP condP
/-- A grammar that is not too great. -/
theorem great_fit {g : Gr} (h : greatB g = false) (hz : ∀ x ∈ g.defs, x.2.sz ≤ 1099511627776) : GFit g ∧ g.kinds.length ≤ 12 ∧ g.defs.length ≤ 12 ∧ (∀ x ∈ g.kinds, x.size ≤ 100) ∧ (∀ x ∈ g.defs, x.1.size ≤ 100 ∧ x.2.sz ≤ 60) ∧ grSz g.defs ≤ 720 := by
  unfold greatB at h
  simp only [Bool.or_eq_false_iff, decide_eq_false_iff_not] at h
  obtain ⟨h1, h2, h3, h4⟩ := h
  have hk : ∀ x ∈ g.kinds, x.size ≤ 100 := by
    intro x hx
    have := List.any_eq_false.1 h3 x hx
    simp only [decide_eq_true_eq] at this
    omega
  have hd : ∀ x ∈ g.defs, x.1.size ≤ 100 ∧ x.2.sz ≤ 60 := by
    intro x hx
    have := List.any_eq_false.1 h4 x hx
    unfold greatD at this
    simp only [Bool.or_eq_true, decide_eq_true_eq, not_or] at this
    have hc := Cf.cnt_ok 60 x.2 (hz x hx)
    have := hc.1 (by omega)
    exact ⟨by omega, by omega⟩
  have hs := grSz_le_of fun x hx => (hd x hx).2
  have hs2 : g.defs.length * 60 ≤ 12 * 60 := Nat.mul_le_mul_right _ (by omega)
  refine ⟨⟨by omega, by omega, by omega, fun x hx => ?_⟩, by omega, by omega, hk, hd, by omega⟩
  rcases List.mem_append.1 hx with hx | hx
  · have := hk x hx; omega
  · obtain ⟨y, hy, rfl⟩ := List.mem_map.1 hx
    have := (hd y hy).1; omega
end Go.Proofs.Ytdliolbjngcgcaa.W
set_option maxRecDepth 100000
/- The law: a text in round brackets. -/
namespace Go.Proofs.Ytdliolbjngcgcaa.W
open Go Go.Proofs Go.Proofs.Ytdliolbjngcgcaa.AWP
attribute [local irreducible] xl hide aop aops aopQ qops guardP condP
theorem one_ok {g : Gr} {s : ByteArray} (h : (oneC g s).2.2 = 0) : mayG g = true ∧ s.size ≤ 65536 ∧ ∃ r : Cf, wholeP g.kinds (gNm g) s = (r, 0, 0) ∧ r.sz ≤ 2000 ∧ oneC g s = (r, 0, 0) := by
  unfold oneC at h ⊢
  split at h
  · cases h
  rename_i hm
  rw [if_neg hm]
  split at h
  · cases h
  rename_i hs
  rw [if_neg hs]
  unfold oneW at h ⊢
  split at h
  · cases h
  rename_i hw
  rw [if_neg hw]
  have hz : (wholeP g.kinds (gNm g) s).2.1 = 0 := by
    revert h
    unfold wholeP
    split
    · rename_i q e he
      have := (orF_bad _ _ (Nat.le_refl _) he).1
      intro h; dsimp only at h; omega
    · split
      · intro h; cases h
      · intro _; rfl
  refine ⟨by simpa using hm, by omega, (wholeP g.kinds (gNm g) s).1, ?_, by omega, ?_⟩
  · exact Prod.ext rfl (Prod.ext hz h)
  · exact Prod.ext rfl (Prod.ext hz h)
theorem one_brk {g : Gr} {s : ByteArray} (hs : s.size ≤ 200) {r : Cf} {p : Nat} (h : oneC g s = (r, p, 0)) : oneC g (brkS s) = (r, 0, 0) := by
  obtain ⟨h1, h2, r', h3, h4, h5⟩ := one_ok (g := g) (s := s) (by rw [h])
  rw [h] at h5
  have hr : r = r' := congrArg (fun x => x.1) h5
  subst hr
  have hz := brkS_size s
  unfold oneC
  rw [if_neg (by rw [h1]; simp), if_neg (by omega), whole_brk h3]
  unfold oneW
  rw [if_neg (by dsimp only; omega)]
theorem wcD_bl (x : Cf × Nat × Nat) : Bl 0 (wcD x) := .tup (by
  intro d hd
  simp only [List.mem_cons, List.not_mem_nil, or_false] at hd
  rcases hd with rfl | rfl | rfl
  · exact Cf.d_bl _
  · exact .v _
  · exact .v _)
theorem brk_cat (s : ByteArray) : (⟨#[32, 40, 32]⟩ : ByteArray) ++ s ++ ⟨#[32, 41, 32]⟩ = brkS s := by
  have e : s = ⟨s.data.toList.toArray⟩ := (ba_back s).symm
  rw [e]
  have h1 : (⟨#[32, 40, 32]⟩ : ByteArray) ++ ⟨s.data.toList.toArray⟩ = ⟨([32, 40, 32] ++ s.data.toList).toArray⟩ := ba_app [32, 40, 32] s.data.toList
  rw [h1]
  have h2 := ba_app ([32, 40, 32] ++ s.data.toList) [32, 41, 32]
  rw [List.append_assoc] at h2
  exact h2
set_option maxHeartbeats 4000000 in
theorem cfxRoundL (g : Gr) (s : ByteArray) (hg : ∀ x ∈ g.defs, x.2.sz ≤ 1099511627776) : AP Try.prog 3 [.agg g.c, .s s] (.b true) := by
  refine AC.lbody hT hm Try.func3 f3_nm f3_lc f3_res f3_nt ?_
  simp only [go_sem, Int.reduceEq, Int.reduceLE, Int.reduceLT, Int.reduceToNat, gr_take, gr_c_len]
  refine (rGreat g).pv ⟨.same (Gr.d_bl g), trivial⟩ ?_
  cases hgr : greatB g with
  | true =>
    simp only [go_sem, Int.reduceEq, Int.reduceLE, Int.reduceLT, Int.reduceToNat]
    refine awake21.pv (by simp) ?_
    simp only [go_sem, Int.reduceEq, Int.reduceLE, Int.reduceLT, Int.reduceToNat]
    exact Fin.v rfl
  | false =>
  obtain ⟨hF, hk, hd, hkz, hdz, hsz⟩ := great_fit hgr hg
  by_cases hs : 200 < s.size
  · have hs' : (200 : Int) < s.size := by omega
    simp only [go_sem, Int.reduceEq, Int.reduceLE, Int.reduceLT, Int.reduceToNat, hs']
    refine awake21.pv (by simp) ?_
    simp only [go_sem, Int.reduceEq, Int.reduceLE, Int.reduceLT, Int.reduceToNat]
    exact Fin.v rfl
  have hs' : ¬ (200 : Int) < s.size := by omega
  have hO := cOne g s hF
  have hO2 := cOne g (brkS s) hF
  have hB := @one_brk g s (by omega)
  rw [← brk_cat] at hO2
  simp only [go_sem, Int.reduceEq, Int.reduceLE, Int.reduceLT, Int.reduceToNat, hs', gr_take, gr_c_len]
  refine hO.pd ⟨.same (Gr.d_bl g), .v, trivial⟩ (wcD_bl _) ?_
  rw [brk_cat] at hO2
  generalize oneC g s = w at hB hO2
  obtain ⟨r, p, e⟩ := w
  by_cases he : e = 0
  case neg =>
    have c0 : ((e : Int) != 0) = true := by simp; omega
    simp only [go_sem, Int.reduceEq, Int.reduceLE, Int.reduceLT, Int.reduceToNat, c0, Cf.c_take, Cf.c_len, Cf.put0]
    refine awake21.pv (by simp) ?_
    simp only [go_sem, Int.reduceEq, Int.reduceLE, Int.reduceLT, Int.reduceToNat]
    exact Fin.v rfl
  subst he
  have c0 : (((0 : Nat) : Int) != 0) = false := rfl
  have c1 : (((0 : Nat) : Int) == 0) = true := rfl
  have hz1 : 3 + s.size ≤ 9223372036854775807 := by omega
  have hz3 : ((⟨#[32, 40, 32]⟩ : ByteArray) ++ s).size + 3 ≤ 9223372036854775807 := by
    rw [ByteArray.size_append]; show 3 + s.size + 3 ≤ _; omega
  have hz4 : 3 + s.size + 3 ≤ 9223372036854775807 := by omega
  have hz2 : ((⟨#[32, 40, 32]⟩ : ByteArray) ++ s).size + (⟨#[32, 41, 32]⟩ : ByteArray).size ≤ 9223372036854775807 := by
    rw [ByteArray.size_append]; show 3 + s.size + 3 ≤ _; omega
  have hB' := hB rfl
  rw [hB'] at hO2
  have hSm := rSame r r
  rw [Cf.same_refl] at hSm
  simp only [go_sem, Int.reduceEq, Int.reduceLE, Int.reduceLT, Int.reduceToNat, c0, Cf.c_take, Cf.c_len, Cf.put0, hz1, hz2, hz3, hz4, brk_cat, gr_take, gr_c_len]
  refine hO2.pd ⟨.same (Gr.d_bl g), .v, trivial⟩ (wcD_bl _) ?_
  simp only [go_sem, Int.reduceEq, Int.reduceLE, Int.reduceLT, Int.reduceToNat, c0, c1, Cf.c_take, Cf.c_len, Cf.put0]
  refine hSm.pv ⟨.same (Cf.d_bl _), .same (Cf.d_bl _), trivial⟩ ?_
  simp only [go_sem, Int.reduceEq, Int.reduceLE, Int.reduceLT, Int.reduceToNat]
  refine awake21.pv (by simp) ?_
  simp only [go_sem, Int.reduceEq, Int.reduceLE, Int.reduceLT, Int.reduceToNat]
  exact Fin.v rfl
end Go.Proofs.Ytdliolbjngcgcaa.W
