/- The lines of a trace: both; they are the same. -/
import Derived.Test.YtlejbkfefpfolaaGreatDoorDeriv
set_option linter.unusedVariables false
set_option linter.unusedSimpArgs false
set_option linter.unusedSectionVars false
set_option maxRecDepth 100000
namespace Go.Proofs.YtlejbkfefpfolaaGreatDoor.W
open Go Go.Proofs Go.Proofs.YtlejbkfefpfolaaGreatDoor.AWP
attribute [local irreducible] xl hide aop aops aopQ qops guardP condP
abbrev Strs (l : List ByteArray) : D := .sl 1 (l.map fun x => [.s x])
abbrev strOb (l : List ByteArray) : Ob := .slc 9 1 (l.map fun x => [.s x])
theorem strs_bl (l : List ByteArray) : ∀ r ∈ l.map (fun x => [D.s x]), ∀ d ∈ r, Bl 0 d := by
 intro r hr d hd
 obtain ⟨b, _, rfl⟩ := List.mem_map.1 hr
 rw [List.mem_singleton.1 hd]
 exact .v _
theorem Strs_bl (l : List ByteArray) : Bl 0 (Strs l) := .sl (strs_bl l)
def flg (b : Bool) : ByteArray := if b = true then ⟨#[49, 32]⟩ else ⟨#[48, 32]⟩
def lnT (x : Re) : ByteArray := flg x.nul ++ ⟨x.txt.toArray⟩
theorem flg_sz (b : Bool) : (flg b).size = 2 := by cases b <;> rfl
theorem ln_sz {x : Re} (hg : Gd x) : (⟨x.txt.toArray⟩ : ByteArray).size ≤ 1000000 := by
 obtain ⟨h1, h2⟩ := mayZ hg.1
 have := txt_len x h1
 show x.txt.toArray.size ≤ _
 rw [List.size_toArray]
 omega
abbrev lns (l : List Re) : List ByteArray := l.map lnT
abbrev lnD (x : List Re × Nat) : D := .tup [Strs (lns x.1), .i x.2]
theorem lnD_bl (x : List Re × Nat) : Bl 0 (lnD x) := .tup (by
 intro d hd
 simp only [List.mem_cons, List.not_mem_nil, or_false] at hd
 rcases hd with rfl | rfl
 ·exact Strs_bl _
 ·exact .v _)
theorem tFlag (b : Bool) : AP Tryz.prog 41 [.b b] (.s (flg b)) := by
 refine AC.lbody hT hm Tryz.func41 f41_nm f41_lc f41_res f41_nt ?_
 simp only [go_sem, Int.reduceEq, Int.reduceLE, Int.reduceLT, Int.reduceToNat]
 cases b
 ·simp only [go_sem, Int.reduceEq, Int.reduceLE, Int.reduceLT, Int.reduceToNat]
  exact Fin.v rfl
 ·simp only [go_sem, Int.reduceEq, Int.reduceLE, Int.reduceLT, Int.reduceToNat]
  exact Fin.v rfl
theorem rLine (b : Bool) (t : ByteArray) (ht : t.size ≤ 1000000) : AP Tryz.prog 42 [.b b, .s t] (.s (flg b ++ t)) := by
 have h2 : 2 + t.size ≤ 9223372036854775807 := by omega
 refine AC.lbody hT hm Tryz.func42 f42_nm f42_lc f42_res f42_nt ?_
 simp only [go_sem, Int.reduceEq, Int.reduceLE, Int.reduceLT, Int.reduceToNat]
 cases b
 ·simp only [go_sem, Int.reduceEq, Int.reduceLE, Int.reduceLT, Int.reduceToNat, h2]
  exact Fin.v rfl
 ·simp only [go_sem, Int.reduceEq, Int.reduceLE, Int.reduceLT, Int.reduceToNat, h2]
  exact Fin.v rfl
theorem sameL (l : List ByteArray) (hl : l.length ≤ 1000000) : AP Tryz.prog 25 [Strs l, Strs l] (.b true) := by
 have z1 : ((l.length : Int) != l.length) = false := bne_self_eq_false _
 have hq : ∀ om (ks : List (Option Nat)), Cv om (fun _ => true) ks (Strs l) (Strs l) := fun om ks => .same (Strs_bl l)
 refine AC.lbody hT hm Tryz.func25 f25_nm f25_lc f25_res f25_nt ?_
 simp only [go_sem, Int.reduceEq, Int.reduceLE, Int.reduceLT, Int.reduceToNat, List.length_map, z1]
 refine xl_loopM hT hm (fun i : Nat => ⟨f25_i9 (Strs l) (Strs l) (.i l.length) (.i i), []⟩)
  (fun i => i ≤ l.length) (fun i => l.length - i) 0 (Nat.zero_le _) (Mv.none (by simp [f25_i9, hq])) ?_
 intro i hi
 simp only [go_sem, Int.reduceEq, Int.reduceLE, Int.reduceLT, Int.reduceToNat, List.length_map]
 by_cases h : i < l.length
 case neg =>
  simp only [go_sem, Int.reduceEq, Int.reduceLE, Int.reduceLT, Int.reduceToNat, h]
  exact Fin.v rfl
 obtain ⟨x, hx⟩ := get_ex h
 have hg : (l.map fun x => [D.s x])[i]? = some [.s x] := by rw [List.getElem?_map, hx]; rfl
 have z2 : (x != x) = false := by cases x with | mk d => show (!(d == d)) = false; simp
 simp only [go_sem, Int.reduceEq, Int.reduceLE, Int.reduceLT, Int.reduceToNat, List.length_map, h, hg, z2]
 refine ⟨i + 1, h, by omega, ?_⟩
 rw [wrap_succ i (by omega)]
 exact Mv.none (by simp [hq])
set_option maxHeartbeats 1000000 in
theorem nSteps (r : Re) (hz : r.sz ≤ 1048576) (hw : r.wd) (s : ByteArray) (hs : s.size ≤ 1000) : AP Tryz.prog 23 [.agg r.c, .s s] (lnD (wlk r s)) := by
 have hW := nWalk r hz hw s hs
 have hok : (wlk r s).2 = 0 → Gd r ∧ (∀ j, j < s.size → ste r s j = 0) ∧ (wlk r s).1 = stts r s (s.size + 1) := fun h => by
  obtain ⟨a, b, c⟩ := wlk_ok h
  exact ⟨⟨a, hw⟩, b, by rw [c]⟩
 have hno : (wlk r s).2 ≠ 0 → (wlk r s).1 = [] := fun h => by
  unfold wlk at h ⊢
  split
  ·rename_i h1
   split
   ·rename_i h2; rw [if_pos h1, if_pos h2] at h; exact absurd rfl h
   ·rfl
  ·rfl
 generalize wlk r s = p at hW hok hno ⊢
 obtain ⟨l, e⟩ := p
 refine AC.lbody hT hm Tryz.func23 f23_nm f23_lc f23_res f23_nt ?_
 simp only [go_sem, Int.reduceEq, Int.reduceLE, Int.reduceLT, Int.reduceToNat]
 refine hW.pd ⟨.same (Re.d_bl _), .v, trivial⟩ (wkD_bl _) ?_
 by_cases he : e = 0
 case neg =>
  have z2 : (((e : Nat) : Int) != 0) = true := bne_true (by omega)
  have hl : l = [] := hno he
  subst hl
  simp only [go_sem, Int.reduceEq, Int.reduceLE, Int.reduceLT, Int.reduceToNat, z2]
  exact Fin.ret (.tupL ⟨.nil, .v, trivial⟩)
 subst he
 have z1 : (((0 : Nat) : Int) != 0) = false := rfl
 obtain ⟨hg, hst, hl⟩ := hok rfl
 simp only at hl
 have hln := stts_len r s (s.size + 1)
 have hget : ∀ i, i < s.size + 1 → (stts r s (s.size + 1))[i]? = some (stt r s i) := fun i hi => stts_get hi
 subst hl
 generalize stts r s (s.size + 1) = L at hln hget
 simp only [go_sem, Int.reduceEq, Int.reduceLE, Int.reduceLT, Int.reduceToNat, z1]
 refine xl_loopM hT hm (fun i : Nat => ⟨f23_i10 (.own 0) (Res L) (.i L.length) (.i i), [strOb (lns (L.take i))]⟩)
  (fun i => i ≤ s.size + 1) (fun i => s.size + 1 - i) 0 (Nat.zero_le _) ?_ ?_
 ·refine Mv.of [none] rfl ⟨.nil (by omega), trivial⟩ ?_
  simp [f23_i10]
 intro i hi
 simp only [go_sem, Int.reduceEq, Int.reduceLE, Int.reduceLT, Int.reduceToNat]
 by_cases h : i < L.length
 case neg =>
  have ht : L.take i = L := List.take_of_length_le (by omega)
  simp only [go_sem, Int.reduceEq, Int.reduceLE, Int.reduceLT, Int.reduceToNat, h]
  rw [ht]
  exact Fin.ret (.tupL ⟨.frzS rfl rfl (strs_bl _), .v, trivial⟩)
 rw [hln] at h
 have g1 := hget i h
 have gd := stt_gd hg s i fun j hj => hst j (by omega)
 have gz := (mayZ gd.1).2
 have hN := nullNull1 (stt r s i) (by omega)
 rw [show nulB (stt r s i) = (stt r s i).nul from by unfold nulB; rw [gd.1, Bool.true_and]] at hN
 have hX := showText (stt r s i) (by omega) gd.2
 rw [show shT (stt r s i) = (stt r s i).txt from by unfold shT; rw [if_pos gd.1]] at hX
 have hF := tFlag (stt r s i).nul
 have hp : lns (L.take (i + 1)) = lns (L.take i) ++ [lnT (stt r s i)] := by
  unfold lns
  rw [List.take_add_one, g1, List.map_append]; rfl
 have hsz : (flg (stt r s i).nul).size + (⟨(stt r s i).txt.toArray⟩ : ByteArray).size ≤ 9223372036854775807 := by
  have h1 := flg_sz (stt r s i).nul
  have h2 := ln_sz gd
  omega
 unfold lnT at hp
 have hll : (lns (L.take i)).length = i := by simp; omega
 generalize stt r s i = x at g1 hN hX hF hp hsz
 rw [← hln] at h
 have hw1 := wrap_succ i (by omega)
 simp only [go_sem, Int.reduceEq, Int.reduceLE, Int.reduceLT, Int.reduceToNat, h, g1, ne_eq, reduceCtorEq, not_false_eq_true, implies_true]
 refine hN.qv ⟨.same (one_bl x), trivial⟩ ?_
 simp only [go_sem, Int.reduceEq, Int.reduceLE, Int.reduceLT, Int.reduceToNat, ne_eq, reduceCtorEq, not_false_eq_true, implies_true]
 refine hF.qv ⟨.v, trivial⟩ ?_
 simp only [go_sem, Int.reduceEq, Int.reduceLE, Int.reduceLT, Int.reduceToNat, ne_eq, reduceCtorEq, not_false_eq_true, implies_true]
 refine hX.qv ⟨.same (Re.d_bl _), trivial⟩ ?_
 generalize flg x.nul = F at hsz hp hF ⊢
 generalize (⟨x.txt.toArray⟩ : ByteArray) = X at hsz hp ⊢
 simp only [go_sem, Int.reduceEq, Int.reduceLE, Int.reduceLT, Int.reduceToNat, hsz, List.length_map, ne_eq, reduceCtorEq, not_false_eq_true, implies_true]
 refine ⟨by rw [List.length_take]; omega, i + 1, by omega, by omega, ?_⟩
 rw [hw1, hp]
 exact Mv.of [some 2] rfl ⟨.slcS (by simp) (strs_bl _), trivial⟩ (by simp)
theorem wlk_all' {r : Re} (hw : r.wd) {s : ByteArray} (hs : s.size ≤ 1000) : (wlk r s).1.length ≤ 1001 ∧ ∀ (i : Nat) (x : Re), (wlk r s).1[i]? = some x → Gd x := by
 by_cases h : (wlk r s).2 = 0
 ·obtain ⟨a, b, c⟩ := wlk_ok h
  rw [c]
  refine ⟨by rw [stts_len]; omega, fun i x hx => ?_⟩
  have hi : i < s.size + 1 := by
   have := (List.getElem?_eq_some_iff.1 hx).1
   rwa [stts_len] at this
  have h2 : (stts r s (s.size + 1))[i]? = some x := hx
  rw [stts_get hi] at h2
  rw [← Option.some.inj h2]
  exact stt_gd ⟨a, hw⟩ s i fun j hj => b j (by omega)
 ·have : (wlk r s).1 = [] := by
   unfold wlk at h ⊢
   split
   ·rename_i h1
    split
    ·rename_i h2; rw [if_pos h1, if_pos h2] at h; exact absurd rfl h
    ·rfl
   ·rfl
  rw [this]
  exact ⟨Nat.zero_le _, fun i x hx => by simp at hx⟩
set_option maxHeartbeats 1000000 in
theorem rSteps (r : Re) (hz : r.sz ≤ 1048576) (hw : r.wd) (s : ByteArray) (hs : s.size ≤ 1000) : AP Tryz.prog 24 [.agg r.c, .s s] (lnD (wlk r s)) := by
 have hW := rWalk r hz hw s hs
 obtain ⟨hL, hall⟩ := wlk_all' hw hs
 generalize wlk r s = p at hW hL hall ⊢
 obtain ⟨L, e⟩ := p
 simp only at hL hall
 refine AC.lbody hT hm Tryz.func24 f24_nm f24_lc f24_res f24_nt ?_
 simp only [go_sem, Int.reduceEq, Int.reduceLE, Int.reduceLT, Int.reduceToNat]
 refine hW.pd ⟨.same (Re.d_bl _), .v, trivial⟩ (wkD_bl _) ?_
 simp only [go_sem, Int.reduceEq, Int.reduceLE, Int.reduceLT, Int.reduceToNat]
 refine xl_loopM hT hm (fun i : Nat => ⟨f24_i8 (.own 0) (Res L) (.i e) (.i L.length) (.i i), [strOb (lns (L.take i))]⟩)
  (fun i => i ≤ L.length) (fun i => L.length - i) 0 (Nat.zero_le _) ?_ ?_
 ·refine Mv.of [some 0] rfl ⟨.slcS rfl (strs_bl _), trivial⟩ ?_
  simp [f24_i8]
 intro i hi
 simp only [go_sem, Int.reduceEq, Int.reduceLE, Int.reduceLT, Int.reduceToNat]
 by_cases h : i < L.length
 case neg =>
  have ht : L.take i = L := List.take_of_length_le (by omega)
  simp only [go_sem, Int.reduceEq, Int.reduceLE, Int.reduceLT, Int.reduceToNat, h]
  rw [ht]
  exact Fin.ret (.tupL ⟨.frzS rfl rfl (strs_bl _), .v, trivial⟩)
 obtain ⟨x, g1⟩ := get_ex h
 have gd := hall i x g1
 obtain ⟨gok, gz⟩ := mayZ gd.1
 have hN := rNul x gok
 have hX := rOfT x gok gd.2 (by omega)
 have hF := rLine x.nul ⟨x.txt.toArray⟩ (ln_sz gd)
 have hp : lns (L.take (i + 1)) = lns (L.take i) ++ [lnT x] := by
  unfold lns
  rw [List.take_add_one, g1, List.map_append]; rfl
 unfold lnT at hp
 have hw1 := wrap_succ i (by omega)
 simp only [go_sem, Int.reduceEq, Int.reduceLE, Int.reduceLT, Int.reduceToNat, h, g1, ne_eq, reduceCtorEq, not_false_eq_true, implies_true]
 refine hN.qv ⟨.same (Re.d_bl _), trivial⟩ ?_
 simp only [go_sem, Int.reduceEq, Int.reduceLE, Int.reduceLT, Int.reduceToNat, g1, ne_eq, reduceCtorEq, not_false_eq_true, implies_true]
 refine hX.qv ⟨.same (Re.d_bl _), trivial⟩ ?_
 simp only [go_sem, Int.reduceEq, Int.reduceLE, Int.reduceLT, Int.reduceToNat, g1, ne_eq, reduceCtorEq, not_false_eq_true, implies_true]
 refine hF.qv ⟨.v, .v, trivial⟩ ?_
 simp only [go_sem, Int.reduceEq, Int.reduceLE, Int.reduceLT, Int.reduceToNat, List.length_map, ne_eq, reduceCtorEq, not_false_eq_true, implies_true]
 refine ⟨by rw [List.length_take]; omega, i + 1, by omega, by omega, ?_⟩
 rw [hw1, hp]
 exact Mv.of [some 1] rfl ⟨.slcS (by simp) (strs_bl _), trivial⟩ (by simp)
theorem awake26 : AP Tryz.prog 22 [] (.b true) := by
 have e1 : (pRead s9).2 = (0, 0) := by decide +kernel
 have e2 : (wlk (pRead s9).1 ⟨#[97]⟩).2 = 0 := by decide +kernel
 have e3 : (wlk (pRead s9).1 ⟨#[97]⟩).1.map (fun x => (x.nul, x.txt)) = [(true, [40, 97, 98, 41, 42]), (false, [98, 40, 97, 98, 41, 42])] := by decide +kernel
 have e4 : (pRead s9).1.sz ≤ 20 := by decide +kernel
 have hw := wdQ_ok (pRead s9).1 (by decide +kernel)
 have e5 : lns (wlk (pRead s9).1 ⟨#[97]⟩).1 = [⟨#[49, 32, 40, 97, 98, 41, 42]⟩, ⟨#[48, 32, 98, 40, 97, 98, 41, 42]⟩] := by
  have : lns (wlk (pRead s9).1 ⟨#[97]⟩).1 = ((wlk (pRead s9).1 ⟨#[97]⟩).1.map (fun x => (x.nul, x.txt))).map fun y => flg y.1 ++ ⟨y.2.toArray⟩ := by
   rw [List.map_map]; rfl
  rw [this, e3]
  decide +kernel
 have hR := readN s9
 have hW := nSteps (pRead s9).1 (by omega) hw ⟨#[97]⟩ (by decide)
 have hS := sameL [⟨#[49, 32, 40, 97, 98, 41, 42]⟩, ⟨#[48, 32, 98, 40, 97, 98, 41, 42]⟩] (by decide)
 unfold lnD at hW
 rw [e5, e2] at hW
 generalize pRead s9 = p at hR hW e1
 obtain ⟨r, a, b⟩ := p
 cases e1
 have c1 : (((0 : Nat) : Int) == 0) = true := rfl
 refine AC.lbody hT hm Tryz.func22 f22_nm f22_lc f22_res f22_nt ?_
 simp only [go_sem, Int.reduceEq, Int.reduceLE, Int.reduceLT, Int.reduceToNat]
 refine hR.pd ⟨.v, trivial⟩ (wdD_bl _) ?_
 simp only [go_sem, Int.reduceEq, Int.reduceLE, Int.reduceLT, Int.reduceToNat]
 refine hW.pd ⟨.same (Re.d_bl _), .v, trivial⟩ (.tup (by simp)) ?_
 simp only [go_sem, Int.reduceEq, Int.reduceLE, Int.reduceLT, Int.reduceToNat, c1]
 refine hS.pv ⟨.same (by simp), .same (by simp), trivial⟩ ?_
 simp only [go_sem, Int.reduceEq, Int.reduceLE, Int.reduceLT, Int.reduceToNat]
 exact Fin.v rfl
set_option maxHeartbeats 1000000 in
theorem traceSteps (r : Re) (s : ByteArray) (hz : r.sz ≤ 1048576) (hw : r.wd) : AP Tryz.prog 7 [.agg r.c, .s s] (.b true) := by
 have hG := great 40 r
 refine AC.lbody hT hm Tryz.func7 f7_nm f7_lc f7_res f7_nt ?_
 simp only [go_sem, Int.reduceEq, Int.reduceLE, Int.reduceLT, Int.reduceToNat]
 refine hG.pv ⟨.same (Re.d_bl _), .v, trivial⟩ ?_
 by_cases hg : 40 < r.cnt 40
 ·simp only [go_sem, Int.reduceEq, Int.reduceLE, Int.reduceLT, Int.reduceToNat, decL _ _ hg]
  refine awake26.pv trivial ?_
  simp only [go_sem, Int.reduceEq, Int.reduceLE, Int.reduceLT, Int.reduceToNat]
  exact Fin.v rfl
 simp only [go_sem, Int.reduceEq, Int.reduceLE, Int.reduceLT, Int.reduceToNat, decF _ _ hg]
 by_cases hs : (10 : Int) < s.size
 ·simp only [go_sem, Int.reduceEq, Int.reduceLE, Int.reduceLT, Int.reduceToNat, hs]
  refine awake26.pv trivial ?_
  simp only [go_sem, Int.reduceEq, Int.reduceLE, Int.reduceLT, Int.reduceToNat]
  exact Fin.v rfl
 have hs' : s.size ≤ 1000 := by omega
 have h1 := nSteps r hz hw s hs'
 have h2 := rSteps r hz hw s hs'
 have h3 := sameL (lns (wlk r s).1) (by have := (wlk_all' hw hs').1; rw [List.length_map]; omega)
 generalize wlk r s = p at h1 h2 h3
 have c1 : ((p.2 : Int) == p.2) = true := beq_self_eq_true _
 simp only [go_sem, Int.reduceEq, Int.reduceLE, Int.reduceLT, Int.reduceToNat, hs]
 refine h1.pd ⟨.same (Re.d_bl _), .v, trivial⟩ (lnD_bl _) ?_
 simp only [go_sem, Int.reduceEq, Int.reduceLE, Int.reduceLT, Int.reduceToNat]
 refine h2.pd ⟨.same (Re.d_bl _), .v, trivial⟩ (lnD_bl _) ?_
 simp only [go_sem, Int.reduceEq, Int.reduceLE, Int.reduceLT, Int.reduceToNat, c1]
 refine h3.pv ⟨.same (Strs_bl _), .same (Strs_bl _), trivial⟩ ?_
 simp only [go_sem, Int.reduceEq, Int.reduceLE, Int.reduceLT, Int.reduceToNat]
 refine awake26.pv trivial ?_
 simp only [go_sem, Int.reduceEq, Int.reduceLE, Int.reduceLT, Int.reduceToNat]
 exact Fin.v rfl
end Go.Proofs.YtlejbkfefpfolaaGreatDoor.W
