/- The ends from a place on are those of the text from there on, as much further. -/
import Derived.Test.YteifkcgokjmcjaaMatchC
set_option linter.unusedVariables false
set_option linter.unusedSimpArgs false
set_option linter.unusedSectionVars false
set_option maxRecDepth 100000
/- The ends from a place on are those of the text from there on, as much further. -/
namespace Go.Proofs.Yteifkcgokjmcjaa.W
open Go Go.Proofs Go.Proofs.Yteifkcgokjmcjaa.AWP
attribute [local irreducible] xl hide aop aops aopQ qops guardP condP

theorem ints (l : List Nat) (hl : l.length ≤ 1000000) : AP Try.prog 36 [Its l, Its l] (.b true) := by
  refine AC.lbody hT hm Try.func36 f36_nm f36_lc f36_res f36_nt ?_
  simp only [go_sem, Int.reduceEq, Int.reduceLE, Int.reduceLT, Int.reduceToNat, List.length_map, bne_self_eq_false]
  refine xl_loopM hT hm (fun i : Nat => ⟨f36_i9 (Its l) (Its l) (.i l.length) (.i i), []⟩)
    (fun i => i ≤ l.length) (fun i => l.length - i) 0 (Nat.zero_le _) ?_ ?_
  · have hq : ∀ om (ks : List (Option Nat)), Cv om (fun _ => true) ks (Its l) (Its l) := fun om ks => .same (Its_bl l)
    exact Mv.none (by simp [f36_i9, hq])
  intro i hi
  simp only [go_sem, Int.reduceEq, Int.reduceLE, Int.reduceLT, Int.reduceToNat, List.length_map]
  by_cases h : i < l.length
  case neg =>
    simp only [go_sem, Int.reduceEq, Int.reduceLE, Int.reduceLT, Int.reduceToNat, h]
    exact Fin.v rfl
  obtain ⟨x, hx⟩ := get_ex h
  have hg := its_get hx
  have hq : ∀ om (ks : List (Option Nat)), Cv om (fun _ => true) ks (Its l) (Its l) := fun om ks => .same (Its_bl l)
  simp only [go_sem, Int.reduceEq, Int.reduceLE, Int.reduceLT, Int.reduceToNat, h, hg, bne_self_eq_false]
  rw [wrap_succ i (by omega)]
  exact ⟨i + 1, h, by omega, Mv.none (by simp [hq])⟩

def rAs : Re := .mk 6 0 0 0 0 [reS (ofS [97])]
def sAab : ByteArray := ⟨#[97, 97, 98]⟩
theorem endsAs : endsI rAs sAab 0 = [0, 1, 2] := by
  have hm : mayB rAs = true := by decide +kernel
  have hg : endsG rAs sAab 0 = [true, true, true, false] := by
    refine on_ext (endsG_len _ _ _) fun j hj => ?_
    rw [endsG_len] at hj
    rw [on_ends (Nat.zero_le _)]
    have hsz : sAab.size = 3 := rfl
    have hx : reS (ofS [97]) = .mk 3 0 8589934592 0 0 [] := Re.same_eq _ _ (by decide +kernel)
    have hst : ∀ i j, (reS (ofS [97])).mt sAab i j ↔ i < 3 ∧ j = i + 1 ∧ hasB [0, 8589934592, 0, 0] (byteAt sAab i) = true := by
      intro i j
      rw [hx, mt_3, hsz]
    have h01 : (reS (ofS [97])).mt sAab 0 1 := (hst 0 1).2 ⟨by omega, rfl, by decide +kernel⟩
    have h12 : (reS (ofS [97])).mt sAab 1 2 := (hst 1 2).2 ⟨by omega, rfl, by decide +kernel⟩
    have hle : ∀ i j, StarR ((reS (ofS [97])).mt sAab) i j → i ≤ 2 → j ≤ 2 := by
      intro i j h hi
      induction h with
      | refl => exact hi
      | step hs1 h2 ih =>
        rename_i m k'
        have := ih
        obtain ⟨q1, rfl, q2⟩ := (hst _ _).1 h2
        by_cases hm : m = 2
        · subst hm
          exact absurd q2 (by decide +kernel)
        · omega
    unfold rAs
    rw [mt_6, hsz]
    have h4 : j = 0 ∨ j = 1 ∨ j = 2 ∨ j = 3 := by omega
    rcases h4 with rfl | rfl | rfl | rfl
    · exact ⟨fun _ => rfl, fun _ => ⟨by omega, .refl 0⟩⟩
    · exact ⟨fun _ => rfl, fun _ => ⟨by omega, .one h01⟩⟩
    · exact ⟨fun _ => rfl, fun _ => ⟨by omega, .step (.one h01) h12⟩⟩
    · refine ⟨fun h => ?_, fun h => ?_⟩
      · have := hle 0 3 h.2 (by omega)
        omega
      · cases h
  unfold endsI
  rw [if_pos ⟨hm, by omega, by show (0 : Int) ≤ 3; omega⟩]
  show posA (endsG rAs sAab 0) 0 = _
  rw [hg]
  rfl
theorem awake10 : AP Try.prog 22 [] (.b true) := by
  have e1 : (pRead ⟨#[97, 42]⟩).2 = (0, 0) := by decide +kernel
  have e2 : (pRead ⟨#[97, 42]⟩).1 = rAs := Re.same_eq _ _ (by decide +kernel)
  have z : rAs.sz ≤ 1099511627776 := by decide +kernel
  have hw : rAs.wd := by
    have hx : rAs = .mk 6 0 0 0 0 [.mk 3 0 8589934592 0 0 []] := Re.same_eq _ _ (by decide +kernel)
    rw [hx, Re.wd, Re.wds, Re.wds, Re.wd, Re.wds]
    exact ⟨⟨[0, 0, 0, 0], rfl, rfl, by decide⟩, ⟨⟨[0, 8589934592, 0, 0], rfl, rfl, by decide⟩, trivial⟩, trivial⟩
  have h1 := mEndsI rAs z hw sAab (by decide) 0
  rw [endsAs] at h1
  have h2 := ints [0, 1, 2] (by simp)
  refine AC.lbody hT hm Try.func22 f22_nm f22_lc f22_res f22_nt ?_
  simp only [go_sem, Int.reduceEq, Int.reduceLE, Int.reduceLT, Int.reduceToNat]
  refine (readN ⟨#[97, 42]⟩).pd ⟨.v, trivial⟩ (wdD_bl _) ?_
  generalize pRead ⟨#[97, 42]⟩ = x at e1 e2
  obtain ⟨r, p⟩ := x
  cases e1
  obtain rfl : r = rAs := e2
  have c0 : (((0 : Nat) : Int) == 0) = true := rfl
  simp only [go_sem, Int.reduceEq, Int.reduceLE, Int.reduceLT, Int.reduceToNat, c0]
  refine h1.pd ⟨.same (Re.d_bl _), .v, .v, trivial⟩ (Its_bl _) ?_
  simp only [go_sem, Int.reduceEq, Int.reduceLE, Int.reduceLT, Int.reduceToNat]
  refine h2.pv ⟨.same (Its_bl _), .same (by simp), trivial⟩ ?_
  simp only [go_sem, Int.reduceEq, Int.reduceLE, Int.reduceLT, Int.reduceToNat]
  exact Fin.v rfl

theorem sub_size {s : ByteArray} {q : Nat} (h : q ≤ s.size) : (s.extract q s.size).size = s.size - q := by
  rw [ByteArray.size_extract]; omega
theorem sub_byte {s : ByteArray} {q i : Nat} (h : i < (s.extract q s.size).size) (hq : q ≤ s.size) : byteAt (s.extract q s.size) i = byteAt s (q + i) := by
  rw [sub_size hq] at h
  have h' : q + i < s.data.size := by have : s.data.size = s.size := rfl; omega
  unfold byteAt
  rw [Array.getD_eq_getD_getElem?, Array.getD_eq_getD_getElem?, ByteArray.data_extract, Array.getElem?_extract]
  rw [if_pos (by have : s.data.size = s.size := rfl; omega)]
theorem endsI_shift (r : Re) (s : ByteArray) (q : Nat) (hq : q ≤ s.size) : endsI r s q = (endsI r (s.extract q s.size) 0).map (q + ·) := by
  unfold endsI
  by_cases hm : mayB r = true
  · rw [if_pos ⟨hm, by omega, by omega⟩, if_pos ⟨hm, by omega, by omega⟩, Int.toNat_natCast]
    show _ = (posA (endsG r (s.extract q s.size) 0) 0).map _
    rw [ends_shift (mayB_ok hm) (by rw [sub_size hq]; omega) (fun i hi => sub_byte hi hq), posA_rep, Nat.add_zero, show q = q + 0 from rfl, posA_shift]
    rfl
  · rw [if_neg (fun h => hm h.1), if_neg (fun h => hm h.1)]
    rfl

theorem matchMoves (r : Re) (hz : r.sz ≤ 1048576) (hw : r.wd) (s : ByteArray) (k : Int) : AP Try.prog 7 [.agg r.c, .s s, .i k] (.b true) := by
  refine AC.lbody hT hm Try.func7 f7_nm f7_lc f7_res f7_nt ?_
  simp only [go_sem, Int.reduceEq, Int.reduceLE, Int.reduceLT, Int.reduceToNat]
  refine (great 60 r).pv ⟨.same (Re.d_bl _), .v, trivial⟩ ?_
  by_cases hg : 60 < r.cnt 60
  · simp only [go_sem, Int.reduceEq, Int.reduceLE, Int.reduceLT, Int.reduceToNat, hg]
    refine awake10.pv trivial ?_
    simp only [go_sem, Int.reduceEq, Int.reduceLE, Int.reduceLT, Int.reduceToNat]
    exact Fin.v rfl
  simp only [go_sem, Int.reduceEq, Int.reduceLE, Int.reduceLT, Int.reduceToNat, hg]
  by_cases hs : (20 : Int) < s.size
  · simp only [go_sem, Int.reduceEq, Int.reduceLE, Int.reduceLT, Int.reduceToNat, hs]
    refine awake10.pv trivial ?_
    simp only [go_sem, Int.reduceEq, Int.reduceLE, Int.reduceLT, Int.reduceToNat]
    exact Fin.v rfl
  simp only [go_sem, Int.reduceEq, Int.reduceLE, Int.reduceLT, Int.reduceToNat, hs]
  by_cases h0 : k < 0
  · simp only [go_sem, Int.reduceEq, Int.reduceLE, Int.reduceLT, Int.reduceToNat, h0]
    refine awake10.pv trivial ?_
    simp only [go_sem, Int.reduceEq, Int.reduceLE, Int.reduceLT, Int.reduceToNat]
    exact Fin.v rfl
  simp only [go_sem, Int.reduceEq, Int.reduceLE, Int.reduceLT, Int.reduceToNat, h0]
  by_cases h1 : (s.size : Int) < k
  · simp only [go_sem, Int.reduceEq, Int.reduceLE, Int.reduceLT, Int.reduceToNat, h1]
    refine awake10.pv trivial ?_
    simp only [go_sem, Int.reduceEq, Int.reduceLE, Int.reduceLT, Int.reduceToNat]
    exact Fin.v rfl
  obtain ⟨q, rfl⟩ : ∃ q : Nat, k = q := ⟨k.toNat, by omega⟩
  have c1 := mEndsI r (by omega) hw s (by omega) q
  simp only [go_sem, Int.reduceEq, Int.reduceLE, Int.reduceLT, Int.reduceToNat, h1]
  refine c1.qd ⟨.same (Re.d_bl _), .v, .v, trivial⟩ (Its_bl _) ?_
  have hq : q ≤ s.size := by omega
  have c2 := mEndsI r (by omega) hw (s.extract q s.size) (by rw [sub_size hq]; omega) 0
  have hsh := endsI_shift r s q hq
  have hlt : ∀ (i n : Nat), (endsI r (s.extract q s.size) 0)[i]? = some n → n ≤ 1000 := by
    intro i n h
    have hm := List.mem_of_getElem? h
    unfold endsI at hm
    split at hm
    · have := posA_lt _ _ _ hm
      rw [endsG_len, sub_size hq] at this
      omega
    · cases hm
  have hll : (endsI r (s.extract q s.size) 0).length ≤ 1000 := by
    unfold endsI
    split
    · have := posA_len (endsG r (s.extract q s.size) (0 : Int).toNat) 0
      rw [endsG_len, sub_size hq] at this
      omega
    · exact Nat.zero_le _
  rw [hsh]
  generalize endsI r (s.extract q s.size) 0 = l at c2 hlt hll ⊢
  simp only [go_sem, Int.reduceEq, Int.reduceLE, Int.reduceLT, Int.reduceToNat, hq, Nat.le_refl]
  refine c2.pd ⟨.same (Re.d_bl _), .v, .v, trivial⟩ (Its_bl _) ?_
  simp only [go_sem, Int.reduceEq, Int.reduceLE, Int.reduceLT, Int.reduceToNat, List.length_map, bne_self_eq_false]
  have hq1 : ∀ om (ks : List (Option Nat)), Cv om (fun _ => true) ks (Its l) (Its l) := fun om ks => .same (Its_bl l)
  have hq2 : ∀ om (ks : List (Option Nat)), Cv om (fun _ => true) ks (Its (l.map (q + ·))) (Its (l.map (q + ·))) := fun om ks => .same (Its_bl _)
  refine xl_loopM hT hm (fun i : Nat => ⟨f7_i11 (.i q) (Its (l.map (q + ·))) (Its l) (.i i), []⟩)
    (fun i => i ≤ l.length) (fun i => l.length - i) 0 (Nat.zero_le _) (Mv.none (by simp [f7_i11, hq1, hq2])) ?_
  intro i hi
  simp only [go_sem, Int.reduceEq, Int.reduceLE, Int.reduceLT, Int.reduceToNat, List.length_map]
  by_cases h : i < l.length
  case neg =>
    simp only [go_sem, Int.reduceEq, Int.reduceLE, Int.reduceLT, Int.reduceToNat, h]
    refine awake10.pv trivial ?_
    simp only [go_sem, Int.reduceEq, Int.reduceLE, Int.reduceLT, Int.reduceToNat]
    exact Fin.v rfl
  obtain ⟨n, hn⟩ := get_ex h
  have hn1 := hlt i n hn
  have g1 := its_get hn
  have g2 := its_get (l := l.map (q + ·)) (i := i) (n := q + n) (by rw [List.getElem?_map, hn]; rfl)
  have hwp : IntKind.i64.wrap ((n : Int) + (q : Int)) = ((q + n : Nat) : Int) := by rw [wrap_int _ (by omega) (by omega)]; omega
  simp only [go_sem, Int.reduceEq, Int.reduceLE, Int.reduceLT, Int.reduceToNat, h, g1, g2, hwp, bne_self_eq_false]
  rw [wrap_succ i (by omega)]
  exact ⟨i + 1, h, by omega, Mv.none (by simp [f7_i11, hq1, hq2])⟩
end Go.Proofs.Yteifkcgokjmcjaa.W
