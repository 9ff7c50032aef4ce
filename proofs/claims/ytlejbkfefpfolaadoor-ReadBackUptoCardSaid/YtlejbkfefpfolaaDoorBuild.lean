/- Any expression that may be is read from its text as it was; what is read is shown, and read again, as it is. -/
import Derived.Test.YtlejbkfefpfolaaDoorBuildD
import Derived.Test.YtlejbkfefpfolaaDoorMathB
set_option linter.unusedVariables false
set_option linter.unusedSimpArgs false
set_option linter.unusedSectionVars false
set_option maxRecDepth 100000
/- The document's reader: what a text is read as. -/
namespace Go.Proofs.YtlejbkfefpfolaaDoor.W
open Go Go.Proofs Go.Proofs.YtlejbkfefpfolaaDoor.AWP
attribute [local irreducible] xl hide aop aops aopQ qops guardP condP

/-! ### Texts: is one of some so? -/
theorem idxSt (G : FuncId) (p : ByteArray → Bool) (l : List ByteArray) (hl : l.length ≤ 9223372036854775807) (H : ∀ x ∈ l, AP Tryd.prog G [.s x] (.b (p x))) : AP Tryd.prog 53 [.sl 1 (l.map fun x => [.s x]), .fn G []] (.i (idxI p l)) := by
  refine AC.lbody hT hm Tryd.func53 f53_nm f53_lc f53_res f53_nt ?_
  simp only [go_sem, Int.reduceEq, Int.reduceLE, Int.reduceLT, Int.reduceToNat]
  refine xl_loopM hT hm (fun i : Nat => ⟨f53_i7 (.sl 1 (l.map fun x => [.s x])) (.fn G []) (.i l.length) (.i i), []⟩)
    (fun i => i ≤ l.length ∧ ∀ j x, j < i → l[j]? = some x → p x = false) (fun i => l.length - i) 0 ⟨Nat.zero_le _, fun j x h => absurd h (Nat.not_lt_zero _)⟩ (Mv.none (by simp [f53_i7])) ?_
  rintro i ⟨hi, hn⟩
  simp only [go_sem, Int.reduceEq, Int.reduceLE, Int.reduceLT, Int.reduceToNat]
  by_cases h : i < l.length
  case neg =>
    simp only [go_sem, Int.reduceEq, Int.reduceLE, Int.reduceLT, Int.reduceToNat, h]
    refine Fin.v ?_
    have : l.findIdx? p = none := by
      rw [List.findIdx?_eq_none_iff]
      intro x hx
      obtain ⟨j, hj⟩ := List.getElem?_of_mem hx
      exact hn j x (by have := (List.getElem?_eq_some_iff.1 hj).1; omega) hj
    unfold idxI
    rw [this]
  obtain ⟨x, hx⟩ := get_ex h
  simp only [go_sem, Int.reduceEq, Int.reduceLE, Int.reduceLT, Int.reduceToNat, h, hx]
  refine (H x (List.mem_of_getElem? hx)).pv ⟨.same (by simp), trivial⟩ ?_
  cases hp : p x
  case true =>
    simp only [go_sem, Int.reduceEq, Int.reduceLE, Int.reduceLT, Int.reduceToNat]
    refine Fin.v ?_
    have : l.findIdx? p = some i := by
      rw [List.findIdx?_eq_some_iff_getElem]
      obtain ⟨hlt, hxe⟩ := List.getElem?_eq_some_iff.1 hx
      refine ⟨hlt, by rw [hxe]; exact hp, fun j hji => ?_⟩
      have := hn j l[j] hji (List.getElem?_eq_getElem (by omega))
      simp [this]
    unfold idxI
    rw [this]
  simp only [go_sem, Int.reduceEq, Int.reduceLE, Int.reduceLT, Int.reduceToNat]
  rw [wrap_succ i (by omega)]
  refine ⟨i + 1, ⟨h, fun j y hj hy => ?_⟩, by omega, Mv.none (by simp)⟩
  by_cases e : j = i
  · subst e; rw [hx] at hy; cases hy; exact hp
  · exact hn j y (by omega) hy
theorem anySt (G : FuncId) (p : ByteArray → Bool) (l : List ByteArray) (hl : l.length ≤ 9223372036854775807) (H : ∀ x ∈ l, AP Tryd.prog G [.s x] (.b (p x))) : AP Tryd.prog 32 [.sl 1 (l.map fun x => [.s x]), .fn G []] (.b (l.any p)) := by
  refine AC.lbody hT hm Tryd.func32 f32_nm f32_lc f32_res f32_nt ?_
  simp only [go_sem, Int.reduceEq, Int.reduceLE, Int.reduceLT, Int.reduceToNat]
  refine (idxSt G p l hl H).pv ⟨.same (by simp), .same (by simp), trivial⟩ ?_
  simp only [go_sem, Int.reduceEq, Int.reduceLE, Int.reduceLT, Int.reduceToNat]
  exact Fin.v (by rw [idxI_nn])
end Go.Proofs.YtlejbkfefpfolaaDoor.W

set_option maxRecDepth 100000
/- Whether texts are read; the document's example; the expression of any text is the document's. -/
namespace Go.Proofs.YtlejbkfefpfolaaDoor.W
open Go Go.Proofs Go.Proofs.YtlejbkfefpfolaaDoor.AWP
attribute [local irreducible] xl hide aop aops aopQ qops guardP condP

abbrev Strs (l : List ByteArray) : D := .sl 1 (l.map fun x => [.s x])
theorem form1 (s : ByteArray) : AP Tryd.prog 33 [.s s] (.b (decide ((pRead s).2.2 ≠ 0))) := by
  refine AC.lbody hT hm Tryd.func33 f33_nm f33_lc f33_res f33_nt ?_
  simp only [go_sem, Int.reduceEq, Int.reduceLE, Int.reduceLT, Int.reduceToNat]
  refine (readN s).pd ⟨.v, trivial⟩ (wdD_bl _) ?_
  generalize pRead s = x
  obtain ⟨r, p, e⟩ := x
  simp only [go_sem, Int.reduceEq, Int.reduceLE, Int.reduceLT, Int.reduceToNat]
  refine Fin.v ?_
  by_cases he : e = 0
  · subst he; rfl
  · rw [bne_true (by omega)]; simp [he]
theorem form (l : List ByteArray) (hl : l.length ≤ 9223372036854775807) : AP Tryd.prog 20 [Strs l] (.b (l.all fun s => decide ((pRead s).2.2 = 0))) := by
  have e : (l.all fun s => decide ((pRead s).2.2 = 0)) = !(l.any fun s => decide ((pRead s).2.2 ≠ 0)) := by
    induction l with
    | nil => rfl
    | cons x l ih => rw [List.all_cons, List.any_cons, ih (by simp only [List.length_cons] at hl; omega)]; simp
  rw [e]
  refine AC.lbody hT hm Tryd.func20 f20_nm f20_lc f20_res f20_nt ?_
  simp only [go_sem, Int.reduceEq, Int.reduceLE, Int.reduceLT, Int.reduceToNat]
  refine (anySt 33 (fun s => decide ((pRead s).2.2 ≠ 0)) l hl fun x _ => form1 x).pv ⟨.same (by simp), .same (by simp), trivial⟩ ?_
  simp only [go_sem, Int.reduceEq, Int.reduceLE, Int.reduceLT, Int.reduceToNat]
  exact Fin.v rfl
theorem form_1 (s : ByteArray) : AP Tryd.prog 20 [.sl 1 [[.s s]]] (.b (decide ((pRead s).2.2 = 0))) := by
  have e : ([s].all fun s => decide ((pRead s).2.2 = 0)) = decide ((pRead s).2.2 = 0) := by simp
  rw [← e]
  exact form [s] (by simp)

theorem awake : AP Tryd.prog 7 [] (.b true) := by
  have e1 : (pRead ⟨#[97, 40, 98, 124]⟩).2 = (4, 2) := by decide +kernel
  have e2 : (pRead ⟨#[97, 40, 98, 124, 99, 41, 97, 42]⟩).2.2 = 0 := by decide +kernel
  have f2 := form_1 ⟨#[97, 40, 98, 124, 99, 41, 97, 42]⟩
  rw [e2] at f2
  refine AC.lbody hT hm Tryd.func7 f7_nm f7_lc f7_res f7_nt ?_
  simp only [go_sem, Int.reduceEq, Int.reduceLE, Int.reduceLT, Int.reduceToNat]
  refine (readN ⟨#[97, 40, 98, 124]⟩).pd ⟨.v, trivial⟩ (wdD_bl _) ?_
  generalize pRead ⟨#[97, 40, 98, 124]⟩ = x at e1
  obtain ⟨r, p⟩ := x
  cases e1
  have c2 : (((2 : Nat) : Int) == 2) = true := rfl
  have c4 : (((4 : Nat) : Int) == 4) = true := rfl
  simp only [go_sem, Int.reduceEq, Int.reduceLE, Int.reduceLT, Int.reduceToNat, c2, c4]
  refine f2.pv ⟨.same (by simp), trivial⟩ ?_
  simp only [go_sem, Int.reduceEq, Int.reduceLE, Int.reduceLT, Int.reduceToNat]
  exact Fin.v rfl

theorem sames_self : ∀ (l : List Re), (∀ x ∈ l, x.same x = true) → Re.sames l l = true
  | [], _ => by rw [Re.sames]
  | x :: l, h => by rw [Re.sames, h x (by simp), sames_self l fun y hy => h y (by simp [hy])]; rfl
theorem same_self (r : Re) : r.same r = true := by
  refine Re.ind (p := fun r => r.same r = true) ?_ r
  intro k a b c d ks ih
  rw [Re.same, sames_self ks ih]
  simp
end Go.Proofs.YtlejbkfefpfolaaDoor.W

set_option maxRecDepth 100000
/- Any expression that may be is read from its text as it was; what is read is shown, and read again, as it is. -/
namespace Go.Proofs.YtlejbkfefpfolaaDoor.W
open Go Go.Proofs Go.Proofs.YtlejbkfefpfolaaDoor.AWP
attribute [local irreducible] xl hide aop aops aopQ qops guardP condP

theorem decL (a b : Int) (h : a < b) : decide (a < b) = true := decide_eq_true h
theorem decF (a b : Int) (h : ¬ a < b) : decide (a < b) = false := decide_eq_false h
theorem readBackB (y : Re) (hm0 : mayB y = true) (hw : y.wd) (hr : pRead y.text = (y, 0, 0)) (hz : y.sz ≤ 2000) : AP Tryd.prog 9 [txD y.txt] (wdD (y, 0, 0)) := by
  have := readN y.text
  rw [hr] at this
  exact this
set_option maxHeartbeats 1000000 in
theorem readBackL (r : Re) (s : ByteArray) (hz : r.sz ≤ 1048576) (hw : r.wd) : AP Tryd.prog 3 [.agg r.c, .s s] (.b true) := by
  have hG := great 200 r
  have hM := rMay r (by omega)
  have hcs := cnt_sz 200 (by omega) r (by omega)
  refine AC.lbody hT hm Tryd.func3 f3_nm f3_lc f3_res f3_nt ?_
  simp only [go_sem, Int.reduceEq, Int.reduceLE, Int.reduceLT, Int.reduceToNat]
  refine hG.pv ⟨.same (Re.d_bl _), .v, trivial⟩ ?_
  by_cases hg : 200 < r.cnt 200
  · simp only [go_sem, Int.reduceEq, Int.reduceLE, Int.reduceLT, Int.reduceToNat, decL _ _ hg]
    refine awake.pv trivial ?_
    simp only [go_sem, Int.reduceEq, Int.reduceLE, Int.reduceLT, Int.reduceToNat]
    exact Fin.v rfl
  have hsz : r.sz ≤ 200 := by have := hcs (by omega); omega
  simp only [go_sem, Int.reduceEq, Int.reduceLE, Int.reduceLT, Int.reduceToNat, decF _ _ hg]
  by_cases hs : (1000 : Int) < s.size
  · simp only [go_sem, Int.reduceEq, Int.reduceLE, Int.reduceLT, Int.reduceToNat, hs]
    refine awake.pv trivial ?_
    simp only [go_sem, Int.reduceEq, Int.reduceLE, Int.reduceLT, Int.reduceToNat]
    exact Fin.v rfl
  have hs' : s.size ≤ 1000 := by omega
  have hback : (pRead s).2.2 = 0 → pRead (pRead s).1.text = ((pRead s).1, 0, 0) ∧ (pRead s).1.wd ∧ mayB (pRead s).1 = true := fun h => ⟨(read_back hs' h).1, (read_back hs' h).2, (pRead_ok h).2.1⟩
  simp only [go_sem, Int.reduceEq, Int.reduceLE, Int.reduceLT, Int.reduceToNat, hs]
  refine hM.pv ⟨.same (Re.d_bl _), trivial⟩ ?_
  rcases mayCase r with hm0 | hm0
  · simp only [go_sem, Int.reduceEq, Int.reduceLE, Int.reduceLT, Int.reduceToNat, hm0]
    refine (readN s).pd ⟨.v, trivial⟩ (wdD_bl _) ?_
    generalize pRead s = x at hback
    obtain ⟨y, p, e⟩ := x
    by_cases he : e = 0
    case neg =>
      have z2 : (((e : Nat) : Int) != 0) = true := bne_true (by omega)
      simp only [go_sem, Int.reduceEq, Int.reduceLE, Int.reduceLT, Int.reduceToNat, z2]
      refine awake.pv trivial ?_
      simp only [go_sem, Int.reduceEq, Int.reduceLE, Int.reduceLT, Int.reduceToNat]
      exact Fin.v rfl
    subst he
    obtain ⟨b1, b2, b3⟩ := hback rfl
    obtain ⟨yok, ysz0⟩ := mayZ b3
    have ysz : y.sz ≤ 2000 := ysz0
    have cO := rOfT y yok b2 (by omega)
    have cR := readBackB y b3 b2 b1 ysz
    have cS := same y y
    rw [same_self] at cS
    have z1 : (((0 : Nat) : Int) != 0) = false := rfl
    have z3 : (((0 : Nat) : Int) == 0) = true := rfl
    simp only [go_sem, Int.reduceEq, Int.reduceLE, Int.reduceLT, Int.reduceToNat, z1]
    refine cO.pv ⟨.same (Re.d_bl _), trivial⟩ ?_
    simp only [go_sem, Int.reduceEq, Int.reduceLE, Int.reduceLT, Int.reduceToNat]
    refine cR.pd ⟨.v, trivial⟩ (wdD_bl _) ?_
    simp only [go_sem, Int.reduceEq, Int.reduceLE, Int.reduceLT, Int.reduceToNat, z3]
    refine cS.pv ⟨.same (Re.d_bl _), .same (Re.d_bl _), trivial⟩ ?_
    simp only [go_sem, Int.reduceEq, Int.reduceLE, Int.reduceLT, Int.reduceToNat]
    refine awake.pv trivial ?_
    simp only [go_sem, Int.reduceEq, Int.reduceLE, Int.reduceLT, Int.reduceToNat]
    exact Fin.v rfl
  · obtain ⟨hok, _⟩ := mayZ hm0
    have hT := showText r hz hw
    have hl := txt_len r hok
    have hb := readBackB r hm0 hw (read_text hm0 hw (by omega)) (by omega)
    have hsh : shT r = r.txt := by unfold shT; rw [if_pos hm0]
    have hsm := same r r
    rw [same_self] at hsm
    rw [hsh] at hT
    simp only [go_sem, Int.reduceEq, Int.reduceLE, Int.reduceLT, Int.reduceToNat, hm0]
    refine hT.pv ⟨.same (Re.d_bl _), trivial⟩ ?_
    simp only [go_sem, Int.reduceEq, Int.reduceLE, Int.reduceLT, Int.reduceToNat]
    refine hb.pd ⟨.v, trivial⟩ (wdD_bl _) ?_
    have z1 : (((0 : Nat) : Int) != 0) = false := rfl
    simp only [go_sem, Int.reduceEq, Int.reduceLE, Int.reduceLT, Int.reduceToNat, z1]
    refine hsm.pv ⟨.same (Re.d_bl _), .same (Re.d_bl _), trivial⟩ ?_
    simp only [go_sem, Int.reduceEq, Int.reduceLE, Int.reduceLT, Int.reduceToNat]
    refine (readN s).pd ⟨.v, trivial⟩ (wdD_bl _) ?_
    generalize pRead s = x at hback
    obtain ⟨y, p, e⟩ := x
    by_cases he : e = 0
    case neg =>
      have z2 : (((e : Nat) : Int) != 0) = true := bne_true (by omega)
      simp only [go_sem, Int.reduceEq, Int.reduceLE, Int.reduceLT, Int.reduceToNat, z2]
      refine awake.pv trivial ?_
      simp only [go_sem, Int.reduceEq, Int.reduceLE, Int.reduceLT, Int.reduceToNat]
      exact Fin.v rfl
    subst he
    obtain ⟨b1, b2, b3⟩ := hback rfl
    obtain ⟨yok, ysz0⟩ := mayZ b3
    have ysz : y.sz ≤ 2000 := ysz0
    have cO := rOfT y yok b2 (by omega)
    have cR := readBackB y b3 b2 b1 ysz
    have cS := same y y
    rw [same_self] at cS
    have z1 : (((0 : Nat) : Int) != 0) = false := rfl
    have z3 : (((0 : Nat) : Int) == 0) = true := rfl
    simp only [go_sem, Int.reduceEq, Int.reduceLE, Int.reduceLT, Int.reduceToNat, z1]
    refine cO.pv ⟨.same (Re.d_bl _), trivial⟩ ?_
    simp only [go_sem, Int.reduceEq, Int.reduceLE, Int.reduceLT, Int.reduceToNat]
    refine cR.pd ⟨.v, trivial⟩ (wdD_bl _) ?_
    simp only [go_sem, Int.reduceEq, Int.reduceLE, Int.reduceLT, Int.reduceToNat, z3]
    refine cS.pv ⟨.same (Re.d_bl _), .same (Re.d_bl _), trivial⟩ ?_
    simp only [go_sem, Int.reduceEq, Int.reduceLE, Int.reduceLT, Int.reduceToNat]
    refine awake.pv trivial ?_
    simp only [go_sem, Int.reduceEq, Int.reduceLE, Int.reduceLT, Int.reduceToNat]
    exact Fin.v rfl
end Go.Proofs.YtlejbkfefpfolaaDoor.W
