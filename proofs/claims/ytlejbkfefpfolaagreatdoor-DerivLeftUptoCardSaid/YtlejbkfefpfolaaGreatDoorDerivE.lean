/- The lines of a trace: both; they are the same. -/
import Derived.Test.YtlejbkfefpfolaaGreatDoorMatchI
set_option linter.unusedVariables false
set_option linter.unusedSimpArgs false
set_option linter.unusedSectionVars false
set_option maxRecDepth 100000
/- The steps are nullable just where the ends are; what is left behind a front fits the rest just if all is fitted. -/
namespace Go.Proofs.YtlejbkfefpfolaaGreatDoor.W
open Go Go.Proofs Go.Proofs.YtlejbkfefpfolaaGreatDoor.AWP
attribute [local irreducible] xl hide aop aops aopQ qops guardP condP
theorem pre_size {s : ByteArray} {i : Nat} (h : i ≤ s.size) : (s.extract 0 i).size = i := by
  rw [ByteArray.size_extract]; omega
theorem pre_byte {s : ByteArray} {i j : Nat} (h : i ≤ s.size) (hj : j < (s.extract 0 i).size) : byteAt (s.extract 0 i) j = byteAt s j := by
  rw [pre_size h] at hj
  unfold byteAt
  rw [Array.getD_eq_getD_getElem?, Array.getD_eq_getD_getElem?, ByteArray.data_extract, Array.getElem?_extract]
  rw [if_pos (by have : s.data.size = s.size := rfl; omega), Nat.zero_add]
theorem fit_sub {r : Re} {s : ByteArray} {i : Nat} (h : i ≤ s.size) : fitB r (s.extract i s.size) = true ↔ mayB r = true ∧ r.mt s i s.size := by
  rw [fitB_iff, sub_size h]
  have key : ∀ h1 : mayB r = true, (r.mt (s.extract i s.size) 0 (s.size - i) ↔ r.mt s i s.size) := by
    intro h1
    have := mt_shift (s := s) (s' := s.extract i s.size) (k := i) (by rw [sub_size h]; omega) (fun j hj => sub_byte hj h) r (mayB_ok h1) 0 (s.size - i)
    rw [this, Nat.add_zero, show i + (s.size - i) = s.size from by omega]
  constructor
  · rintro ⟨h1, h2⟩; exact ⟨h1, (key h1).1 h2⟩
  · rintro ⟨h1, h2⟩; exact ⟨h1, (key h1).2 h2⟩
theorem ends_nul {r : Re} (hg : Gd r) {s : ByteArray} {k : Nat} (hk : k ≤ s.size) (hst : ∀ j, j < k → ste r s j = 0) : (endsB r s 0)[k]? = some (stt r s k).nul := by
  have hl : k < (endsB r s 0).length := by rw [endsB_len]; omega
  obtain ⟨b, hb⟩ := get_ex hl
  rw [hb]
  have h1 : On (endsB r s 0) k ↔ b = true := by unfold On; rw [hb]; simp
  have h2 : On (endsB r s 0) k ↔ r.mt s 0 k := by
    unfold endsB
    rw [if_pos ⟨hg.1, by omega, by omega⟩, Int.toNat_zero, on_ends (Nat.zero_le _)]
    exact ⟨fun h => h.2, fun h => ⟨hk, h⟩⟩
  have h3 := stt_nul hg hk hst
  have : b = (stt r s k).nul := by
    rw [Bool.eq_iff_iff]
    exact h1.symm.trans (h2.trans h3.symm)
  rw [this]
theorem stt_cong (r : Re) {s t : ByteArray} : ∀ k, (∀ j, j < k → byteAt s j = byteAt t j) → stt r s k = stt r t k
  | 0, _ => rfl
  | k + 1, h => by
    show (stp (byteAt s k) (stt r s k)).1 = (stp (byteAt t k) (stt r t k)).1
    rw [h k (by omega), stt_cong r k fun j hj => h j (by omega)]
theorem wrd_ok {r : Re} {s : ByteArray} (hw : r.wd) (h : (wrd r s).2 = 0) : Gd r ∧ (∀ j, j < s.size → ste r s j = 0) ∧ wrd r s = (stt r s s.size, 0) := by
  have h0 : (wlk r s).2 = 0 := by
    unfold wrd at h
    split at h
    · assumption
    · exact h
  obtain ⟨h1, h2, _⟩ := wlk_ok h0
  exact ⟨⟨h1, hw⟩, h2, by unfold wrd; rw [if_pos h0]⟩
/-- What is left behind a front fits the rest. -/
theorem fit_left {r : Re} (hw : r.wd) {s : ByteArray} {m : Nat} (hm : m ≤ s.size) (h : (wrd r (s.extract 0 m)).2 = 0) : Gd (wrd r (s.extract 0 m)).1 ∧ fitB (wrd r (s.extract 0 m)).1 (s.extract m s.size) = fitB r s := by
  obtain ⟨hg, hst, he⟩ := wrd_ok hw h
  have hsz := pre_size hm
  have hb : ∀ j, j < m → byteAt (s.extract 0 m) j = byteAt s j := fun j hj => pre_byte hm (by rw [hsz]; exact hj)
  have hst' : ∀ j, j < m → ste r s j = 0 := fun j hj => by
    have := hst j (by rw [hsz]; exact hj)
    unfold ste at this ⊢
    rw [← hb j hj, ← stt_cong r j fun i hi => hb i (by omega)]
    exact this
  rw [he, hsz]
  simp only
  rw [stt_cong r m hb]
  have hgm := stt_gd hg s m hst'
  refine ⟨hgm, ?_⟩
  rw [Bool.eq_iff_iff, fit_sub hm, stt_mt hg m hm hst', fitB_iff]
  exact ⟨fun h => ⟨hg.1, h.2.1⟩, fun h => ⟨hgm.1, h.2, hm⟩⟩
theorem fit_drv {r : Re} (hw : r.wd) {s : ByteArray} (h0 : 0 < s.size) (h : (pln (byteAt s 0) r).2 = 0) : Gd (pln (byteAt s 0) r).1 ∧ fitB (pln (byteAt s 0) r).1 (s.extract 1 s.size) = fitB r s := by
  obtain ⟨h1, h2, h3⟩ := pln_ok h
  rw [h3]
  have hg : Gd r := ⟨h1, hw⟩
  refine ⟨⟨h2, drv_wd _ _ hg.okw.1 hw⟩, ?_⟩
  simp only
  rw [Bool.eq_iff_iff, fit_sub (by omega), fitB_iff, drv_mt r hg.okw.1 0 s.size h0]
  exact ⟨fun h => ⟨h1, h.2.1⟩, fun h => ⟨h2, h.2, h0⟩⟩
set_option maxHeartbeats 1000000 in
theorem derivFits (r : Re) (s : ByteArray) (hz : r.sz ≤ 1048576) (hw : r.wd) : AP Tryz.prog 5 [.agg r.c, .s s] (.b true) := by
  have hG := great 40 r
  refine AC.lbody hT hm Tryz.func5 f5_nm f5_lc f5_res f5_nt ?_
  simp only [go_sem, Int.reduceEq, Int.reduceLE, Int.reduceLT, Int.reduceToNat]
  refine hG.pv ⟨.same (Re.d_bl _), .v, trivial⟩ ?_
  by_cases hg : 40 < r.cnt 40
  · simp only [go_sem, Int.reduceEq, Int.reduceLE, Int.reduceLT, Int.reduceToNat, decL _ _ hg]
    refine awake9.pv trivial ?_
    simp only [go_sem, Int.reduceEq, Int.reduceLE, Int.reduceLT, Int.reduceToNat]
    exact Fin.v rfl
  simp only [go_sem, Int.reduceEq, Int.reduceLE, Int.reduceLT, Int.reduceToNat, decF _ _ hg]
  by_cases hs : (12 : Int) < s.size
  · simp only [go_sem, Int.reduceEq, Int.reduceLE, Int.reduceLT, Int.reduceToNat, hs]
    refine awake9.pv trivial ?_
    simp only [go_sem, Int.reduceEq, Int.reduceLE, Int.reduceLT, Int.reduceToNat]
    exact Fin.v rfl
  have hs' : s.size ≤ 1000 := by omega
  have h1 := nWalk r hz hw s hs'
  have h2 := rEndsB r (by omega) hw s hs' 0
  have hok : (wlk r s).2 = 0 → mayB r = true ∧ (∀ j, j < s.size → ste r s j = 0) ∧ (wlk r s).1 = stts r s (s.size + 1) := fun h => by
    obtain ⟨a, b, c⟩ := wlk_ok h
    exact ⟨a, b, by rw [c]⟩
  generalize wlk r s = p at h1 hok
  obtain ⟨l, e⟩ := p
  simp only [go_sem, Int.reduceEq, Int.reduceLE, Int.reduceLT, Int.reduceToNat, hs]
  refine h1.pd ⟨.same (Re.d_bl _), .v, trivial⟩ (wkD_bl _) ?_
  by_cases he : e = 0
  case neg =>
    have z2 : (((e : Nat) : Int) != 0) = true := bne_true (by omega)
    simp only [go_sem, Int.reduceEq, Int.reduceLE, Int.reduceLT, Int.reduceToNat, z2]
    refine awake9.pv trivial ?_
    simp only [go_sem, Int.reduceEq, Int.reduceLE, Int.reduceLT, Int.reduceToNat]
    exact Fin.v rfl
  subst he
  have z1 : (((0 : Nat) : Int) != 0) = false := rfl
  obtain ⟨hm0, hst, hl⟩ := hok rfl
  simp only at hl
  have hgd : Gd r := ⟨hm0, hw⟩
  have hln := stts_len r s (s.size + 1)
  have hget : ∀ i, i < s.size + 1 → (stts r s (s.size + 1))[i]? = some (stt r s i) := fun i hi => stts_get hi
  have hel := endsB_len r s 0
  have hen : ∀ i, i < s.size + 1 → (endsB r s 0)[i]? = some (stt r s i).nul := fun i hi => ends_nul hgd (by omega) fun j hj => hst j (by omega)
  subst hl
  generalize stts r s (s.size + 1) = L at hln hget
  generalize endsB r s 0 = E at h2 hel hen
  have z3 : ((L.length : Int) != (E.length : Int)) = false := by rw [hln, hel]; exact bne_self_eq_false _
  have hq : ∀ om (ks : List (Option Nat)), Cv om (fun _ => true) ks (Bls E) (Bls E) := fun om ks => .same (Bls_bl E)
  simp only [go_sem, Int.reduceEq, Int.reduceLE, Int.reduceLT, Int.reduceToNat, z1]
  refine h2.pd ⟨.same (Re.d_bl _), .v, .v, trivial⟩ (Bls_bl _) ?_
  simp only [go_sem, Int.reduceEq, Int.reduceLE, Int.reduceLT, Int.reduceToNat, List.length_map, z3]
  refine xl_loopM hT hm (fun i : Nat => ⟨f5_i14 (Res L) (Bls E) (.i i), []⟩)
    (fun i => i ≤ s.size + 1) (fun i => s.size + 1 - i) 0 (Nat.zero_le _) (Mv.none (by simp [f5_i14, hq])) ?_
  rintro i hi
  simp only [go_sem, Int.reduceEq, Int.reduceLE, Int.reduceLT, Int.reduceToNat, List.length_map]
  by_cases hil : i < L.length
  case neg =>
    simp only [go_sem, Int.reduceEq, Int.reduceLE, Int.reduceLT, Int.reduceToNat, hil]
    refine awake9.pv trivial ?_
    simp only [go_sem, Int.reduceEq, Int.reduceLE, Int.reduceLT, Int.reduceToNat]
    exact Fin.v rfl
  rw [hln] at hil
  have g1 := hget i hil
  have g2 := bls_get (hen i hil)
  obtain ⟨x1, x2⟩ := stt_sz hgd (k := i) fun j hj => hst j (by omega)
  have hN := nullNull1 (stt r s i) (by omega)
  rw [show nulB (stt r s i) = (stt r s i).nul from by unfold nulB; rw [(stt_gd hgd s i fun j hj => hst j (by omega)).1, Bool.true_and]] at hN
  generalize stt r s i = x at g1 g2 hN
  have z4 : (x.nul != x.nul) = false := bne_self_eq_false _
  rw [← hln] at hil
  simp only [go_sem, Int.reduceEq, Int.reduceLE, Int.reduceLT, Int.reduceToNat, List.length_map, hil, g1, g2]
  refine hN.qv ⟨.same (one_bl x), trivial⟩ ?_
  simp only [go_sem, Int.reduceEq, Int.reduceLE, Int.reduceLT, Int.reduceToNat, g2, z4]
  refine ⟨i + 1, by omega, by omega, ?_⟩
  rw [wrap_succ i (by omega)]
  exact Mv.none (by simp [hq])
set_option maxHeartbeats 1000000 in
theorem derivLeft (r : Re) (s : ByteArray) (b : UInt8) (hz : r.sz ≤ 1048576) (hw : r.wd) : AP Tryz.prog 6 [.agg r.c, .s s, .y b] (.b true) := by
  have hG := great 30 r
  refine AC.lbody hT hm Tryz.func6 f6_nm f6_lc f6_res f6_nt ?_
  simp only [go_sem, Int.reduceEq, Int.reduceLE, Int.reduceLT, Int.reduceToNat]
  refine hG.pv ⟨.same (Re.d_bl _), .v, trivial⟩ ?_
  by_cases hg : 30 < r.cnt 30
  · simp only [go_sem, Int.reduceEq, Int.reduceLE, Int.reduceLT, Int.reduceToNat, decL _ _ hg]
    refine awake9.pv trivial ?_
    simp only [go_sem, Int.reduceEq, Int.reduceLE, Int.reduceLT, Int.reduceToNat]
    exact Fin.v rfl
  simp only [go_sem, Int.reduceEq, Int.reduceLE, Int.reduceLT, Int.reduceToNat, decF _ _ hg]
  by_cases hs : (8 : Int) < s.size
  · simp only [go_sem, Int.reduceEq, Int.reduceLE, Int.reduceLT, Int.reduceToNat, hs]
    refine awake9.pv trivial ?_
    simp only [go_sem, Int.reduceEq, Int.reduceLE, Int.reduceLT, Int.reduceToNat]
    exact Fin.v rfl
  have hm : b.toNat % (s.size + 1) ≤ s.size := Nat.le_of_lt_succ (Nat.mod_lt _ (by omega))
  have hbb := b.toNat_lt
  have h25 : (if IntKind.wrap .i64 (s.size + 1 : Int) = 0 then none else some (Value.int .i64 ((IntKind.wrap .i64 (b.toNat : Int)).tmod (IntKind.wrap .i64 (s.size + 1 : Int))))) = some (Value.int .i64 ((b.toNat % (s.size + 1) : Nat) : Int)) := by
    rw [wrap_int (s.size + 1 : Int) (by omega) (by omega), wrap_int (b.toNat : Int) (by omega) (by omega), if_neg (by omega)]
    rw [show (s.size + 1 : Int) = ((s.size + 1 : Nat) : Int) from rfl, ← Int.ofNat_tmod]
  generalize b.toNat % (s.size + 1) = m at hm h25
  have hps := pre_size hm
  have h1 := nWord r hz hw (s.extract 0 m) (by omega)
  have hf := fit_left hw hm
  generalize wrd r (s.extract 0 m) = p at h1 hf
  obtain ⟨x, e⟩ := p
  have hf0 := rFits r (by omega) hw s (by omega)
  simp only [go_sem, Int.reduceEq, Int.reduceLE, Int.reduceLT, Int.reduceToNat, hs, h25, hm, Nat.zero_le, Nat.le_refl, ne_eq, reduceCtorEq, not_false_eq_true, implies_true]
  refine h1.qd ⟨.same (Re.d_bl _), .v, trivial⟩ (plD_bl _) ?_
  simp only [go_sem, Int.reduceEq, Int.reduceLE, Int.reduceLT, Int.reduceToNat, hm, Nat.zero_le, Nat.le_refl, ne_eq, reduceCtorEq, not_false_eq_true, implies_true]
  refine ⟨stFit_re x, ?_⟩
  by_cases he : e = 0
  case neg =>
    have z2 : (((e : Nat) : Int) != 0) = true := bne_true (by omega)
    simp only [go_sem, Int.reduceEq, Int.reduceLE, Int.reduceLT, Int.reduceToNat, z2]
    refine awake9.pv trivial ?_
    simp only [go_sem, Int.reduceEq, Int.reduceLE, Int.reduceLT, Int.reduceToNat]
    exact Fin.v rfl
  subst he
  have z1 : (((0 : Nat) : Int) != 0) = false := rfl
  obtain ⟨gx, hfx⟩ := hf rfl
  simp only at gx hfx
  have h2 := rFits x (by have := (mayZ gx.1).2; omega) gx.2 (s.extract m s.size) (by rw [sub_size hm]; omega)
  rw [hfx] at h2
  have z3 : (fitB r s != fitB r s) = false := bne_self_eq_false _
  have z5 : (fitB r s == fitB r s) = true := beq_self_eq_true _
  simp only [go_sem, Int.reduceEq, Int.reduceLE, Int.reduceLT, Int.reduceToNat, z1, hm, Nat.zero_le, Nat.le_refl]
  refine h2.qv ⟨.same (Re.d_bl _), .v, trivial⟩ ?_
  simp only [go_sem, Int.reduceEq, Int.reduceLE, Int.reduceLT, Int.reduceToNat]
  refine hf0.pv ⟨.same (Re.d_bl _), .v, trivial⟩ ?_
  simp only [go_sem, Int.reduceEq, Int.reduceLE, Int.reduceLT, Int.reduceToNat, z3]
  by_cases h0 : s.size = 0
  · have z4 : ((s.size : Int) == 0) = true := by rw [h0]; rfl
    simp only [go_sem, Int.reduceEq, Int.reduceLE, Int.reduceLT, Int.reduceToNat, z4]
    refine awake9.pv trivial ?_
    simp only [go_sem, Int.reduceEq, Int.reduceLE, Int.reduceLT, Int.reduceToNat]
    exact Fin.v rfl
  have z4 : ((s.size : Int) == 0) = false := beq_eq_false_iff_ne.2 (by omega)
  obtain ⟨u, hu⟩ := get_lt (show 0 < s.size by omega)
  have hbu : byteAt s 0 = u.toNat := by unfold byteAt; rw [at_of hu]
  have h3 := nPlain u r hz hw
  have hf2 := fit_drv hw (show 0 < s.size by omega)
  rw [hbu] at hf2
  generalize pln u.toNat r = y at h3 hf2
  obtain ⟨y, e⟩ := y
  simp only [go_sem, Int.reduceEq, Int.reduceLE, Int.reduceLT, Int.reduceToNat, z4, hu, ne_eq, reduceCtorEq, not_false_eq_true, implies_true]
  refine h3.qd ⟨.same (Re.d_bl _), .v, trivial⟩ (plD_bl _) ?_
  simp only [go_sem, Int.reduceEq, Int.reduceLE, Int.reduceLT, Int.reduceToNat, ne_eq, reduceCtorEq, not_false_eq_true, implies_true]
  refine ⟨stFit_re y, ?_⟩
  by_cases he : e = 0
  case neg =>
    have z2 : (((e : Nat) : Int) != 0) = true := bne_true (by omega)
    simp only [go_sem, Int.reduceEq, Int.reduceLE, Int.reduceLT, Int.reduceToNat, z2]
    refine awake9.pv trivial ?_
    simp only [go_sem, Int.reduceEq, Int.reduceLE, Int.reduceLT, Int.reduceToNat]
    exact Fin.v rfl
  subst he
  obtain ⟨gy, hfy⟩ := hf2 rfl
  simp only at gy hfy
  have hs1 : 1 ≤ s.size := by omega
  have h4 := rFits y (by have := (mayZ gy.1).2; omega) gy.2 (s.extract 1 s.size) (by rw [sub_size hs1]; omega)
  rw [hfy] at h4
  simp only [go_sem, Int.reduceEq, Int.reduceLE, Int.reduceLT, Int.reduceToNat, z1, hs1, Nat.zero_le, Nat.le_refl]
  refine h4.qv ⟨.same (Re.d_bl _), .v, trivial⟩ ?_
  simp only [go_sem, Int.reduceEq, Int.reduceLE, Int.reduceLT, Int.reduceToNat]
  refine hf0.pv ⟨.same (Re.d_bl _), .v, trivial⟩ ?_
  simp only [go_sem, Int.reduceEq, Int.reduceLE, Int.reduceLT, Int.reduceToNat, z5]
  refine awake9.pv trivial ?_
  simp only [go_sem, Int.reduceEq, Int.reduceLE, Int.reduceLT, Int.reduceToNat]
  exact Fin.v rfl
end Go.Proofs.YtlejbkfefpfolaaGreatDoor.W
set_option maxRecDepth 100000
/- The lines of a trace: both; they are the same. -/
namespace Go.Proofs.YtlejbkfefpfolaaGreatDoor.W
open Go Go.Proofs Go.Proofs.YtlejbkfefpfolaaGreatDoor.AWP
attribute [local irreducible] xl hide aop aops aopQ qops guardP condP
abbrev Strs (l : List ByteArray) : D := .sl 1 (l.map fun x => [.s x])
end Go.Proofs.YtlejbkfefpfolaaGreatDoor.W
