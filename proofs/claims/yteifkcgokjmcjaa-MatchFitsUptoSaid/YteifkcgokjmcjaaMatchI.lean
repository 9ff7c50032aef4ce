/- Where texts end: one as often as one likes. -/
import Derived.Test.YteifkcgokjmcjaaMatchH
set_option linter.unusedVariables false
set_option linter.unusedSimpArgs false
set_option linter.unusedSectionVars false
set_option maxRecDepth 100000
/- Where texts end: one as often as one likes. -/
namespace Go.Proofs.Yteifkcgokjmcjaa.W
open Go Go.Proofs Go.Proofs.Yteifkcgokjmcjaa.AWP
attribute [local irreducible] xl hide aop aops aopQ qops guardP condP

/-- What holds ahead of each round. -/
structure StarI (R : Nat → Nat → Prop) (p o : List Bool) (more : Bool) : Prop where
  len : o.length = p.length
  up : ∀ j, On o j → On (img (StarR R) p) j
  low : ∀ j, On p j → On o j
  done : more = false → ∀ i j, On o i → R i j → j < p.length → On o j
theorem StarI.start (R : Nat → Nat → Prop) (p : List Bool) : StarI R p p true := ⟨rfl, fun j h => on_img.2 ⟨h.lt, j, h, .refl j⟩, fun _ h => h, fun h => by cases h⟩
theorem StarI.fin {R : Nat → Nat → Prop} {p o : List Bool} (hR : ∀ i j, i < p.length → R i j → j < p.length) (h : StarI R p o false) : o = img (StarR R) p := by
  refine on_ext (by rw [img_len]; exact h.len) fun j hj => ⟨h.up j, fun hi => ?_⟩
  obtain ⟨_, i, h1, hs⟩ := on_img.1 hi
  clear hi
  have key : ∀ j, StarR R i j → On o j := by
    intro j hs
    induction hs with
    | refl => exact h.low _ h1
    | step _ h' ih =>
      have hk := ih.lt
      have := h.len
      exact h.done rfl _ _ ih h' (hR _ _ (by omega) h')
  exact key j hs
theorem StarI.next {R : Nat → Nat → Prop} {p o : List Bool} {m : Bool} (h : StarI R p o m) : StarI R p (orL o (img R o)) (newL o (img R o)) := by
  have hl : o.length = (img R o).length := (img_len _ _).symm
  refine ⟨by rw [orL_len hl]; exact h.len, fun j hj => ?_, fun j hj => (on_or hl).2 (.inl (h.low j hj)), fun hn i j hi hr hj => ?_⟩
  · rcases (on_or hl).1 hj with hj | hj
    · exact h.up j hj
    · obtain ⟨hjl, i, hi, hr⟩ := on_img.1 hj
      obtain ⟨_, i0, hi0, hs⟩ := on_img.1 (h.up i hi)
      exact on_img.2 ⟨by rw [← h.len]; exact hjl, i0, hi0, .step hs hr⟩
  · have sub : ∀ j, On (img R o) j → On o j := by
      intro j hj
      by_cases ho : On o j
      · exact ho
      · have := (newL_iff hl).2 ⟨j, hj, ho⟩
        rw [hn] at this; cases this
    have hio : On o i := ((on_or hl).1 hi).elim id (sub i)
    exact (on_or hl).2 (.inr (on_img.2 ⟨by rw [h.len]; exact hj, i, hio, hr⟩))
theorem StarI.less (R : Nat → Nat → Prop) (o : List Bool) : 2 * offs (orL o (img R o)) + (if newL o (img R o) then 1 else 0) < 2 * offs o + 1 := by
  have hl : o.length = (img R o).length := (img_len _ _).symm
  cases hn : newL o (img R o)
  · have := offs_le hl
    simp; omega
  · have := offs_lt hl hn
    simp; omega
theorem newL_self (o : List Bool) : newL o o = false := by
  cases h : newL o o
  · rfl
  · obtain ⟨i, h1, h2⟩ := (newL_iff rfl).1 h
    exact absurd h1 h2
theorem orL_self (o : List Bool) : orL o o = o := on_ext (orL_len rfl) fun i _ => by rw [on_or rfl]; exact ⟨fun h => h.elim id id, .inl⟩

def stG (o q : List Bool) (i : Nat) : List Bool := orL (o.take i) (q.take i) ++ o.drop i
def nwG (o q : List Bool) (i : Nat) : Bool := newL (o.take i) (q.take i)
theorem stG_0 (o q : List Bool) : stG o q 0 = o := by simp [stG, orL]
theorem nwG_0 (o q : List Bool) : nwG o q 0 = false := by simp [nwG, newL]
theorem stG_end {o q : List Bool} {n : Nat} (h1 : o.length = n) (h2 : q.length = n) : stG o q n = orL o q := by
  unfold stG
  rw [List.take_of_length_le (by omega), List.take_of_length_le (by omega), List.drop_eq_nil_of_le (by omega), List.append_nil]
theorem nwG_end {o q : List Bool} {n : Nat} (h1 : o.length = n) (h2 : q.length = n) : nwG o q n = newL o q := by
  unfold nwG
  rw [List.take_of_length_le (by omega), List.take_of_length_le (by omega)]
theorem stG_get {o q : List Bool} {i : Nat} {u v : Bool} (h1 : o[i]? = some u) (h2 : q[i]? = some v) : (stG o q i)[i]? = some u := by
  have l1 := (List.getElem?_eq_some_iff.1 h1).1
  have l2 := (List.getElem?_eq_some_iff.1 h2).1
  have hol : (orL (o.take i) (q.take i)).length = i := by rw [orL_len (by simp; omega)]; simp; omega
  unfold stG
  rw [List.getElem?_append_right (by omega), hol, Nat.sub_self, List.getElem?_drop, Nat.add_zero]
  exact h1
theorem stG_set {o q : List Bool} {i : Nat} {u v : Bool} (h1 : o[i]? = some u) (h2 : q[i]? = some v) : (stG o q i).set i (u || v) = stG o q (i + 1) := by
  have l1 := (List.getElem?_eq_some_iff.1 h1).1
  have l2 := (List.getElem?_eq_some_iff.1 h2).1
  have hol : (orL (o.take i) (q.take i)).length = i := by rw [orL_len (by simp; omega)]; simp; omega
  unfold stG
  rw [or_take h1 h2, List.set_append_right _ _ (by omega), hol, Nat.sub_self, drop_get h1, List.set_cons_zero]
  simp
theorem stG_keep {o q : List Bool} {i : Nat} {u v : Bool} (h1 : o[i]? = some u) (h2 : q[i]? = some v) (h : (v && !u) = false) : stG o q i = stG o q (i + 1) := by
  unfold stG
  rw [or_take h1 h2, drop_get h1]
  have : (u || v) = u := by cases u <;> cases v <;> first | rfl | cases h
  rw [this]
  simp
theorem nwG_step {o q : List Bool} {i : Nat} {u v : Bool} (h1 : o[i]? = some u) (h2 : q[i]? = some v) : nwG o q (i + 1) = (nwG o q i || (v && !u)) := new_take h1 h2
theorem stG_len {o q : List Bool} {n i : Nat} (h1 : o.length = n) (h2 : q.length = n) (h : i ≤ n) : (stG o q i).length = n := by
  unfold stG
  rw [List.length_append, orL_len (by simp; omega)]
  simp; omega

set_option maxHeartbeats 8000000 in
theorem rE6D (s : ByteArray) (hs : s.size ≤ 1000) (x : Re) (hox : x.nodesOk = true) (hx : rD s x ∧ rO s x) : rD s (.mk 6 0 0 0 0 [x]) := by
  have hw1 := wrap_succ s.size (by omega)
  have hb : ((s.size + 1 : Nat) : Int) ≤ 281474976710656 := by omega
  intro p hp
  have himg : img ((Re.mk 6 0 0 0 0 [x]).mt s) p = img (StarR (x.mt s)) p := img_congr fun i j _ _ => mt_6
  rw [himg]
  by_cases hk6 : ∃ z, x = .mk 6 0 0 0 0 [z]
  · obtain ⟨z, rfl⟩ := hk6
    have e : img (StarR ((Re.mk 6 0 0 0 0 [z]).mt s)) p = img ((Re.mk 6 0 0 0 0 [z]).mt s) p := img_congr fun i j _ _ => by rw [star_star, mt_6]
    rw [e]
    have c1 := hx.1 p hp
    rw [Re.c_mk, Re.cs_eq] at c1
    refine AC.lbody hT hm Try.func80 f80_nm f80_lc f80_res f80_nt ?_
    simp only [go_sem, Int.reduceEq, Int.reduceLE, Int.reduceLT, Int.reduceToNat, hw1, hb, Re.c_mk, Int.reduceBEq]
    refine ⟨by omega, by omega, ?_⟩
    refine c1.pd ⟨.same (by simp), .v, .same (Bls_bl _), trivial⟩ (Bls_bl _) ?_
    simp only [go_sem, Int.reduceEq, Int.reduceLE, Int.reduceLT, Int.reduceToNat, Re.c_mk]
    exact Fin.ret (.same (Bls_bl _))
  have hcall := fun (o : List Bool) (ho : o.length = s.size + 1) => hx.2.call ho []
  have hepi := epsy_img s x hox
  have hyle := fun (i j : Nat) (h : x.mt s i j) => mt_le (s := s) _ hox i j h
  obtain ⟨k, a, b, c, d, ks⟩ := x
  have hk : k ≠ 6 := by
    rintro rfl
    rcases Re.ok_cases hox with ⟨k', h, e⟩ | ⟨a', b', c', d', _, e⟩ | ⟨k', u, v, h, e, _, _⟩ | ⟨u, e, hu⟩
    · cases e; omega
    · cases e
    · cases e; omega
    · cases e; exact hk6 ⟨u, rfl⟩
  generalize hRe : Re.mk k a b c d ks = x at hcall hepi hyle hx hox ⊢
  have hxc : x.c = (Re.mk k a b c d ks).c := by rw [hRe]
  rw [Re.c_mk, Re.cs_eq] at hxc
  generalize hR : x.mt s = R at hcall hepi hyle ⊢
  have hRn : ∀ i j, i < p.length → R i j → j < p.length := fun i j h1 h2 => by have := hyle i j h2; omega
  have hbp : (p.length : Int) ≤ 281474976710656 := by omega
  have hq : ∀ (om : List Ob) (ks : List (Option Nat)) (q : List Bool), Cv om (kF ks) ks (Bls q) (Bls q) := fun om ks q => .same (Bls_bl q)
  refine AC.lbody hT hm Try.func80 f80_nm f80_lc f80_res f80_nt ?_
  simp only [go_sem, Int.reduceEq, Int.reduceLE, Int.reduceLT, Int.reduceToNat, hw1, hb, Re.c_mk, Int.reduceBEq, hxc, AWP.beq_false hk, List.length_map, hbp]
  refine ⟨by omega, by omega, ?_⟩
  simp only [hxc] at hcall
  refine ⟨by omega, ?_⟩
  refine xl_loopM hT hm (fun q : List Bool × Bool => ⟨f80_i41 (.s s) (.pel (Re.mk 6 0 0 0 0 [x]).c) (.own 0) (.b q.2), [blOb q.1]⟩)
    (fun q => StarI R p q.1 q.2) (fun q => 2 * offs q.1 + (if q.2 then 1 else 0)) (p, true) (StarI.start R p) ?_ ?_
  · refine Mv.of [some 2] rfl ⟨.slcS rfl (bls_bl _), trivial⟩ ?_
    simp [f80_i41, hq, Re.c_mk, Re.cs_eq, hxc]
  rintro ⟨o, more⟩ hI
  dsimp only at hI
  cases more
  · simp only [go_sem, Int.reduceEq, Int.reduceLE, Int.reduceLT, Int.reduceToNat]
    rw [hI.fin hRn]
    exact Fin.ret (.frzS rfl rfl (bls_bl _))
  have hol := hI.len
  have hN := hI.next
  have hL := StarI.less R o
  have hil := img_len R o
  have ho := hcall o (by omega)
  have hei := fun h => hepi h o (by omega)
  generalize img R o = q at hN hL hil ho hei
  simp only [go_sem, Int.reduceEq, Int.reduceLE, Int.reduceLT, Int.reduceToNat, Re.c_mk, Re.cs_eq, List.map_cons, List.map_nil, hxc]
  refine ⟨_, ho, ?_⟩
  rintro _ _ ⟨rfl, rfl⟩
  cases h1 : epsy x
  · simp only [go_sem, Int.reduceEq, Int.reduceLE, Int.reduceLT, Int.reduceToNat, List.length_map]
    refine xl_loopM hT hm (fun i : Nat => ⟨f80_i40 (.s s) (.pel (Re.mk 6 0 0 0 0 [x]).c) (.own 0) (.b (nwG o q i)) (Bls q) (.i q.length) (.i i), [blOb (stG o q i)]⟩)
      (fun i => i ≤ q.length) (fun i => q.length - i) 0 (Nat.zero_le _) ?_ ?_
    · refine Mv.of [some 0] rfl ⟨.slcS (by rw [stG_0]; rfl) (bls_bl _), trivial⟩ ?_
      simp [f80_i40, hq, Re.c_mk, Re.cs_eq, hxc, nwG_0]
    intro i hi
    simp only [go_sem, Int.reduceEq, Int.reduceLE, Int.reduceLT, Int.reduceToNat]
    by_cases h : i < q.length
    case neg =>
      obtain rfl : i = q.length := by omega
      rw [stG_end (by omega) rfl, nwG_end (by omega) rfl]
      simp only [go_sem, Int.reduceEq, Int.reduceLE, Int.reduceLT, Int.reduceToNat, h]
      refine ⟨(orL o q, newL o q), hN, by simpa using hL, Mv.of [some 0] rfl ⟨.slcS rfl (bls_bl _), trivial⟩ ?_⟩
      simp [f80_i41, hq, Re.c_mk, Re.cs_eq, hxc]
    obtain ⟨u, hu⟩ := get_ex (l := o) (i := i) (by omega)
    obtain ⟨v, hv⟩ := get_ex (l := q) (i := i) (by omega)
    have hgv := bls_get hv
    have hz := stG_get hu hv
    have hgz := bls_get hz
    have hzl := (List.getElem?_eq_some_iff.1 hz).1
    have hwi := wrap_succ i (by omega)
    have e1 := stG_set hu hv
    have e2 := stG_keep hu hv
    have e3 := nwG_step hu hv
    have e4 : ∀ b, (bls (stG o q i)).set i [.v (.bool b)] = bls ((stG o q i).set i b) := fun b => bls_set _ _ _
    cases v
    · have e2 := e2 (by simp)
      simp only [Bool.false_and, Bool.or_false] at e3
      simp only [go_sem, Int.reduceEq, Int.reduceLE, Int.reduceLT, Int.reduceToNat, h, hgv, hwi, Nat.div_one, Nat.mod_one, List.length_map]
      refine ⟨i + 1, h, by omega, ?_⟩
      rw [e3, ← e2]
      exact Mv.of [some 0] rfl ⟨.slcS rfl (bls_bl _), trivial⟩ (by simp [f80_i40, hq, Re.c_mk, Re.cs_eq, hxc])
    cases u
    · simp only [Bool.true_and, Bool.not_false, Bool.or_true] at e3 e1
      simp only [go_sem, Int.reduceEq, Int.reduceLE, Int.reduceLT, Int.reduceToNat, h, hgv, hgz, hzl, hwi, Nat.div_one, Nat.mod_one, List.length_map, Bool.not_false, e4, e1]
      refine ⟨i + 1, h, by omega, ?_⟩
      rw [e3]
      exact Mv.of [some 0] rfl ⟨.slcS rfl (bls_bl _), trivial⟩ (by simp [f80_i40, hq, Re.c_mk, Re.cs_eq, hxc])
    · have e2 := e2 (by simp)
      simp only [Bool.true_and, Bool.not_true, Bool.or_false] at e3
      simp only [go_sem, Int.reduceEq, Int.reduceLE, Int.reduceLT, Int.reduceToNat, h, hgv, hgz, hzl, hwi, Nat.div_one, Nat.mod_one, List.length_map, Bool.not_true]
      refine ⟨i + 1, h, by omega, ?_⟩
      rw [e3, ← e2]
      exact Mv.of [some 0] rfl ⟨.slcS rfl (bls_bl _), trivial⟩ (by simp [f80_i40, hq, Re.c_mk, Re.cs_eq, hxc])
  · have := hei h1
    subst this
    rw [newL_self, orL_self] at hN hL
    simp only [go_sem, Int.reduceEq, Int.reduceLE, Int.reduceLT, Int.reduceToNat, List.length_map]
    refine xl_loopM hT hm (fun i : Nat => ⟨f80_i40 (.s s) (.pel (Re.mk 6 0 0 0 0 [x]).c) (.own 0) (.b false) (.own 0) (.i q.length) (.i i), [blOb q]⟩)
      (fun i => i ≤ q.length) (fun i => q.length - i) 0 (Nat.zero_le _) ?_ ?_
    · refine Mv.of [some 0] rfl ⟨.slcS rfl (bls_bl _), trivial⟩ ?_
      simp [f80_i40, hq, Re.c_mk, Re.cs_eq, hxc]
    intro i hi
    simp only [go_sem, Int.reduceEq, Int.reduceLE, Int.reduceLT, Int.reduceToNat, List.length_map]
    by_cases h : i < q.length
    case neg =>
      simp only [go_sem, Int.reduceEq, Int.reduceLE, Int.reduceLT, Int.reduceToNat, h]
      refine ⟨(q, false), hN, by simp, Mv.of [some 0] rfl ⟨.slcS rfl (bls_bl _), trivial⟩ ?_⟩
      simp [f80_i41, hq, Re.c_mk, Re.cs_eq, hxc]
    obtain ⟨u, hu⟩ := get_ex h
    have hgu := bls_get hu
    have hwi := wrap_succ i (by omega)
    cases u
    all_goals
      simp only [go_sem, Int.reduceEq, Int.reduceLE, Int.reduceLT, Int.reduceToNat, h, hu, hgu, hwi, Nat.div_one, Nat.mod_one, List.length_map, Bool.not_true]
      refine ⟨i + 1, h, by omega, ?_⟩
      exact Mv.of [some 0] rfl ⟨.slcS rfl (bls_bl _), trivial⟩ (by simp [f80_i40, hq, Re.c_mk, Re.cs_eq, hxc])
end Go.Proofs.Yteifkcgokjmcjaa.W
