/- Whether an expression fits texts: the program's and the document's. -/
import Derived.Test.YtlejbkfefpfolaaGreatDoorMatchB
set_option linter.unusedVariables false
set_option linter.unusedSimpArgs false
set_option linter.unusedSectionVars false
set_option maxRecDepth 100000
/- Where texts end: one as often as one likes. -/
namespace Go.Proofs.YtlejbkfefpfolaaGreatDoor.W
open Go Go.Proofs Go.Proofs.YtlejbkfefpfolaaGreatDoor.AWP
attribute [local irreducible] xl hide aop aops aopQ qops guardP condP
/-- What holds ahead of each round. -/
structure StarI (R : Nat → Nat → Prop) (p o : List Bool) (more : Bool) : Prop where
  len : o.length = p.length
  up : ∀ j, On o j → On (img (StarR R) p) j
  low : ∀ j, On p j → On o j
  done : more = false → ∀ i j, On o i → R i j → j < p.length → On o j
theorem StarI.start (R : Nat → Nat → Prop) (p : List Bool) : StarI R p p true := ⟨rfl, fun j h => on_img.2 ⟨h.lt, j, h, .refl j⟩, fun _ h => h, fun h => by cases h⟩
theorem StarI.fin {R : Nat → Nat → Prop} {p o : List Bool} (hR : ∀ i j, i < p.length → R i j → j < p.length) (h : StarI R p o false) : o = img (StarR R) p := by
  refine on_ext (by rw [img_len]; exact h.len) fun j hj => ⟨h.up j, fun hi => ?_⟩
  obtain ⟨_, i, h1, hs⟩ := on_img.1 hi
  clear hi
  have key : ∀ j, StarR R i j → On o j := by
    intro j hs
    induction hs with
    | refl => exact h.low _ h1
    | step _ h' ih =>
      have hk := ih.lt
      have := h.len
      exact h.done rfl _ _ ih h' (hR _ _ (by omega) h')
  exact key j hs
theorem StarI.next {R : Nat → Nat → Prop} {p o : List Bool} {m : Bool} (h : StarI R p o m) : StarI R p (orL o (img R o)) (newL o (img R o)) := by
  have hl : o.length = (img R o).length := (img_len _ _).symm
  refine ⟨by rw [orL_len hl]; exact h.len, fun j hj => ?_, fun j hj => (on_or hl).2 (.inl (h.low j hj)), fun hn i j hi hr hj => ?_⟩
  · rcases (on_or hl).1 hj with hj | hj
    · exact h.up j hj
    · obtain ⟨hjl, i, hi, hr⟩ := on_img.1 hj
      obtain ⟨_, i0, hi0, hs⟩ := on_img.1 (h.up i hi)
      exact on_img.2 ⟨by rw [← h.len]; exact hjl, i0, hi0, .step hs hr⟩
  · have sub : ∀ j, On (img R o) j → On o j := by
      intro j hj
      by_cases ho : On o j
      · exact ho
      · have := (newL_iff hl).2 ⟨j, hj, ho⟩
        rw [hn] at this; cases this
    have hio : On o i := ((on_or hl).1 hi).elim id (sub i)
    exact (on_or hl).2 (.inr (on_img.2 ⟨by rw [h.len]; exact hj, i, hio, hr⟩))
theorem StarI.less (R : Nat → Nat → Prop) (o : List Bool) : 2 * offs (orL o (img R o)) + (if newL o (img R o) then 1 else 0) < 2 * offs o + 1 := by
  have hl : o.length = (img R o).length := (img_len _ _).symm
  cases hn : newL o (img R o)
  · have := offs_le hl
    simp; omega
  · have := offs_lt hl hn
    simp; omega
theorem newL_self (o : List Bool) : newL o o = false := by
  cases h : newL o o
  · rfl
  · obtain ⟨i, h1, h2⟩ := (newL_iff rfl).1 h
    exact absurd h1 h2
theorem orL_self (o : List Bool) : orL o o = o := on_ext (orL_len rfl) fun i _ => by rw [on_or rfl]; exact ⟨fun h => h.elim id id, .inl⟩
def stG (o q : List Bool) (i : Nat) : List Bool := orL (o.take i) (q.take i) ++ o.drop i
def nwG (o q : List Bool) (i : Nat) : Bool := newL (o.take i) (q.take i)
theorem stG_0 (o q : List Bool) : stG o q 0 = o := by simp [stG, orL]
theorem nwG_0 (o q : List Bool) : nwG o q 0 = false := by simp [nwG, newL]
theorem stG_end {o q : List Bool} {n : Nat} (h1 : o.length = n) (h2 : q.length = n) : stG o q n = orL o q := by
  unfold stG
  rw [List.take_of_length_le (by omega), List.take_of_length_le (by omega), List.drop_eq_nil_of_le (by omega), List.append_nil]
theorem nwG_end {o q : List Bool} {n : Nat} (h1 : o.length = n) (h2 : q.length = n) : nwG o q n = newL o q := by
  unfold nwG
  rw [List.take_of_length_le (by omega), List.take_of_length_le (by omega)]
theorem stG_get {o q : List Bool} {i : Nat} {u v : Bool} (h1 : o[i]? = some u) (h2 : q[i]? = some v) : (stG o q i)[i]? = some u := by
  have l1 := (List.getElem?_eq_some_iff.1 h1).1
  have l2 := (List.getElem?_eq_some_iff.1 h2).1
  have hol : (orL (o.take i) (q.take i)).length = i := by rw [orL_len (by simp; omega)]; simp; omega
  unfold stG
  rw [List.getElem?_append_right (by omega), hol, Nat.sub_self, List.getElem?_drop, Nat.add_zero]
  exact h1
theorem stG_set {o q : List Bool} {i : Nat} {u v : Bool} (h1 : o[i]? = some u) (h2 : q[i]? = some v) : (stG o q i).set i (u || v) = stG o q (i + 1) := by
  have l1 := (List.getElem?_eq_some_iff.1 h1).1
  have l2 := (List.getElem?_eq_some_iff.1 h2).1
  have hol : (orL (o.take i) (q.take i)).length = i := by rw [orL_len (by simp; omega)]; simp; omega
  unfold stG
  rw [or_take h1 h2, List.set_append_right _ _ (by omega), hol, Nat.sub_self, drop_get h1, List.set_cons_zero]
  simp
theorem stG_keep {o q : List Bool} {i : Nat} {u v : Bool} (h1 : o[i]? = some u) (h2 : q[i]? = some v) (h : (v && !u) = false) : stG o q i = stG o q (i + 1) := by
  unfold stG
  rw [or_take h1 h2, drop_get h1]
  have : (u || v) = u := by cases u <;> cases v <;> first | rfl | cases h
  rw [this]
  simp
theorem nwG_step {o q : List Bool} {i : Nat} {u v : Bool} (h1 : o[i]? = some u) (h2 : q[i]? = some v) : nwG o q (i + 1) = (nwG o q i || (v && !u)) := new_take h1 h2
set_option maxHeartbeats 8000000 in
theorem rE6D (s : ByteArray) (hs : s.size ≤ 1000) (x : Re) (hox : x.nodesOk = true) (hx : rD s x ∧ rO s x) : rD s (.mk 6 0 0 0 0 [x]) := by
  have hw1 := wrap_succ s.size (by omega)
  have hb : ((s.size + 1 : Nat) : Int) ≤ 281474976710656 := by omega
  intro p hp
  have himg : img ((Re.mk 6 0 0 0 0 [x]).mt s) p = img (StarR (x.mt s)) p := img_congr fun i j _ _ => mt_6
  rw [himg]
  by_cases hk6 : ∃ z, x = .mk 6 0 0 0 0 [z]
  · obtain ⟨z, rfl⟩ := hk6
    have e : img (StarR ((Re.mk 6 0 0 0 0 [z]).mt s)) p = img ((Re.mk 6 0 0 0 0 [z]).mt s) p := img_congr fun i j _ _ => by rw [star_star, mt_6]
    rw [e]
    have c1 := hx.1 p hp
    rw [Re.c_mk, Re.cs_eq] at c1
    refine AC.lbody hT hm Tryz.func36 f36_nm f36_lc f36_res f36_nt ?_
    simp only [go_sem, Int.reduceEq, Int.reduceLE, Int.reduceLT, Int.reduceToNat, hw1, hb, Re.c_mk, Int.reduceBEq]
    refine ⟨by omega, by omega, ?_⟩
    refine c1.pd ⟨.same (by simp), .v, .same (Bls_bl _), trivial⟩ (Bls_bl _) ?_
    simp only [go_sem, Int.reduceEq, Int.reduceLE, Int.reduceLT, Int.reduceToNat, Re.c_mk]
    exact Fin.ret (.same (Bls_bl _))
  have hcall := fun (o : List Bool) (ho : o.length = s.size + 1) => hx.2.call ho []
  have hepi := epsy_img s x hox
  have hyle := fun (i j : Nat) (h : x.mt s i j) => mt_le (s := s) _ hox i j h
  obtain ⟨k, a, b, c, d, ks⟩ := x
  have hk : k ≠ 6 := by
    rintro rfl
    rcases Re.ok_cases hox with ⟨k', h, e⟩ | ⟨a', b', c', d', _, e⟩ | ⟨k', u, v, h, e, _, _⟩ | ⟨u, e, hu⟩
    · cases e; omega
    · cases e
    · cases e; omega
    · cases e; exact hk6 ⟨u, rfl⟩
  generalize hRe : Re.mk k a b c d ks = x at hcall hepi hyle hx hox ⊢
  have hxc : x.c = (Re.mk k a b c d ks).c := by rw [hRe]
  rw [Re.c_mk, Re.cs_eq] at hxc
  generalize hR : x.mt s = R at hcall hepi hyle ⊢
  have hRn : ∀ i j, i < p.length → R i j → j < p.length := fun i j h1 h2 => by have := hyle i j h2; omega
  have hbp : (p.length : Int) ≤ 281474976710656 := by omega
  have hq : ∀ (om : List Ob) (ks : List (Option Nat)) (q : List Bool), Cv om (kF ks) ks (Bls q) (Bls q) := fun om ks q => .same (Bls_bl q)
  refine AC.lbody hT hm Tryz.func36 f36_nm f36_lc f36_res f36_nt ?_
  simp only [go_sem, Int.reduceEq, Int.reduceLE, Int.reduceLT, Int.reduceToNat, hw1, hb, Re.c_mk, Int.reduceBEq, hxc, AWP.beq_false hk, List.length_map, hbp]
  refine ⟨by omega, by omega, ?_⟩
  simp only [hxc] at hcall
  refine ⟨by omega, ?_⟩
  refine xl_loopM hT hm (fun q : List Bool × Bool => ⟨f36_i41 (.s s) (.pel (Re.mk 6 0 0 0 0 [x]).c) (.own 0) (.b q.2), [blOb q.1]⟩)
    (fun q => StarI R p q.1 q.2) (fun q => 2 * offs q.1 + (if q.2 then 1 else 0)) (p, true) (StarI.start R p) ?_ ?_
  · refine Mv.of [some 2] rfl ⟨.slcS rfl (bls_bl _), trivial⟩ ?_
    simp [f36_i41, hq, Re.c_mk, Re.cs_eq, hxc]
  rintro ⟨o, more⟩ hI
  dsimp only at hI
  cases more
  · simp only [go_sem, Int.reduceEq, Int.reduceLE, Int.reduceLT, Int.reduceToNat]
    rw [hI.fin hRn]
    exact Fin.ret (.frzS rfl rfl (bls_bl _))
  have hol := hI.len
  have hN := hI.next
  have hL := StarI.less R o
  have hil := img_len R o
  have ho := hcall o (by omega)
  have hei := fun h => hepi h o (by omega)
  generalize img R o = q at hN hL hil ho hei
  simp only [go_sem, Int.reduceEq, Int.reduceLE, Int.reduceLT, Int.reduceToNat, Re.c_mk, Re.cs_eq, List.map_cons, List.map_nil, hxc]
  refine ⟨_, ho, ?_⟩
  rintro _ _ ⟨rfl, rfl⟩
  cases h1 : epsy x
  · simp only [go_sem, Int.reduceEq, Int.reduceLE, Int.reduceLT, Int.reduceToNat, List.length_map]
    refine xl_loopM hT hm (fun i : Nat => ⟨f36_i40 (.s s) (.pel (Re.mk 6 0 0 0 0 [x]).c) (.own 0) (.b (nwG o q i)) (Bls q) (.i q.length) (.i i), [blOb (stG o q i)]⟩)
      (fun i => i ≤ q.length) (fun i => q.length - i) 0 (Nat.zero_le _) ?_ ?_
    · refine Mv.of [some 0] rfl ⟨.slcS (by rw [stG_0]; rfl) (bls_bl _), trivial⟩ ?_
      simp [f36_i40, hq, Re.c_mk, Re.cs_eq, hxc, nwG_0]
    intro i hi
    simp only [go_sem, Int.reduceEq, Int.reduceLE, Int.reduceLT, Int.reduceToNat]
    by_cases h : i < q.length
    case neg =>
      obtain rfl : i = q.length := by omega
      rw [stG_end (by omega) rfl, nwG_end (by omega) rfl]
      simp only [go_sem, Int.reduceEq, Int.reduceLE, Int.reduceLT, Int.reduceToNat, h]
      refine ⟨(orL o q, newL o q), hN, by simpa using hL, Mv.of [some 0] rfl ⟨.slcS rfl (bls_bl _), trivial⟩ ?_⟩
      simp [f36_i41, hq, Re.c_mk, Re.cs_eq, hxc]
    obtain ⟨u, hu⟩ := get_ex (l := o) (i := i) (by omega)
    obtain ⟨v, hv⟩ := get_ex (l := q) (i := i) (by omega)
    have hgv := bls_get hv
    have hz := stG_get hu hv
    have hgz := bls_get hz
    have hzl := (List.getElem?_eq_some_iff.1 hz).1
    have hwi := wrap_succ i (by omega)
    have e1 := stG_set hu hv
    have e2 := stG_keep hu hv
    have e3 := nwG_step hu hv
    have e4 : ∀ b, (bls (stG o q i)).set i [.v (.bool b)] = bls ((stG o q i).set i b) := fun b => bls_set _ _ _
    cases v
    · have e2 := e2 (by simp)
      simp only [Bool.false_and, Bool.or_false] at e3
      simp only [go_sem, Int.reduceEq, Int.reduceLE, Int.reduceLT, Int.reduceToNat, h, hgv, hwi, Nat.div_one, Nat.mod_one, List.length_map]
      refine ⟨i + 1, h, by omega, ?_⟩
      rw [e3, ← e2]
      exact Mv.of [some 0] rfl ⟨.slcS rfl (bls_bl _), trivial⟩ (by simp [f36_i40, hq, Re.c_mk, Re.cs_eq, hxc])
    cases u
    · simp only [Bool.true_and, Bool.not_false, Bool.or_true] at e3 e1
      simp only [go_sem, Int.reduceEq, Int.reduceLE, Int.reduceLT, Int.reduceToNat, h, hgv, hgz, hzl, hwi, Nat.div_one, Nat.mod_one, List.length_map, Bool.not_false, e4, e1]
      refine ⟨i + 1, h, by omega, ?_⟩
      rw [e3]
      exact Mv.of [some 0] rfl ⟨.slcS rfl (bls_bl _), trivial⟩ (by simp [f36_i40, hq, Re.c_mk, Re.cs_eq, hxc])
    · have e2 := e2 (by simp)
      simp only [Bool.true_and, Bool.not_true, Bool.or_false] at e3
      simp only [go_sem, Int.reduceEq, Int.reduceLE, Int.reduceLT, Int.reduceToNat, h, hgv, hgz, hzl, hwi, Nat.div_one, Nat.mod_one, List.length_map, Bool.not_true]
      refine ⟨i + 1, h, by omega, ?_⟩
      rw [e3, ← e2]
      exact Mv.of [some 0] rfl ⟨.slcS rfl (bls_bl _), trivial⟩ (by simp [f36_i40, hq, Re.c_mk, Re.cs_eq, hxc])
  · have := hei h1
    subst this
    rw [newL_self, orL_self] at hN hL
    simp only [go_sem, Int.reduceEq, Int.reduceLE, Int.reduceLT, Int.reduceToNat, List.length_map]
    refine xl_loopM hT hm (fun i : Nat => ⟨f36_i40 (.s s) (.pel (Re.mk 6 0 0 0 0 [x]).c) (.own 0) (.b false) (.own 0) (.i q.length) (.i i), [blOb q]⟩)
      (fun i => i ≤ q.length) (fun i => q.length - i) 0 (Nat.zero_le _) ?_ ?_
    · refine Mv.of [some 0] rfl ⟨.slcS rfl (bls_bl _), trivial⟩ ?_
      simp [f36_i40, hq, Re.c_mk, Re.cs_eq, hxc]
    intro i hi
    simp only [go_sem, Int.reduceEq, Int.reduceLE, Int.reduceLT, Int.reduceToNat, List.length_map]
    by_cases h : i < q.length
    case neg =>
      simp only [go_sem, Int.reduceEq, Int.reduceLE, Int.reduceLT, Int.reduceToNat, h]
      refine ⟨(q, false), hN, by simp, Mv.of [some 0] rfl ⟨.slcS rfl (bls_bl _), trivial⟩ ?_⟩
      simp [f36_i41, hq, Re.c_mk, Re.cs_eq, hxc]
    obtain ⟨u, hu⟩ := get_ex h
    have hgu := bls_get hu
    have hwi := wrap_succ i (by omega)
    cases u
    all_goals
      simp only [go_sem, Int.reduceEq, Int.reduceLE, Int.reduceLT, Int.reduceToNat, h, hu, hgu, hwi, Nat.div_one, Nat.mod_one, List.length_map, Bool.not_true]
      refine ⟨i + 1, h, by omega, ?_⟩
      exact Mv.of [some 0] rfl ⟨.slcS rfl (bls_bl _), trivial⟩ (by simp [f36_i40, hq, Re.c_mk, Re.cs_eq, hxc])
end Go.Proofs.YtlejbkfefpfolaaGreatDoor.W
set_option maxRecDepth 100000
/- Where texts end: one as often as one likes, from places of one's own; all together. -/
namespace Go.Proofs.YtlejbkfefpfolaaGreatDoor.W
open Go Go.Proofs Go.Proofs.YtlejbkfefpfolaaGreatDoor.AWP
attribute [local irreducible] xl hide aop aops aopQ qops guardP condP
set_option maxHeartbeats 8000000 in
theorem rE6O (s : ByteArray) (hs : s.size ≤ 1000) (x : Re) (hox : x.nodesOk = true) (hx : rD s x ∧ rO s x) : rO s (.mk 6 0 0 0 0 [x]) := by
  have hw1 := wrap_succ s.size (by omega)
  have hb : ((s.size + 1 : Nat) : Int) ≤ 281474976710656 := by omega
  intro p hp
  have himg : img ((Re.mk 6 0 0 0 0 [x]).mt s) p = img (StarR (x.mt s)) p := img_congr fun i j _ _ => mt_6
  have hep : epsy (.mk 6 0 0 0 0 [x]) = false := by simp [epsy]
  rw [himg, hep]
  by_cases hk6 : ∃ z, x = .mk 6 0 0 0 0 [z]
  · obtain ⟨z, rfl⟩ := hk6
    have e : img (StarR ((Re.mk 6 0 0 0 0 [z]).mt s)) p = img ((Re.mk 6 0 0 0 0 [z]).mt s) p := img_congr fun i j _ _ => by rw [star_star, mt_6]
    rw [e]
    have c1 := hx.2.call hp [.slc 4 1 (List.replicate (s.size + 1) [D.v (.bool false)])]
    rw [Re.c_mk, Re.cs_eq, show epsy (.mk 6 0 0 0 0 [z]) = false from by simp [epsy]] at c1
    refine AC.lbody hT hm Tryz.func36 f36_nm f36_lc f36_res f36_nt ?_
    simp only [go_sem, Int.reduceEq, Int.reduceLE, Int.reduceLT, Int.reduceToNat, hw1, hb, Re.c_mk, Int.reduceBEq]
    refine ⟨by omega, by omega, ?_⟩
    refine ⟨_, c1, ?_⟩
    rintro _ _ ⟨rfl, rfl⟩
    simp only [go_sem, Int.reduceEq, Int.reduceLE, Int.reduceLT, Int.reduceToNat, Re.c_mk]
    exact keepO p _ (.same (Bls_bl _))
  have hcall := fun (o : List Bool) (ho : o.length = s.size + 1) => hx.2.call1 ho (blOb p) []
  have hepi := epsy_img s x hox
  have hyle := fun (i j : Nat) (h : x.mt s i j) => mt_le (s := s) _ hox i j h
  obtain ⟨k, a, b, c, d, ks⟩ := x
  have hk : k ≠ 6 := by
    rintro rfl
    rcases Re.ok_cases hox with ⟨k', h, e⟩ | ⟨a', b', c', d', _, e⟩ | ⟨k', u, v, h, e, _, _⟩ | ⟨u, e, hu⟩
    · cases e; omega
    · cases e
    · cases e; omega
    · cases e; exact hk6 ⟨u, rfl⟩
  generalize hRe : Re.mk k a b c d ks = x at hcall hepi hyle hx hox ⊢
  have hxc : x.c = (Re.mk k a b c d ks).c := by rw [hRe]
  rw [Re.c_mk, Re.cs_eq] at hxc
  generalize hR : x.mt s = R at hcall hepi hyle ⊢
  have hRn : ∀ i j, i < p.length → R i j → j < p.length := fun i j h1 h2 => by have := hyle i j h2; omega
  have hbp : (p.length : Int) ≤ 281474976710656 := by omega
  have hq : ∀ (om : List Ob) (ks : List (Option Nat)) (q : List Bool), Cv om (kF ks) ks (Bls q) (Bls q) := fun om ks q => .same (Bls_bl q)
  refine AC.lbody hT hm Tryz.func36 f36_nm f36_lc f36_res f36_nt ?_
  simp only [go_sem, Int.reduceEq, Int.reduceLE, Int.reduceLT, Int.reduceToNat, hw1, hb, Re.c_mk, Int.reduceBEq, hxc, AWP.beq_false hk, List.length_map, hbp]
  refine ⟨by omega, by omega, ?_⟩
  simp only [hxc] at hcall
  refine ⟨by omega, ?_⟩
  refine xl_loopM hT hm (fun q : List Bool × Bool => ⟨f36_i41 (.s s) (.pel (Re.mk 6 0 0 0 0 [x]).c) (.own 1) (.b q.2), [blOb p, blOb q.1]⟩)
    (fun q => StarI R p q.1 q.2) (fun q => 2 * offs q.1 + (if q.2 then 1 else 0)) (p, true) (StarI.start R p) ?_ ?_
  · refine Mv.of [some 0, some 3] rfl ⟨.slcS rfl (bls_bl _), .slcS rfl (bls_bl _), trivial⟩ ?_
    simp [f36_i41, hq, Re.c_mk, Re.cs_eq, hxc]
  rintro ⟨o, more⟩ hI
  dsimp only at hI
  cases more
  · simp only [go_sem, Int.reduceEq, Int.reduceLE, Int.reduceLT, Int.reduceToNat]
    rw [hI.fin hRn]
    exact keepF p _ (.frzS rfl rfl (bls_bl _))
  have hol := hI.len
  have hN := hI.next
  have hL := StarI.less R o
  have hil := img_len R o
  have ho := hcall o (by omega)
  have hei := fun h => hepi h o (by omega)
  generalize img R o = q at hN hL hil ho hei
  simp only [go_sem, Int.reduceEq, Int.reduceLE, Int.reduceLT, Int.reduceToNat, Re.c_mk, Re.cs_eq, List.map_cons, List.map_nil, hxc]
  refine ⟨_, ho, ?_⟩
  rintro _ _ ⟨rfl, rfl⟩
  cases h1 : epsy x
  · simp only [go_sem, Int.reduceEq, Int.reduceLE, Int.reduceLT, Int.reduceToNat, List.length_map]
    refine xl_loopM hT hm (fun i : Nat => ⟨f36_i40 (.s s) (.pel (Re.mk 6 0 0 0 0 [x]).c) (.own 1) (.b (nwG o q i)) (Bls q) (.i q.length) (.i i), [blOb p, blOb (stG o q i)]⟩)
      (fun i => i ≤ q.length) (fun i => q.length - i) 0 (Nat.zero_le _) ?_ ?_
    · refine Mv.of [some 0, some 1] rfl ⟨.slcS rfl (bls_bl _), .slcS (by rw [stG_0]; rfl) (bls_bl _), trivial⟩ ?_
      simp [f36_i40, hq, Re.c_mk, Re.cs_eq, hxc, nwG_0]
    intro i hi
    simp only [go_sem, Int.reduceEq, Int.reduceLE, Int.reduceLT, Int.reduceToNat]
    by_cases h : i < q.length
    case neg =>
      obtain rfl : i = q.length := by omega
      rw [stG_end (by omega) rfl, nwG_end (by omega) rfl]
      simp only [go_sem, Int.reduceEq, Int.reduceLE, Int.reduceLT, Int.reduceToNat, h]
      refine ⟨(orL o q, newL o q), hN, by simpa using hL, Mv.of [some 0, some 1] rfl ⟨.slcS rfl (bls_bl _), .slcS rfl (bls_bl _), trivial⟩ ?_⟩
      simp [f36_i41, hq, Re.c_mk, Re.cs_eq, hxc]
    obtain ⟨u, hu⟩ := get_ex (l := o) (i := i) (by omega)
    obtain ⟨v, hv⟩ := get_ex (l := q) (i := i) (by omega)
    have hgv := bls_get hv
    have hz := stG_get hu hv
    have hgz := bls_get hz
    have hzl := (List.getElem?_eq_some_iff.1 hz).1
    have hwi := wrap_succ i (by omega)
    have e1 := stG_set hu hv
    have e2 := stG_keep hu hv
    have e3 := nwG_step hu hv
    have e4 : ∀ b, (bls (stG o q i)).set i [.v (.bool b)] = bls ((stG o q i).set i b) := fun b => bls_set _ _ _
    cases v
    · have e2 := e2 (by simp)
      simp only [Bool.false_and, Bool.or_false] at e3
      simp only [go_sem, Int.reduceEq, Int.reduceLE, Int.reduceLT, Int.reduceToNat, h, hgv, hwi, Nat.div_one, Nat.mod_one, List.length_map]
      refine ⟨i + 1, h, by omega, ?_⟩
      rw [e3, ← e2]
      exact Mv.of [some 0, some 1] rfl ⟨.slcS rfl (bls_bl _), .slcS rfl (bls_bl _), trivial⟩ (by simp [f36_i40, hq, Re.c_mk, Re.cs_eq, hxc])
    cases u
    · simp only [Bool.true_and, Bool.not_false, Bool.or_true] at e3 e1
      simp only [go_sem, Int.reduceEq, Int.reduceLE, Int.reduceLT, Int.reduceToNat, h, hgv, hgz, hzl, hwi, Nat.div_one, Nat.mod_one, List.length_map, Bool.not_false, e4, e1]
      refine ⟨i + 1, h, by omega, ?_⟩
      rw [e3]
      exact Mv.of [some 0, some 1] rfl ⟨.slcS rfl (bls_bl _), .slcS rfl (bls_bl _), trivial⟩ (by simp [f36_i40, hq, Re.c_mk, Re.cs_eq, hxc])
    · have e2 := e2 (by simp)
      simp only [Bool.true_and, Bool.not_true, Bool.or_false] at e3
      simp only [go_sem, Int.reduceEq, Int.reduceLE, Int.reduceLT, Int.reduceToNat, h, hgv, hgz, hzl, hwi, Nat.div_one, Nat.mod_one, List.length_map, Bool.not_true]
      refine ⟨i + 1, h, by omega, ?_⟩
      rw [e3, ← e2]
      exact Mv.of [some 0, some 1] rfl ⟨.slcS rfl (bls_bl _), .slcS rfl (bls_bl _), trivial⟩ (by simp [f36_i40, hq, Re.c_mk, Re.cs_eq, hxc])
  · have := hei h1
    subst this
    rw [newL_self, orL_self] at hN hL
    simp only [go_sem, Int.reduceEq, Int.reduceLE, Int.reduceLT, Int.reduceToNat, List.length_map]
    refine xl_loopM hT hm (fun i : Nat => ⟨f36_i40 (.s s) (.pel (Re.mk 6 0 0 0 0 [x]).c) (.own 1) (.b false) (.own 1) (.i q.length) (.i i), [blOb p, blOb q]⟩)
      (fun i => i ≤ q.length) (fun i => q.length - i) 0 (Nat.zero_le _) ?_ ?_
    · refine Mv.of [some 0, some 1] rfl ⟨.slcS rfl (bls_bl _), .slcS rfl (bls_bl _), trivial⟩ ?_
      simp [f36_i40, hq, Re.c_mk, Re.cs_eq, hxc]
    intro i hi
    simp only [go_sem, Int.reduceEq, Int.reduceLE, Int.reduceLT, Int.reduceToNat, List.length_map]
    by_cases h : i < q.length
    case neg =>
      simp only [go_sem, Int.reduceEq, Int.reduceLE, Int.reduceLT, Int.reduceToNat, h]
      refine ⟨(q, false), hN, by simp, Mv.of [some 0, some 1] rfl ⟨.slcS rfl (bls_bl _), .slcS rfl (bls_bl _), trivial⟩ ?_⟩
      simp [f36_i41, hq, Re.c_mk, Re.cs_eq, hxc]
    obtain ⟨u, hu⟩ := get_ex h
    have hgu := bls_get hu
    have hwi := wrap_succ i (by omega)
    cases u
    all_goals
      simp only [go_sem, Int.reduceEq, Int.reduceLE, Int.reduceLT, Int.reduceToNat, h, hu, hgu, hwi, Nat.div_one, Nat.mod_one, List.length_map, Bool.not_true]
      refine ⟨i + 1, h, by omega, ?_⟩
      exact Mv.of [some 0, some 1] rfl ⟨.slcS rfl (bls_bl _), .slcS rfl (bls_bl _), trivial⟩ (by simp [f36_i40, hq, Re.c_mk, Re.cs_eq, hxc])
theorem rEnds (s : ByteArray) (hs : s.size ≤ 1000) (r : Re) : r.nodesOk = true → r.wd → rD s r ∧ rO s r := by
  have key : r.nodesOk = true → r.nodesOk = true ∧ (r.wd → rD s r ∧ rO s r) := by
    refine Re.indOk (p := fun r => r.nodesOk = true ∧ (r.wd → rD s r ∧ rO s r)) ?_ ?_ ?_ ?_ r
    · rintro k (rfl | rfl)
      · exact ⟨by decide, fun _ => rE1 s hs⟩
      · exact ⟨by decide, fun _ => rE2 s hs⟩
    · intro a b c d hn
      refine ⟨?_, fun hw => ?_⟩
      · rw [Re.nodesOk, Re.nodesOks]
        simp [Re.nodeOk, hn]
      · rw [Re.wd] at hw
        exact rE3 s hs a b c d hw.1
    · rintro k x y hk hox hoy ⟨_, hx⟩ ⟨_, hy⟩
      refine ⟨?_, fun hw => ?_⟩
      · rw [Re.nodesOk, Re.nodesOks, Re.nodesOks, Re.nodesOks, hox, hoy]
        rcases hk with rfl | rfl <;> rfl
      · rw [Re.wd, Re.wds, Re.wds, Re.wds] at hw
        have hx := hx hw.2.1
        have hy := hy hw.2.2.1
        rcases hk with rfl | rfl
        · exact rE4 s hs x y hox hx hy
        · exact ⟨rE5D s hs x y hx.1 hy.1, rE5O s hs x y hox hoy hx.2 hy.2⟩
    · rintro x hox ⟨_, hx⟩
      refine ⟨?_, fun hw => ?_⟩
      · rw [Re.nodesOk, Re.nodesOks, Re.nodesOks, hox]; rfl
      · rw [Re.wd, Re.wds, Re.wds] at hw
        have hx := hx hw.2.1
        exact ⟨rE6D s hs x hox hx, rE6O s hs x hox hx⟩
  exact fun h => (key h).2
end Go.Proofs.YtlejbkfefpfolaaGreatDoor.W
set_option maxRecDepth 100000
/- The document's ends; how long the longest text is. -/
namespace Go.Proofs.YtlejbkfefpfolaaGreatDoor.W
open Go Go.Proofs Go.Proofs.YtlejbkfefpfolaaGreatDoor.AWP
attribute [local irreducible] xl hide aop aops aopQ qops guardP condP
theorem markO (p : List Bool) (i : Nat) (hp : p.length ≤ 1000000) (h : i < p.length) : AC Tryz.prog 37 [.own 0, .i i] [blOb p] (retP (Bls (p.set i true)) [blOb p]) := by
  refine AC.lbody hT hm Tryz.func37 f37_nm f37_lc f37_res f37_nt ?_
  have hb : (p.length : Int) ≤ 281474976710656 := by omega
  obtain ⟨x, hx⟩ := get_ex h
  have hg := bls_get hx
  have hst : ∀ b, (bls p).set i [.v (.bool b)] = bls (p.set i b) := fun b => bls_set p i b
  simp only [go_sem, Int.reduceEq, Int.reduceLE, Int.reduceLT, Int.reduceToNat, List.length_map, hb, hx, Nat.div_one, Nat.mod_one, hst]
  refine ⟨by omega, ?_⟩
  exact Fin.mv (om' := [blOb p]) [some 0] rfl ⟨.slcS rfl (bls_bl _), trivial⟩ (.frzS rfl rfl (bls_bl _)) ⟨rfl, rfl⟩
/-- Where texts end that begin at a place. -/
noncomputable def endsB (r : Re) (s : ByteArray) (k : Int) : List Bool := if mayB r = true ∧ 0 ≤ k ∧ k ≤ s.size then endsG r s k.toNat else List.replicate (s.size + 1) false
theorem endsB_len (r : Re) (s : ByteArray) (k : Int) : (endsB r s k).length = s.size + 1 := by
  unfold endsB
  split
  · exact endsG_len _ _ _
  · simp
theorem rEndsB (r : Re) (hz : r.sz ≤ 1099511627776) (hw : r.wd) (s : ByteArray) (hs : s.size ≤ 1000) (k : Int) : AP Tryz.prog 19 [.agg r.c, .s s, .i k] (Bls (endsB r s k)) := by
  have hw1 := wrap_succ s.size (by omega)
  have hb : ((s.size + 1 : Nat) : Int) ≤ 281474976710656 := by omega
  have hrep : List.replicate (s.size + 1) [D.v (.bool false)] = bls (List.replicate (s.size + 1) false) := bls_rep _
  unfold endsB
  by_cases hc : mayB r = true ∧ 0 ≤ k ∧ k ≤ s.size
  case neg =>
    rw [if_neg hc]
    have nl : ∀ om : List Ob, om = [.slc 4 1 (List.replicate (s.size + 1) [D.v (.bool false)])] → AWP.Fin [] om (.ret (.own 0)) (fun o' om' => o' = .ret (Bls (List.replicate (s.size + 1) false)) ∧ om' = []) := by
      rintro _ rfl
      exact Fin.ret (.frzS (ty := 4) (by rw [hrep]; rfl) rfl (bls_bl _))
    refine AC.lbody hT hm Tryz.func19 f19_nm f19_lc f19_res f19_nt ?_
    simp only [go_sem, Int.reduceEq, Int.reduceLE, Int.reduceLT, Int.reduceToNat, hw1, hb]
    refine ⟨by omega, by omega, ?_⟩
    refine (rMay r hz).pv ⟨.same (Re.d_bl _), trivial⟩ ?_
    cases hmb : mayB r
    · simp only [go_sem, Int.reduceEq, Int.reduceLE, Int.reduceLT, Int.reduceToNat, Bool.not_false]
      exact nl _ rfl
    rw [hmb] at hc
    by_cases h0 : k < 0
    · simp only [go_sem, Int.reduceEq, Int.reduceLE, Int.reduceLT, Int.reduceToNat, Bool.not_true, h0]
      exact nl _ rfl
    have h1 : (s.size : Int) < k := by
      have hc : ¬ (0 ≤ k ∧ k ≤ s.size) := fun h => hc ⟨rfl, h⟩
      omega
    simp only [go_sem, Int.reduceEq, Int.reduceLE, Int.reduceLT, Int.reduceToNat, Bool.not_true, h0, h1]
    exact nl _ rfl
  obtain ⟨hmb, hk0, hk1⟩ := hc
  rw [if_pos ⟨hmb, hk0, hk1⟩]
  obtain ⟨q, rfl⟩ : ∃ q : Nat, k = q := ⟨k.toNat, by omega⟩
  have h0 : ¬ (q : Int) < 0 := by omega
  have h1 : ¬ (s.size : Int) < q := by omega
  have c1 := markO (List.replicate (s.size + 1) false) q (by simp; omega) (by simp; omega)
  have c2 := (rEnds s hs r (mayB_ok hmb) hw).1 (onlyL (s.size + 1) q) (onlyL_len _ _)
  rw [Int.toNat_natCast]
  rw [show img (r.mt s) (onlyL (s.size + 1) q) = endsG r s q from rfl] at c2
  rw [show (List.replicate (s.size + 1) false).set q true = onlyL (s.size + 1) q from rfl] at c1
  rw [show blOb (List.replicate (s.size + 1) false) = .slc 4 1 (List.replicate (s.size + 1) [D.v (.bool false)]) from by rw [hrep]] at c1
  refine AC.lbody hT hm Tryz.func19 f19_nm f19_lc f19_res f19_nt ?_
  simp only [go_sem, Int.reduceEq, Int.reduceLE, Int.reduceLT, Int.reduceToNat, hw1, hb]
  refine ⟨by omega, by omega, ?_⟩
  refine (rMay r hz).pv ⟨.same (Re.d_bl _), trivial⟩ ?_
  simp only [go_sem, Int.reduceEq, Int.reduceLE, Int.reduceLT, Int.reduceToNat, hmb, Bool.not_true, h0, h1]
  refine ⟨_, c1, ?_⟩
  simp only [go_sem, Int.reduceEq, Int.reduceLE, Int.reduceLT, Int.reduceToNat]
  refine c2.pd ⟨.same (Re.d_bl _), .v, .same (Bls_bl _), trivial⟩ (Bls_bl _) ?_
  simp only [go_sem, Int.reduceEq, Int.reduceLE, Int.reduceLT, Int.reduceToNat]
  exact Fin.ret (.same (Bls_bl _))
end Go.Proofs.YtlejbkfefpfolaaGreatDoor.W
set_option maxRecDepth 100000
/- How long the longest text is; the ends of any expression in any text are the document's. -/
namespace Go.Proofs.YtlejbkfefpfolaaGreatDoor.W
open Go Go.Proofs Go.Proofs.YtlejbkfefpfolaaGreatDoor.AWP
attribute [local irreducible] xl hide aop aops aopQ qops guardP condP
end Go.Proofs.YtlejbkfefpfolaaGreatDoor.W
set_option maxRecDepth 100000
/- Whether an expression fits texts: the program's and the document's. -/
namespace Go.Proofs.YtlejbkfefpfolaaGreatDoor.W
open Go Go.Proofs Go.Proofs.YtlejbkfefpfolaaGreatDoor.AWP
attribute [local irreducible] xl hide aop aops aopQ qops guardP condP
/-- Does it fit the whole text? -/
noncomputable def fitB (r : Re) (s : ByteArray) : Bool := (endsB r s 0).getD s.size false
theorem fitB_get (r : Re) (s : ByteArray) : (endsB r s 0)[s.size]? = some (fitB r s) := by
  have hl := endsB_len r s 0
  have : s.size < (endsB r s 0).length := by omega
  unfold fitB
  rw [List.getD_eq_getElem?_getD, List.getElem?_eq_getElem this]
  rfl
theorem fitB_iff (r : Re) (s : ByteArray) : fitB r s = true ↔ mayB r = true ∧ r.mt s 0 s.size := by
  have hg := fitB_get r s
  have : fitB r s = true ↔ On (endsB r s 0) s.size := by
    unfold On
    rw [hg]; simp
  rw [this]
  unfold endsB
  by_cases hm : mayB r = true
  · rw [if_pos ⟨hm, by omega, by omega⟩, Int.toNat_zero, on_ends (Nat.zero_le _)]
    simp [hm]
  · rw [if_neg (fun h => hm h.1)]
    simp only [hm, false_and, iff_false]
    unfold On
    rw [List.getElem?_replicate_of_lt (by omega)]
    simp
theorem rFits (r : Re) (hz : r.sz ≤ 1099511627776) (hw : r.wd) (s : ByteArray) (hs : s.size ≤ 1000) : AP Tryz.prog 21 [.agg r.c, .s s] (.b (fitB r s)) := by
  have c1 := rEndsB r hz hw s hs 0
  have hg := bls_get (fitB_get r s)
  refine AC.lbody hT hm Tryz.func21 f21_nm f21_lc f21_res f21_nt ?_
  simp only [go_sem, Int.reduceEq, Int.reduceLE, Int.reduceLT, Int.reduceToNat]
  refine c1.pd ⟨.same (Re.d_bl _), .v, .v, trivial⟩ (Bls_bl _) ?_
  simp only [go_sem, Int.reduceEq, Int.reduceLE, Int.reduceLT, Int.reduceToNat, hg]
  exact Fin.v rfl
end Go.Proofs.YtlejbkfefpfolaaGreatDoor.W
