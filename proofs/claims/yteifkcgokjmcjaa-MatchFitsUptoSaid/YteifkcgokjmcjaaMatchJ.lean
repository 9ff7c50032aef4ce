/- Where texts end: one as often as one likes, from places of one's own; all together. -/
import Derived.Test.YteifkcgokjmcjaaMatchI
set_option linter.unusedVariables false
set_option linter.unusedSimpArgs false
set_option linter.unusedSectionVars false
set_option maxRecDepth 100000
/- Where texts end: one as often as one likes, from places of one's own; all together. -/
namespace Go.Proofs.Yteifkcgokjmcjaa.W
open Go Go.Proofs Go.Proofs.Yteifkcgokjmcjaa.AWP
attribute [local irreducible] xl hide aop aops aopQ qops guardP condP

set_option maxHeartbeats 8000000 in
theorem rE6O (s : ByteArray) (hs : s.size ≤ 1000) (x : Re) (hox : x.nodesOk = true) (hx : rD s x ∧ rO s x) : rO s (.mk 6 0 0 0 0 [x]) := by
  have hw1 := wrap_succ s.size (by omega)
  have hb : ((s.size + 1 : Nat) : Int) ≤ 281474976710656 := by omega
  intro p hp
  have himg : img ((Re.mk 6 0 0 0 0 [x]).mt s) p = img (StarR (x.mt s)) p := img_congr fun i j _ _ => mt_6
  have hep : epsy (.mk 6 0 0 0 0 [x]) = false := by simp [epsy]
  rw [himg, hep]
  by_cases hk6 : ∃ z, x = .mk 6 0 0 0 0 [z]
  · obtain ⟨z, rfl⟩ := hk6
    have e : img (StarR ((Re.mk 6 0 0 0 0 [z]).mt s)) p = img ((Re.mk 6 0 0 0 0 [z]).mt s) p := img_congr fun i j _ _ => by rw [star_star, mt_6]
    rw [e]
    have c1 := hx.2.call hp [.slc 4 1 (List.replicate (s.size + 1) [D.v (.bool false)])]
    rw [Re.c_mk, Re.cs_eq, show epsy (.mk 6 0 0 0 0 [z]) = false from by simp [epsy]] at c1
    refine AC.lbody hT hm Try.func80 f80_nm f80_lc f80_res f80_nt ?_
    simp only [go_sem, Int.reduceEq, Int.reduceLE, Int.reduceLT, Int.reduceToNat, hw1, hb, Re.c_mk, Int.reduceBEq]
    refine ⟨by omega, by omega, ?_⟩
    refine ⟨_, c1, ?_⟩
    rintro _ _ ⟨rfl, rfl⟩
    simp only [go_sem, Int.reduceEq, Int.reduceLE, Int.reduceLT, Int.reduceToNat, Re.c_mk]
    exact keepO p _ (.same (Bls_bl _))
  have hcall := fun (o : List Bool) (ho : o.length = s.size + 1) => hx.2.call1 ho (blOb p) []
  have hepi := epsy_img s x hox
  have hyle := fun (i j : Nat) (h : x.mt s i j) => mt_le (s := s) _ hox i j h
  obtain ⟨k, a, b, c, d, ks⟩ := x
  have hk : k ≠ 6 := by
    rintro rfl
    rcases Re.ok_cases hox with ⟨k', h, e⟩ | ⟨a', b', c', d', _, e⟩ | ⟨k', u, v, h, e, _, _⟩ | ⟨u, e, hu⟩
    · cases e; omega
    · cases e
    · cases e; omega
    · cases e; exact hk6 ⟨u, rfl⟩
  generalize hRe : Re.mk k a b c d ks = x at hcall hepi hyle hx hox ⊢
  have hxc : x.c = (Re.mk k a b c d ks).c := by rw [hRe]
  rw [Re.c_mk, Re.cs_eq] at hxc
  generalize hR : x.mt s = R at hcall hepi hyle ⊢
  have hRn : ∀ i j, i < p.length → R i j → j < p.length := fun i j h1 h2 => by have := hyle i j h2; omega
  have hbp : (p.length : Int) ≤ 281474976710656 := by omega
  have hq : ∀ (om : List Ob) (ks : List (Option Nat)) (q : List Bool), Cv om (kF ks) ks (Bls q) (Bls q) := fun om ks q => .same (Bls_bl q)
  refine AC.lbody hT hm Try.func80 f80_nm f80_lc f80_res f80_nt ?_
  simp only [go_sem, Int.reduceEq, Int.reduceLE, Int.reduceLT, Int.reduceToNat, hw1, hb, Re.c_mk, Int.reduceBEq, hxc, AWP.beq_false hk, List.length_map, hbp]
  refine ⟨by omega, by omega, ?_⟩
  simp only [hxc] at hcall
  refine ⟨by omega, ?_⟩
  refine xl_loopM hT hm (fun q : List Bool × Bool => ⟨f80_i41 (.s s) (.pel (Re.mk 6 0 0 0 0 [x]).c) (.own 1) (.b q.2), [blOb p, blOb q.1]⟩)
    (fun q => StarI R p q.1 q.2) (fun q => 2 * offs q.1 + (if q.2 then 1 else 0)) (p, true) (StarI.start R p) ?_ ?_
  · refine Mv.of [some 0, some 3] rfl ⟨.slcS rfl (bls_bl _), .slcS rfl (bls_bl _), trivial⟩ ?_
    simp [f80_i41, hq, Re.c_mk, Re.cs_eq, hxc]
  rintro ⟨o, more⟩ hI
  dsimp only at hI
  cases more
  · simp only [go_sem, Int.reduceEq, Int.reduceLE, Int.reduceLT, Int.reduceToNat]
    rw [hI.fin hRn]
    exact keepF p _ (.frzS rfl rfl (bls_bl _))
  have hol := hI.len
  have hN := hI.next
  have hL := StarI.less R o
  have hil := img_len R o
  have ho := hcall o (by omega)
  have hei := fun h => hepi h o (by omega)
  generalize img R o = q at hN hL hil ho hei
  simp only [go_sem, Int.reduceEq, Int.reduceLE, Int.reduceLT, Int.reduceToNat, Re.c_mk, Re.cs_eq, List.map_cons, List.map_nil, hxc]
  refine ⟨_, ho, ?_⟩
  rintro _ _ ⟨rfl, rfl⟩
  cases h1 : epsy x
  · simp only [go_sem, Int.reduceEq, Int.reduceLE, Int.reduceLT, Int.reduceToNat, List.length_map]
    refine xl_loopM hT hm (fun i : Nat => ⟨f80_i40 (.s s) (.pel (Re.mk 6 0 0 0 0 [x]).c) (.own 1) (.b (nwG o q i)) (Bls q) (.i q.length) (.i i), [blOb p, blOb (stG o q i)]⟩)
      (fun i => i ≤ q.length) (fun i => q.length - i) 0 (Nat.zero_le _) ?_ ?_
    · refine Mv.of [some 0, some 1] rfl ⟨.slcS rfl (bls_bl _), .slcS (by rw [stG_0]; rfl) (bls_bl _), trivial⟩ ?_
      simp [f80_i40, hq, Re.c_mk, Re.cs_eq, hxc, nwG_0]
    intro i hi
    simp only [go_sem, Int.reduceEq, Int.reduceLE, Int.reduceLT, Int.reduceToNat]
    by_cases h : i < q.length
    case neg =>
      obtain rfl : i = q.length := by omega
      rw [stG_end (by omega) rfl, nwG_end (by omega) rfl]
      simp only [go_sem, Int.reduceEq, Int.reduceLE, Int.reduceLT, Int.reduceToNat, h]
      refine ⟨(orL o q, newL o q), hN, by simpa using hL, Mv.of [some 0, some 1] rfl ⟨.slcS rfl (bls_bl _), .slcS rfl (bls_bl _), trivial⟩ ?_⟩
      simp [f80_i41, hq, Re.c_mk, Re.cs_eq, hxc]
    obtain ⟨u, hu⟩ := get_ex (l := o) (i := i) (by omega)
    obtain ⟨v, hv⟩ := get_ex (l := q) (i := i) (by omega)
    have hgv := bls_get hv
    have hz := stG_get hu hv
    have hgz := bls_get hz
    have hzl := (List.getElem?_eq_some_iff.1 hz).1
    have hwi := wrap_succ i (by omega)
    have e1 := stG_set hu hv
    have e2 := stG_keep hu hv
    have e3 := nwG_step hu hv
    have e4 : ∀ b, (bls (stG o q i)).set i [.v (.bool b)] = bls ((stG o q i).set i b) := fun b => bls_set _ _ _
    cases v
    · have e2 := e2 (by simp)
      simp only [Bool.false_and, Bool.or_false] at e3
      simp only [go_sem, Int.reduceEq, Int.reduceLE, Int.reduceLT, Int.reduceToNat, h, hgv, hwi, Nat.div_one, Nat.mod_one, List.length_map]
      refine ⟨i + 1, h, by omega, ?_⟩
      rw [e3, ← e2]
      exact Mv.of [some 0, some 1] rfl ⟨.slcS rfl (bls_bl _), .slcS rfl (bls_bl _), trivial⟩ (by simp [f80_i40, hq, Re.c_mk, Re.cs_eq, hxc])
    cases u
    · simp only [Bool.true_and, Bool.not_false, Bool.or_true] at e3 e1
      simp only [go_sem, Int.reduceEq, Int.reduceLE, Int.reduceLT, Int.reduceToNat, h, hgv, hgz, hzl, hwi, Nat.div_one, Nat.mod_one, List.length_map, Bool.not_false, e4, e1]
      refine ⟨i + 1, h, by omega, ?_⟩
      rw [e3]
      exact Mv.of [some 0, some 1] rfl ⟨.slcS rfl (bls_bl _), .slcS rfl (bls_bl _), trivial⟩ (by simp [f80_i40, hq, Re.c_mk, Re.cs_eq, hxc])
    · have e2 := e2 (by simp)
      simp only [Bool.true_and, Bool.not_true, Bool.or_false] at e3
      simp only [go_sem, Int.reduceEq, Int.reduceLE, Int.reduceLT, Int.reduceToNat, h, hgv, hgz, hzl, hwi, Nat.div_one, Nat.mod_one, List.length_map, Bool.not_true]
      refine ⟨i + 1, h, by omega, ?_⟩
      rw [e3, ← e2]
      exact Mv.of [some 0, some 1] rfl ⟨.slcS rfl (bls_bl _), .slcS rfl (bls_bl _), trivial⟩ (by simp [f80_i40, hq, Re.c_mk, Re.cs_eq, hxc])
  · have := hei h1
    subst this
    rw [newL_self, orL_self] at hN hL
    simp only [go_sem, Int.reduceEq, Int.reduceLE, Int.reduceLT, Int.reduceToNat, List.length_map]
    refine xl_loopM hT hm (fun i : Nat => ⟨f80_i40 (.s s) (.pel (Re.mk 6 0 0 0 0 [x]).c) (.own 1) (.b false) (.own 1) (.i q.length) (.i i), [blOb p, blOb q]⟩)
      (fun i => i ≤ q.length) (fun i => q.length - i) 0 (Nat.zero_le _) ?_ ?_
    · refine Mv.of [some 0, some 1] rfl ⟨.slcS rfl (bls_bl _), .slcS rfl (bls_bl _), trivial⟩ ?_
      simp [f80_i40, hq, Re.c_mk, Re.cs_eq, hxc]
    intro i hi
    simp only [go_sem, Int.reduceEq, Int.reduceLE, Int.reduceLT, Int.reduceToNat, List.length_map]
    by_cases h : i < q.length
    case neg =>
      simp only [go_sem, Int.reduceEq, Int.reduceLE, Int.reduceLT, Int.reduceToNat, h]
      refine ⟨(q, false), hN, by simp, Mv.of [some 0, some 1] rfl ⟨.slcS rfl (bls_bl _), .slcS rfl (bls_bl _), trivial⟩ ?_⟩
      simp [f80_i41, hq, Re.c_mk, Re.cs_eq, hxc]
    obtain ⟨u, hu⟩ := get_ex h
    have hgu := bls_get hu
    have hwi := wrap_succ i (by omega)
    cases u
    all_goals
      simp only [go_sem, Int.reduceEq, Int.reduceLE, Int.reduceLT, Int.reduceToNat, h, hu, hgu, hwi, Nat.div_one, Nat.mod_one, List.length_map, Bool.not_true]
      refine ⟨i + 1, h, by omega, ?_⟩
      exact Mv.of [some 0, some 1] rfl ⟨.slcS rfl (bls_bl _), .slcS rfl (bls_bl _), trivial⟩ (by simp [f80_i40, hq, Re.c_mk, Re.cs_eq, hxc])

theorem rEnds (s : ByteArray) (hs : s.size ≤ 1000) (r : Re) : r.nodesOk = true → r.wd → rD s r ∧ rO s r := by
  have key : r.nodesOk = true → r.nodesOk = true ∧ (r.wd → rD s r ∧ rO s r) := by
    refine Re.indOk (p := fun r => r.nodesOk = true ∧ (r.wd → rD s r ∧ rO s r)) ?_ ?_ ?_ ?_ r
    · rintro k (rfl | rfl)
      · exact ⟨by decide, fun _ => rE1 s hs⟩
      · exact ⟨by decide, fun _ => rE2 s hs⟩
    · intro a b c d hn
      refine ⟨?_, fun hw => ?_⟩
      · rw [Re.nodesOk, Re.nodesOks]
        simp [Re.nodeOk, hn]
      · rw [Re.wd] at hw
        exact rE3 s hs a b c d hw.1
    · rintro k x y hk hox hoy ⟨_, hx⟩ ⟨_, hy⟩
      refine ⟨?_, fun hw => ?_⟩
      · rw [Re.nodesOk, Re.nodesOks, Re.nodesOks, Re.nodesOks, hox, hoy]
        rcases hk with rfl | rfl <;> rfl
      · rw [Re.wd, Re.wds, Re.wds, Re.wds] at hw
        have hx := hx hw.2.1
        have hy := hy hw.2.2.1
        rcases hk with rfl | rfl
        · exact rE4 s hs x y hox hx hy
        · exact ⟨rE5D s hs x y hx.1 hy.1, rE5O s hs x y hox hoy hx.2 hy.2⟩
    · rintro x hox ⟨_, hx⟩
      refine ⟨?_, fun hw => ?_⟩
      · rw [Re.nodesOk, Re.nodesOks, Re.nodesOks, hox]; rfl
      · rw [Re.wd, Re.wds, Re.wds] at hw
        have hx := hx hw.2.1
        exact ⟨rE6D s hs x hox hx, rE6O s hs x hox hx⟩
  exact fun h => (key h).2
end Go.Proofs.Yteifkcgokjmcjaa.W
