/- An expression, its normal form, and what is read of its text, have the same ends. -/
import Derived.Test.YtlejbkfefpfolaaDoorNormF
import Derived.Test.YtlejbkfefpfolaaDoorMath
import Derived.Test.YtlejbkfefpfolaaDoorMathB
set_option linter.unusedVariables false
set_option linter.unusedSimpArgs false
set_option linter.unusedSectionVars false
set_option maxRecDepth 100000
/- Places in a text: one alone; joined. Is a byte in a set? -/
namespace Go.Proofs.YtlejbkfefpfolaaDoor.W
open Go Go.Proofs Go.Proofs.YtlejbkfefpfolaaDoor.AWP
attribute [local irreducible] xl hide aop aops aopQ qops guardP condP
abbrev bls (p : List Bool) : List (List D) := p.map fun b => [.b b]
abbrev Bls (p : List Bool) : D := .sl 1 (bls p)
abbrev blOb (p : List Bool) : Ob := .slc 4 1 (bls p)
theorem bls_bl (p : List Bool) : ∀ r ∈ bls p, ∀ d ∈ r, Bl 0 d := by
  intro r hr d hd
  obtain ⟨b, _, rfl⟩ := List.mem_map.1 hr
  rw [List.mem_singleton.1 hd]
  exact .v _
theorem Bls_bl (p : List Bool) : Bl 0 (Bls p) := .sl (bls_bl p)
theorem bls_rep (n : Nat) : List.replicate n [D.v (.bool false)] = bls (List.replicate n false) := by simp [bls]
theorem bls_set (p : List Bool) (i : Nat) (b : Bool) : (bls p).set i [.v (.bool b)] = bls (p.set i b) := by
  unfold bls
  rw [List.map_set]
theorem bls_get {p : List Bool} {i : Nat} {b : Bool} (h : p[i]? = some b) : (bls p)[i]? = some [.b b] := by simp [bls, h]
theorem only (p : List Bool) (at' : Nat) (hp : p.length ≤ 1000000) (h : at' < p.length) : AP Tryd.prog 29 [Bls p, .i at'] (Bls (onlyL p.length at')) := by
  refine AC.lbody hT hm Tryd.func29 f29_nm f29_lc f29_res f29_nt ?_
  have hb : (p.length : Int) ≤ 281474976710656 := by omega
  simp only [go_sem, Int.reduceEq, Int.reduceLE, Int.reduceLT, Int.reduceToNat, List.length_map, hb]
  have hg : (List.replicate p.length [D.v (.bool false)])[at']? = some [.v (.bool false)] := List.getElem?_replicate_of_lt h
  have hst : (List.replicate p.length [D.v (.bool false)]).set at' [.v (.bool true)] = bls (onlyL p.length at') := by rw [bls_rep, bls_set]; rfl
  refine ⟨by omega, by omega, ?_⟩
  simp only [go_sem, Int.reduceEq, Int.reduceLE, Int.reduceLT, Int.reduceToNat, hg, Nat.div_one, Nat.mod_one, hst]
  exact Fin.ret (.frzS rfl rfl (bls_bl _))
theorem setHas (ws : List Int) (hw : W64 ws) (b : UInt8) : AP Tryd.prog 47 [Ws ws, .y b] (.b (hasB ws b.toNat)) := by
  refine AC.lbody hT hm Tryd.func47 f47_nm f47_lc f47_res f47_nt ?_
  have hb4 := lt4 b
  have hg : ((ws.map wD).drop (b.toNat / 64))[0]? = some (wD (ws.getD (b.toNat / 64) 0)) := by
    rw [List.getElem?_drop, Nat.add_zero]
    exact wD_get (by rw [hw.len]; exact hb4)
  simp only [go_sem, Int.reduceEq, Int.reduceLE, Int.reduceLT, Int.reduceToNat, q64, r64, hb4, hg, wD_eq]
  exact Fin.v (by rw [has_bit hw])
theorem or_take {p q : List Bool} {i : Nat} {x y : Bool} (h1 : p[i]? = some x) (h2 : q[i]? = some y) : orL (p.take (i + 1)) (q.take (i + 1)) = orL (p.take i) (q.take i) ++ [x || y] := by
  have l1 : (p.take i).length = i := by have := (List.getElem?_eq_some_iff.1 h1).1; simp; omega
  have l2 : (q.take i).length = i := by have := (List.getElem?_eq_some_iff.1 h2).1; simp; omega
  unfold orL
  rw [List.take_add_one, List.take_add_one, h1, h2]
  simp only [Option.toList_some]
  rw [List.zipWith_append (by omega)]
  rfl
theorem new_take {p q : List Bool} {i : Nat} {x y : Bool} (h1 : p[i]? = some x) (h2 : q[i]? = some y) : newL (p.take (i + 1)) (q.take (i + 1)) = (newL (p.take i) (q.take i) || (y && !x)) := by
  have l1 : (p.take i).length = i := by have := (List.getElem?_eq_some_iff.1 h1).1; simp; omega
  have l2 : (q.take i).length = i := by have := (List.getElem?_eq_some_iff.1 h2).1; simp; omega
  unfold newL
  rw [List.take_add_one, List.take_add_one, h1, h2]
  simp only [Option.toList_some]
  rw [List.zipWith_append (by omega)]
  simp
theorem join (p q : List Bool) (h : p.length = q.length) (hp : p.length ≤ 1000000) : AC Tryd.prog 48 [.own 0, Bls q] [blOb p] (fun o om => o = .ret (.b (newL p q)) ∧ om = [blOb (orL p q)]) := by
  refine AC.lbody hT hm Tryd.func48 f48_nm f48_lc f48_res f48_nt ?_
  simp only [go_sem, Int.reduceEq, Int.reduceLE, Int.reduceLT, Int.reduceToNat, List.length_map]
  refine xl_loopM hT hm (fun i : Nat => ⟨f48_i8 (.own 0) (.b (newL (p.take i) (q.take i))) (Bls q) (.i q.length) (.i i), [blOb (orL (p.take i) (q.take i) ++ p.drop i)]⟩)
    (fun i => i ≤ p.length) (fun i => p.length - i) 0 (Nat.zero_le _) ?_ ?_
  · refine Mv.of [some 0] rfl ⟨.slcS (by simp [orL]) (bls_bl _), trivial⟩ ?_
    have hq : Cv [blOb p] (kF [some 0]) [some 0] (Bls q) (Bls q) := .same (Bls_bl q)
    simp [f48_i8, newL, hq]
  intro i hi
  simp only [go_sem, Int.reduceEq, Int.reduceLE, Int.reduceLT, Int.reduceToNat, List.length_map]
  by_cases hiq : i < q.length
  case neg =>
    have t1 : p.take i = p := List.take_of_length_le (by omega)
    have t2 : q.take i = q := List.take_of_length_le (by omega)
    have t3 : p.drop i = [] := List.drop_eq_nil_of_le (by omega)
    simp only [go_sem, Int.reduceEq, Int.reduceLE, Int.reduceLT, Int.reduceToNat, hiq, t1, t2, t3]
    exact Fin.mv (om' := [blOb (orL p q)]) [some 0] rfl ⟨.slcS rfl (bls_bl _), trivial⟩ .v ⟨rfl, rfl⟩
  obtain ⟨x, hx⟩ := get_ex (l := p) (show i < p.length by omega)
  obtain ⟨y, hy⟩ := get_ex hiq
  have ho := or_take hx hy
  have hn := new_take hx hy
  have hol : (orL (p.take i) (q.take i)).length = i := by rw [orL_len (by simp; omega)]; simp; omega
  generalize orL (p.take i) (q.take i) = o at ho hol ⊢
  generalize newL (p.take i) (q.take i) = nn at hn ⊢
  have hcur : (o ++ p.drop i)[i]? = some x := by
    rw [List.getElem?_append_right (by omega), hol, Nat.sub_self, List.getElem?_drop, Nat.add_zero]
    exact hx
  have hg := bls_get hcur
  have hgq := bls_get hy
  have hst : ∀ b, (bls (o ++ p.drop i)).set i [.v (.bool b)] = bls (o ++ [b] ++ p.drop (i + 1)) := by
    intro b
    rw [bls_set]
    congr 1
    rw [List.set_append_right _ _ (by omega), hol, Nat.sub_self, drop_get hx, List.set_cons_zero]
    simp
  have hil : i < (o ++ p.drop i).length := (List.getElem?_eq_some_iff.1 hcur).1
  have fin : ∀ (env : List D) (om : List Ob) (b : Bool), om = [blOb (o ++ [b] ++ p.drop (i + 1))] → True := fun _ _ _ _ => trivial
  clear fin
  have hw := wrap_succ i (by omega)
  have hq : ∀ om : List Ob, Cv om (kF [some 0]) [some 0] (Bls q) (Bls q) := fun om => .same (Bls_bl q)
  cases nn <;> cases y <;> cases x
  all_goals
    simp only [go_sem, Int.reduceEq, Int.reduceLE, Int.reduceLT, Int.reduceToNat, hiq, hg, hgq, List.length_map, hil, hst, Nat.div_one, Nat.mod_one, Bool.not_true, Bool.not_false, hw]
    refine ⟨i + 1, by omega, by omega, ?_⟩
    rw [ho, hn]
    exact Mv.of [some 0] rfl ⟨.slcS (by simp) (bls_bl _), trivial⟩ (by simp [f48_i8, hq])
end Go.Proofs.YtlejbkfefpfolaaDoor.W
set_option maxRecDepth 100000
/- From some places on, where a text may end. -/
namespace Go.Proofs.YtlejbkfefpfolaaDoor.W
open Go Go.Proofs Go.Proofs.YtlejbkfefpfolaaDoor.AWP
attribute [local irreducible] xl hide aop aops aopQ qops guardP condP
theorem byteAt_get {s : ByteArray} {i : Nat} (h : i < s.size) : ∃ b : UInt8, s.data[i]? = some b ∧ byteAt s i = b.toNat := by
  obtain ⟨b, hb⟩ := get_lt h
  exact ⟨b, hb, by unfold byteAt; rw [at_of hb]⟩
theorem mEnds1 (s : ByteArray) (hs : s.size ≤ 1000) (p : List Bool) (hp : p.length = s.size + 1) : AP Tryd.prog 28 [.agg (Re.mk 1 0 0 0 0 []).c, .s s, Bls p] (Bls (img ((Re.mk 1 0 0 0 0 []).mt s) p)) := by
  have hb : (p.length : Int) ≤ 281474976710656 := by omega
  rw [img_none]
  refine AC.lbody hT hm Tryd.func28 f28_nm f28_lc f28_res f28_nt ?_
  simp only [go_sem, Int.reduceEq, Int.reduceLE, Int.reduceLT, Int.reduceToNat, List.length_map, hb, Re.c_mk, Int.reduceBEq]
  refine ⟨by omega, by omega, ?_⟩
  exact Fin.ret (.frzS (ty := 4) (by rw [← bls_rep]; rfl) rfl (bls_bl _))
theorem mEnds2 (s : ByteArray) (hs : s.size ≤ 1000) (p : List Bool) (hp : p.length = s.size + 1) : AP Tryd.prog 28 [.agg (Re.mk 2 0 0 0 0 []).c, .s s, Bls p] (Bls (img ((Re.mk 2 0 0 0 0 []).mt s) p)) := by
  have hb : (p.length : Int) ≤ 281474976710656 := by omega
  rw [img_eps]
  refine AC.lbody hT hm Tryd.func28 f28_nm f28_lc f28_res f28_nt ?_
  simp only [go_sem, Int.reduceEq, Int.reduceLE, Int.reduceLT, Int.reduceToNat, List.length_map, hb, Re.c_mk, Int.reduceBEq]
  refine ⟨by omega, by omega, ?_⟩
  simp only [go_sem, Int.reduceEq, Int.reduceLE, Int.reduceLT, Int.reduceToNat, List.length_map, List.length_replicate]
  refine Fin.ret (.frzS (ty := 4) ?_ rfl (bls_bl _))
  rw [bls_rep, List.take_of_length_le (by simp)]
  simp
theorem mEnds3 (s : ByteArray) (hs : s.size ≤ 1000) (a b c d : Int) (hw : W64 [a, b, c, d]) (p : List Bool) (hp : p.length = s.size + 1) : AP Tryd.prog 28 [.agg (Re.mk 3 a b c d []).c, .s s, Bls p] (Bls (img ((Re.mk 3 a b c d []).mt s) p)) := by
  have hb : (p.length : Int) ≤ 281474976710656 := by omega
  have h0 := img_cls_0 s a b c d p hp
  have hil := img_len ((Re.mk 3 a b c d []).mt s) p
  have hcl := fun (i : Nat) (x : Bool) (hi : i < s.size) (hx : p[i]? = some x) => img_cls (a := a) (b := b) (c := c) (d := d) hp hi hx
  generalize img ((Re.mk 3 a b c d []).mt s) p = g at h0 hil hcl ⊢
  have e0 : bls (g.take (0 + 1) ++ List.replicate (p.length - (0 + 1)) false) = List.replicate p.length [D.v (.bool false)] := by
    rw [Nat.zero_add, h0, bls_rep]
    congr 1
    rw [show p.length = p.length - 1 + 1 from by omega, List.replicate_succ]
    rfl
  refine AC.lbody hT hm Tryd.func28 f28_nm f28_lc f28_res f28_nt ?_
  simp only [go_sem, Int.reduceEq, Int.reduceLE, Int.reduceLT, Int.reduceToNat, List.length_map, hb, Re.c_mk, Int.reduceBEq]
  refine ⟨by omega, by omega, ?_⟩
  refine xl_loopM hT hm (fun i : Nat => ⟨f28_i11 (.s s) (Bls p) (.pel (Re.mk 3 a b c d []).c) (.own 0) (.i s.size) (.i i), [blOb (g.take (i + 1) ++ List.replicate (p.length - (i + 1)) false)]⟩)
    (fun i => i ≤ s.size) (fun i => s.size - i) 0 (Nat.zero_le _) ?_ ?_
  · refine Mv.of [some 0] rfl ⟨.slcS (by rw [e0]; rfl) (bls_bl _), trivial⟩ ?_
    have hq : ∀ om : List Ob, Cv om (kF [some 0]) [some 0] (Bls p) (Bls p) := fun om => .same (Bls_bl p)
    simp [f28_i11, hq, Re.c_mk, Re.cs_eq]
  intro i hi
  simp only [go_sem, Int.reduceEq, Int.reduceLE, Int.reduceLT, Int.reduceToNat, List.length_map]
  by_cases h : i < s.size
  case neg =>
    have e : g.take (i + 1) ++ List.replicate (p.length - (i + 1)) false = g := by
      rw [List.take_of_length_le (by omega), show p.length - (i + 1) = 0 from by omega]
      simp
    simp only [go_sem, Int.reduceEq, Int.reduceLE, Int.reduceLT, Int.reduceToNat, h]
    rw [e]
    exact Fin.ret (.frzS rfl rfl (bls_bl _))
  obtain ⟨by_, hby, hbv⟩ := byteAt_get h
  obtain ⟨x, hx⟩ := get_ex (l := p) (show i < p.length by omega)
  have hgx := bls_get hx
  have hgv := hcl i x h hx
  rw [hbv] at hgv
  have hwi := wrap_succ i (by omega)
  have hcur : (bls (g.take (i + 1) ++ List.replicate (p.length - (i + 1)) false))[i + 1]? = some [.b false] := by
    refine bls_get ?_
    rw [List.getElem?_append_right (by simp; omega), List.getElem?_replicate_of_lt (by simp; omega)]
  have hset := take_set hgv hil
  have hst : ∀ v, v = (x && hasB [a, b, c, d] by_.toNat) → (bls (g.take (i + 1) ++ List.replicate (p.length - (i + 1)) false)).set (i + 1) [.v (.bool v)] = bls (g.take (i + 1 + 1) ++ List.replicate (p.length - (i + 1 + 1)) false) := by
    rintro _ rfl
    rw [bls_set, hset]
  have hil2 : i + 1 < (g.take (i + 1)).length + (p.length - (i + 1)) := by simp; omega
  have hq : ∀ om : List Ob, Cv om (kF [some 0]) [some 0] (Bls p) (Bls p) := fun om => .same (Bls_bl p)
  have hil3 : i + 1 < p.length := by omega
  cases x
  · have e := hst false (by simp)
    simp only [go_sem, Int.reduceEq, Int.reduceLE, Int.reduceLT, Int.reduceToNat, h, hgx, Re.c_mk, hwi, hcur, Nat.div_one, Nat.mod_one, e, List.length_map, List.length_append, List.length_replicate, hil2]
    refine ⟨i + 1, h, by omega, ?_⟩
    exact Mv.of [some 0] rfl ⟨.slcS rfl (bls_bl _), trivial⟩ (by simp [f28_i11, hq, Re.c_mk, Re.cs_eq])
  · have e := hst (hasB [a, b, c, d] by_.toNat) (by simp)
    simp only [go_sem, Int.reduceEq, Int.reduceLE, Int.reduceLT, Int.reduceToNat, h, hgx, Re.c_mk, hwi, hby]
    refine (setHas [a, b, c, d] hw by_).qv ⟨.same (.agg (W_bl [a, b, c, d])), .v, trivial⟩ ?_
    simp only [go_sem, Int.reduceEq, Int.reduceLE, Int.reduceLT, Int.reduceToNat, h, hgx, Re.c_mk, hwi, hcur, Nat.div_one, Nat.mod_one, e, List.length_map, List.length_append, List.length_replicate, hil2]
    refine ⟨i + 1, h, by omega, ?_⟩
    exact Mv.of [some 0] rfl ⟨.slcS rfl (bls_bl _), trivial⟩ (by simp [f28_i11, hq, Re.c_mk, Re.cs_eq])
theorem mEnds4 (s : ByteArray) (hs : s.size ≤ 1000) (x y : Re) (hox : x.nodesOk = true) (p : List Bool) (hp : p.length = s.size + 1)
    (hx : ∀ p : List Bool, p.length = s.size + 1 → AP Tryd.prog 28 [.agg x.c, .s s, Bls p] (Bls (img (x.mt s) p))) (hy : ∀ p : List Bool, p.length = s.size + 1 → AP Tryd.prog 28 [.agg y.c, .s s, Bls p] (Bls (img (y.mt s) p))) :
    AP Tryd.prog 28 [.agg (Re.mk 4 0 0 0 0 [x, y]).c, .s s, Bls p] (Bls (img ((Re.mk 4 0 0 0 0 [x, y]).mt s) p)) := by
  have hb : (p.length : Int) ≤ 281474976710656 := by omega
  rw [img_seq s x y hox p hp]
  refine AC.lbody hT hm Tryd.func28 f28_nm f28_lc f28_res f28_nt ?_
  simp only [go_sem, Int.reduceEq, Int.reduceLE, Int.reduceLT, Int.reduceToNat, List.length_map, hb, Re.c_mk, Int.reduceBEq]
  refine ⟨by omega, by omega, ?_⟩
  refine (hx p hp).qd ⟨.same (Re.d_bl _), .v, .same (Bls_bl _), trivial⟩ (Bls_bl _) ?_
  simp only [go_sem, Int.reduceEq, Int.reduceLE, Int.reduceLT, Int.reduceToNat, List.length_map, Re.c_mk]
  refine (hy (img (x.mt s) p) (by rw [img_len]; exact hp)).pd ⟨.same (Re.d_bl _), .v, .same (Bls_bl _), trivial⟩ (Bls_bl _) ?_
  simp only [go_sem, Int.reduceEq, Int.reduceLE, Int.reduceLT, Int.reduceToNat, List.length_map, Re.c_mk]
  exact Fin.ret (.same (Bls_bl _))
theorem mEnds5 (s : ByteArray) (hs : s.size ≤ 1000) (x y : Re) (p : List Bool) (hp : p.length = s.size + 1)
    (hx : ∀ p : List Bool, p.length = s.size + 1 → AP Tryd.prog 28 [.agg x.c, .s s, Bls p] (Bls (img (x.mt s) p))) (hy : ∀ p : List Bool, p.length = s.size + 1 → AP Tryd.prog 28 [.agg y.c, .s s, Bls p] (Bls (img (y.mt s) p))) :
    AP Tryd.prog 28 [.agg (Re.mk 5 0 0 0 0 [x, y]).c, .s s, Bls p] (Bls (img ((Re.mk 5 0 0 0 0 [x, y]).mt s) p)) := by
  have hb : (p.length : Int) ≤ 281474976710656 := by omega
  rw [img_alt s x y p]
  have j1 := join (List.replicate p.length false) (img (x.mt s) p) (by simp [img_len]) (by simp; omega)
  have l1 : (orL (List.replicate p.length false) (img (x.mt s) p)).length = p.length := by rw [orL_len (by simp [img_len])]; simp
  have j2 := join (orL (List.replicate p.length false) (img (x.mt s) p)) (img (y.mt s) p) (by rw [l1, img_len]) (by rw [l1]; omega)
  refine AC.lbody hT hm Tryd.func28 f28_nm f28_lc f28_res f28_nt ?_
  simp only [go_sem, Int.reduceEq, Int.reduceLE, Int.reduceLT, Int.reduceToNat, List.length_map, hb, Re.c_mk, Int.reduceBEq]
  refine ⟨by omega, by omega, ?_⟩
  simp only [go_sem, Int.reduceEq, Int.reduceLE, Int.reduceLT, Int.reduceToNat, List.length_map, Re.c_mk, bls_rep]
  refine (hx p hp).pd ⟨.same (Re.d_bl _), .v, .same (Bls_bl _), trivial⟩ (Bls_bl _) ?_
  simp only [go_sem, Int.reduceEq, Int.reduceLE, Int.reduceLT, Int.reduceToNat, List.length_map, Re.c_mk]
  refine ⟨_, j1, ?_⟩
  rintro _ _ ⟨rfl, rfl⟩
  simp only [go_sem, Int.reduceEq, Int.reduceLE, Int.reduceLT, Int.reduceToNat, List.length_map, Re.c_mk]
  refine (hy p hp).pd ⟨.same (Re.d_bl _), .v, .same (Bls_bl _), trivial⟩ (Bls_bl _) ?_
  simp only [go_sem, Int.reduceEq, Int.reduceLE, Int.reduceLT, Int.reduceToNat, List.length_map, Re.c_mk]
  refine ⟨_, j2, ?_⟩
  rintro _ _ ⟨rfl, rfl⟩
  simp only [go_sem, Int.reduceEq, Int.reduceLE, Int.reduceLT, Int.reduceToNat, List.length_map, Re.c_mk]
  exact Fin.ret (.frzS rfl rfl (bls_bl _))
theorem joinF (p q : List Bool) (h : p.length = q.length) (hp : p.length ≤ 1000000) (fr : List Ob) : AC Tryd.prog 48 [.own 0, Bls q] ([blOb p] ++ fr) (fun o om => ∃ om', (o = .ret (.b (newL p q)) ∧ om' = [blOb (orL p q)]) ∧ om = om' ++ fr) := by
  refine (join p q h hp).frame (fun o ho => ?_) (fun d hd => ?_) ?_
  · rw [List.mem_singleton.1 ho]
    intro r hr d hd
    exact (bls_bl p r hr d hd).mono (Nat.zero_le _)
  · rcases List.mem_cons.1 hd with rfl | hd
    · exact .own Nat.one_pos
    · rw [List.mem_singleton.1 hd]; exact (Bls_bl q).mono (Nat.zero_le _)
  · rintro o om' ⟨_, rfl⟩; rfl
theorem mEnds6 (s : ByteArray) (hs : s.size ≤ 1000) (x : Re) (hox : x.nodesOk = true) (p : List Bool) (hp : p.length = s.size + 1)
    (ih : ∀ y : Re, y.sz ≤ x.sz → y.nodesOk = true → (x.wd → y.wd) → ∀ p : List Bool, p.length = s.size + 1 → AP Tryd.prog 28 [.agg y.c, .s s, Bls p] (Bls (img (y.mt s) p))) :
    AP Tryd.prog 28 [.agg (Re.mk 6 0 0 0 0 [x]).c, .s s, Bls p] (Bls (img ((Re.mk 6 0 0 0 0 [x]).mt s) p)) := by
  have hb : (p.length : Int) ≤ 281474976710656 := by omega
  have himg : img ((Re.mk 6 0 0 0 0 [x]).mt s) p = img (StarR (x.mt s)) p := img_congr fun i j _ _ => mt_6
  rw [himg]
  refine AC.lbody hT hm Tryd.func28 f28_nm f28_lc f28_res f28_nt ?_
  simp only [go_sem, Int.reduceEq, Int.reduceLE, Int.reduceLT, Int.reduceToNat, List.length_map, hb, Re.c_mk, Int.reduceBEq]
  refine ⟨by omega, by omega, ?_⟩
  refine xl_loopM hT hm (fun y : Re => ⟨f28_i21 (.s s) (Bls p) (.own 0) (.ref 1 0), [blOb (List.replicate p.length false), .var 27 y.c]⟩)
    (fun y => y.sz ≤ x.sz ∧ y.nodesOk = true ∧ (x.wd → y.wd) ∧ ∀ i j, StarR (y.mt s) i j ↔ StarR (x.mt s) i j) (fun y => y.sz) x ⟨Nat.le_refl _, hox, id, fun _ _ => Iff.rfl⟩ ?_ ?_
  · refine Mv.of [some 0, some 1] rfl ⟨.slcS (by rw [← bls_rep]; rfl) (bls_bl _), .varS rfl (by simp), trivial⟩ ?_
    have hq : ∀ om : List Ob, Cv om (kF [some 0, some 1]) [some 0, some 1] (Bls p) (Bls p) := fun om => .same (Bls_bl p)
    simp [f28_i21, hq]
  rintro y ⟨hy1, hy2, hy3, hy4⟩
  by_cases hk6 : ∃ z, y = .mk 6 0 0 0 0 [z] ∧ z.nodesOk = true
  · obtain ⟨z, rfl, hz⟩ := hk6
    have hzs : (Re.mk 6 0 0 0 0 [z]).sz = 1 + z.sz := by simp [Re.sz, Re.szs]
    simp only [go_sem, Int.reduceEq, Int.reduceLE, Int.reduceLT, Int.reduceToNat, Re.c_mk, Int.reduceBEq, Re.put1]
    refine ⟨z, ⟨by omega, hz, fun h => ?_, fun i j => ?_⟩, by omega, Mv.of [some 0, some 1] rfl ⟨.slcS rfl (bls_bl _), .varS rfl (by simp), trivial⟩ ?_⟩
    · have := hy3 h
      rw [Re.wd, Re.wds] at this
      exact this.2.1
    · rw [← hy4, star_star]
    · have hq : ∀ om : List Ob, Cv om (kF [some 0, some 1]) [some 0, some 1] (Bls p) (Bls p) := fun om => .same (Bls_bl p)
      simp [hq]
  obtain ⟨k, a, b, c, d, ks⟩ := y
  have hk : k ≠ 6 := by
    rintro rfl
    rcases Re.ok_cases hy2 with ⟨k', h, e⟩ | ⟨a', b', c', d', _, e⟩ | ⟨k', u, v, h, e, _, _⟩ | ⟨u, e, hu⟩
    · cases e; omega
    · cases e
    · cases e; omega
    · cases e; exact hk6 ⟨u, rfl, hu⟩
  have ihy := ih _ hy1 hy2 hy3
  have hyle := fun (i j : Nat) (h : (Re.mk k a b c d ks).mt s i j) => mt_le (s := s) _ hy2 i j h
  have hfin : img (StarR ((Re.mk k a b c d ks).mt s)) p = img (StarR (x.mt s)) p := img_congr fun i j _ _ => hy4 i j
  simp only [go_sem, Int.reduceEq, Int.reduceLE, Int.reduceLT, Int.reduceToNat, Re.c_mk, AWP.beq_false hk]
  rw [← hfin]
  generalize hR : (Re.mk k a b c d ks).mt s = R at ihy hyle ⊢
  refine xl_loopM hT hm (fun q : List Bool × List Bool => ⟨f28_i25 (.s s) (.own 0) (.ref 1 0) (Bls q.2), [blOb q.1, .var 27 (Re.mk k a b c d ks).c]⟩)
    (fun q => q.1.length = p.length ∧ q.2.length = p.length ∧ (∀ j, On q.1 j ∨ On q.2 j → On (img (StarR R) p) j) ∧ (∀ j, On p j → On q.1 j ∨ On q.2 j) ∧ (∀ i j, On q.1 i → R i j → j < p.length → On q.1 j ∨ On q.2 j)) (fun q => offs q.1) (List.replicate p.length false, p) ⟨by simp, rfl, ?_, ?_, ?_⟩ ?_ ?_
  · rintro j (h | h)
    · exfalso
      have hj := h.lt
      simp at hj
      unfold On at h
      rw [List.getElem?_replicate_of_lt hj] at h
      simp at h
    · exact on_img.2 ⟨h.lt, j, h, .refl j⟩
  · exact fun j h => .inr h
  · intro i j h
    exfalso
    have hj := h.lt
    simp at hj
    unfold On at h
    rw [List.getElem?_replicate_of_lt hj] at h
    simp at h
  · refine Mv.of [some 0, some 1] rfl ⟨.slcS rfl (bls_bl _), .varS (by simp [Re.c_mk, Re.cs_eq]) (by simp), trivial⟩ ?_
    have hq : ∀ om : List Ob, Cv om (kF [some 0, some 1]) [some 0, some 1] (Bls p) (Bls p) := fun om => .same (Bls_bl p)
    simp [f28_i25, hq]
  rintro ⟨o, q⟩ ⟨ho, hq, i1, i2, i3⟩
  dsimp only at ho hq i1 i2 i3
  simp only [go_sem, Int.reduceEq, Int.reduceLE, Int.reduceLT, Int.reduceToNat]
  refine ⟨_, joinF o q (by omega) (by omega) [_], ?_⟩
  rintro _ _ ⟨_, ⟨rfl, rfl⟩, rfl⟩
  cases hn : newL o q
  · have hdone := star_done hq ho hn i1 i2 i3 (fun i j hi h => by have := hyle i j h; omega)
    simp only [go_sem, Int.reduceEq, Int.reduceLE, Int.reduceLT, Int.reduceToNat, hn]
    rw [← hdone]
    exact Fin.ret (.frzS rfl rfl (bls_bl _))
  · obtain ⟨s1, s2, s3⟩ := star_step hq ho i1 i2 i3
    have hlt := offs_lt (by omega : o.length = q.length) hn
    simp only [go_sem, Int.reduceEq, Int.reduceLE, Int.reduceLT, Int.reduceToNat, hn]
    refine (ihy q (by omega)).pd ⟨.eq (by rw [Re.c_mk, Re.cs_eq]) (by simp), .v, .same (Bls_bl _), trivial⟩ (Bls_bl _) ?_
    simp only [go_sem, Int.reduceEq, Int.reduceLE, Int.reduceLT, Int.reduceToNat]
    refine ⟨(orL o q, img R q), ⟨by rw [orL_len (by omega)]; exact ho, by rw [img_len]; exact hq, s1, s2, s3⟩, hlt, Mv.of [some 0, some 1] rfl ⟨.slcS rfl (bls_bl _), .varS (by simp [Re.c_mk, Re.cs_eq]) (by simp), trivial⟩ ?_⟩
    have hq : ∀ om : List Ob, Cv om (kF [some 0, some 1]) [some 0, some 1] (Bls (img R q)) (Bls (img R q)) := fun om => .same (Bls_bl _)
    simp [f28_i25, hq]
theorem mEnds (s : ByteArray) (hs : s.size ≤ 1000) : ∀ (n : Nat) (r : Re), r.sz ≤ n → r.nodesOk = true → r.wd → ∀ p : List Bool, p.length = s.size + 1 → AP Tryd.prog 28 [.agg r.c, .s s, Bls p] (Bls (img (r.mt s) p)) := by
  intro n
  induction n with
  | zero => intro r hr; have := r.sz_pos; omega
  | succ n ih =>
    intro r hr hok hw p hp
    rcases Re.ok_cases hok with ⟨k, hk, rfl⟩ | ⟨a, b, c, d, hn, rfl⟩ | ⟨k, x, y, hk, rfl, hx, hy⟩ | ⟨x, rfl, hx⟩
    · rcases hk with rfl | rfl
      · exact mEnds1 s hs p hp
      · exact mEnds2 s hs p hp
    · rw [Re.wd] at hw
      exact mEnds3 s hs a b c d hw.1 p hp
    · rw [Re.wd, Re.wds, Re.wds, Re.wds] at hw
      have hz : (Re.mk k 0 0 0 0 [x, y]).sz = 1 + (x.sz + y.sz) := by simp [Re.sz, Re.szs]
      have hx' := fun p hp => ih x (by omega) hx hw.2.1 p hp
      have hy' := fun p hp => ih y (by omega) hy hw.2.2.1 p hp
      rcases hk with rfl | rfl
      · exact mEnds4 s hs x y hx p hp hx' hy'
      · exact mEnds5 s hs x y p hp hx' hy'
    · rw [Re.wd, Re.wds, Re.wds] at hw
      have hz : (Re.mk 6 0 0 0 0 [x]).sz = 1 + x.sz := by simp [Re.sz, Re.szs]
      exact mEnds6 s hs x hx p hp fun y hy hok' hwy p hp => ih y (by omega) hok' (hwy hw.2.1) p hp
end Go.Proofs.YtlejbkfefpfolaaDoor.W
set_option maxRecDepth 100000
/- The ends of an expression in a text; from a place on they are those of the rest, as much further. -/
namespace Go.Proofs.YtlejbkfefpfolaaDoor.W
open Go Go.Proofs Go.Proofs.YtlejbkfefpfolaaDoor.AWP
attribute [local irreducible] xl hide aop aops aopQ qops guardP condP
abbrev its (l : List Nat) : List (List D) := l.map fun n : Nat => [.i n]
abbrev Its (l : List Nat) : D := .sl 1 (its l)
theorem its_bl (l : List Nat) : ∀ r ∈ its l, ∀ d ∈ r, Bl 0 d := by
  intro r hr d hd
  obtain ⟨b, _, rfl⟩ := List.mem_map.1 hr
  rw [List.mem_singleton.1 hd]
  exact .v _
theorem Its_bl (l : List Nat) : Bl 0 (Its l) := .sl (its_bl l)
theorem its_get {l : List Nat} {i n : Nat} (h : l[i]? = some n) : (its l)[i]? = some [.i n] := by simp [its, h]
noncomputable def endsI (r : Re) (s : ByteArray) (k : Int) : List Nat := if mayB r = true ∧ 0 ≤ k ∧ k ≤ s.size then posA (endsG r s k.toNat) 0 else []
theorem mEndsI (r : Re) (hz : r.sz ≤ 1099511627776) (hw : r.wd) (s : ByteArray) (hs : s.size ≤ 1000) (k : Int) : AP Tryd.prog 14 [.agg r.c, .s s, .i k] (Its (endsI r s k)) := by
  unfold endsI
  have nl : ∀ om : List Ob, AWP.Fin [] om (.ret (.v (.slice none 0 0))) (fun o' om' => o' = .ret (Its []) ∧ om' = []) := fun om => Fin.ret .nil
  by_cases hc : mayB r = true ∧ 0 ≤ k ∧ k ≤ s.size
  case neg =>
    rw [if_neg hc]
    refine AC.lbody hT hm Tryd.func14 f14_nm f14_lc f14_res f14_nt ?_
    simp only [go_sem, Int.reduceEq, Int.reduceLE, Int.reduceLT, Int.reduceToNat]
    refine (may r hz).pv ⟨.eq (resB r) (by simp), trivial⟩ ?_
    cases hmb : mayB r
    · simp only [go_sem, Int.reduceEq, Int.reduceLE, Int.reduceLT, Int.reduceToNat, Bool.not_false]
      exact nl _
    rw [hmb] at hc
    by_cases h0 : k < 0
    · simp only [go_sem, Int.reduceEq, Int.reduceLE, Int.reduceLT, Int.reduceToNat, Bool.not_true, h0]
      exact nl _
    have h1 : (s.size : Int) < k := by
      have hc : ¬ (0 ≤ k ∧ k ≤ s.size) := fun h => hc ⟨rfl, h⟩
      omega
    simp only [go_sem, Int.reduceEq, Int.reduceLE, Int.reduceLT, Int.reduceToNat, Bool.not_true, h0, h1]
    exact nl _
  obtain ⟨hmb, hk0, hk1⟩ := hc
  rw [if_pos ⟨hmb, hk0, hk1⟩]
  obtain ⟨q, rfl⟩ : ∃ q : Nat, k = q := ⟨k.toNat, by omega⟩
  have h0 : ¬ (q : Int) < 0 := by omega
  have h1 : ¬ (s.size : Int) < q := by omega
  have hs1 : IntKind.i64.wrap ((s.size : Int) + 1) = ((s.size + 1 : Nat) : Int) := wrap_succ _ (by omega)
  have hb : ((s.size + 1 : Nat) : Int) ≤ 281474976710656 := by omega
  have ho := only (List.replicate (s.size + 1) false) q (by simp; omega) (by simp; omega)
  rw [List.length_replicate] at ho
  have he := mEnds s hs _ r (Nat.le_refl _) (mayB_ok hmb) hw (onlyL (s.size + 1) q) (onlyL_len _ _)
  rw [Int.toNat_natCast]
  change AP _ _ _ (Its (posA (endsG r s q) 0))
  rw [show img (r.mt s) (onlyL (s.size + 1) q) = endsG r s q from rfl] at he
  have hgl := endsG_len r s q
  generalize endsG r s q = g at he hgl ⊢
  refine AC.lbody hT hm Tryd.func14 f14_nm f14_lc f14_res f14_nt ?_
  simp only [go_sem, Int.reduceEq, Int.reduceLE, Int.reduceLT, Int.reduceToNat]
  refine (may r hz).pv ⟨.eq (resB r) (by simp), trivial⟩ ?_
  simp only [go_sem, Int.reduceEq, Int.reduceLE, Int.reduceLT, Int.reduceToNat, hmb, Bool.not_true, h0, h1, hs1, hb]
  refine ⟨by omega, by omega, ?_⟩
  refine ho.qd ⟨.eq (by simp [bls, List.replicate_succ]) (.sl (by simp)), .v, trivial⟩ (Bls_bl _) ?_
  simp only [go_sem, Int.reduceEq, Int.reduceLE, Int.reduceLT, Int.reduceToNat]
  refine he.qd ⟨.same (Re.d_bl _), .v, .same (Bls_bl _), trivial⟩ (Bls_bl _) ?_
  simp only [go_sem, Int.reduceEq, Int.reduceLE, Int.reduceLT, Int.reduceToNat, List.length_map]
  refine xl_loopM hT hm (fun i : Nat => ⟨f14_i10 (.own 0) (Bls g) (.i g.length) (.i i), [.slc 3 1 (its (posA (g.take i) 0))]⟩)
    (fun i => i ≤ g.length) (fun i => g.length - i) 0 (Nat.zero_le _) ?_ ?_
  · refine Mv.of [none] rfl ⟨.nil (by omega), trivial⟩ ?_
    have hq : ∀ om : List Ob, Cv om (kF [none]) [none] (Bls g) (Bls g) := fun om => .same (Bls_bl g)
    simp [f14_i10, hq]
  intro i hi
  simp only [go_sem, Int.reduceEq, Int.reduceLE, Int.reduceLT, Int.reduceToNat, List.length_map]
  by_cases h : i < g.length
  case neg =>
    have ht : g.take i = g := List.take_of_length_le (by omega)
    simp only [go_sem, Int.reduceEq, Int.reduceLE, Int.reduceLT, Int.reduceToNat, h]
    rw [ht]
    exact Fin.ret (.frzS rfl rfl (its_bl _))
  obtain ⟨x, hx⟩ := get_ex h
  have hgx := bls_get hx
  have hp := posA_take hx
  have hpl := posA_len (g.take i) 0
  have hq : ∀ om (ks : List (Option Nat)), Cv om (kF ks) ks (Bls g) (Bls g) := fun om ks => .same (Bls_bl g)
  have hw1 := wrap_succ i (by omega)
  have hlt : (g.take i).length = i := by simp; omega
  cases x
  · simp only [go_sem, Int.reduceEq, Int.reduceLE, Int.reduceLT, Int.reduceToNat, h, hgx, hw1]
    refine ⟨i + 1, h, by omega, ?_⟩
    rw [hp]
    exact Mv.of [some 0] rfl ⟨.slcS (by simp) (its_bl _), trivial⟩ (by simp [f14_i10, hq])
  · simp only [go_sem, Int.reduceEq, Int.reduceLE, Int.reduceLT, Int.reduceToNat, h, hgx, hw1, List.length_map]
    refine ⟨by omega, i + 1, h, by omega, ?_⟩
    rw [hp]
    exact Mv.of [some 1] rfl ⟨.slcS (by simp) (its_bl _), trivial⟩ (by simp [f14_i10, hq])
end Go.Proofs.YtlejbkfefpfolaaDoor.W
set_option maxRecDepth 100000
/- The ends from a place on are those of the text from there on, as much further. -/
namespace Go.Proofs.YtlejbkfefpfolaaDoor.W
open Go Go.Proofs Go.Proofs.YtlejbkfefpfolaaDoor.AWP
attribute [local irreducible] xl hide aop aops aopQ qops guardP condP
theorem ints (l : List Nat) (hl : l.length ≤ 1000000) : AP Tryd.prog 15 [Its l, Its l] (.b true) := by
  refine AC.lbody hT hm Tryd.func15 f15_nm f15_lc f15_res f15_nt ?_
  simp only [go_sem, Int.reduceEq, Int.reduceLE, Int.reduceLT, Int.reduceToNat, List.length_map, bne_self_eq_false]
  refine xl_loopM hT hm (fun i : Nat => ⟨f15_i9 (Its l) (Its l) (.i l.length) (.i i), []⟩)
    (fun i => i ≤ l.length) (fun i => l.length - i) 0 (Nat.zero_le _) ?_ ?_
  · have hq : ∀ om (ks : List (Option Nat)), Cv om (fun _ => true) ks (Its l) (Its l) := fun om ks => .same (Its_bl l)
    exact Mv.none (by simp [f15_i9, hq])
  intro i hi
  simp only [go_sem, Int.reduceEq, Int.reduceLE, Int.reduceLT, Int.reduceToNat, List.length_map]
  by_cases h : i < l.length
  case neg =>
    simp only [go_sem, Int.reduceEq, Int.reduceLE, Int.reduceLT, Int.reduceToNat, h]
    exact Fin.v rfl
  obtain ⟨x, hx⟩ := get_ex h
  have hg := its_get hx
  have hq : ∀ om (ks : List (Option Nat)), Cv om (fun _ => true) ks (Its l) (Its l) := fun om ks => .same (Its_bl l)
  simp only [go_sem, Int.reduceEq, Int.reduceLE, Int.reduceLT, Int.reduceToNat, h, hg, bne_self_eq_false]
  rw [wrap_succ i (by omega)]
  exact ⟨i + 1, h, by omega, Mv.none (by simp [hq])⟩
def rAs : Re := .mk 6 0 0 0 0 [reS (ofS [97])]
def sAab : ByteArray := ⟨#[97, 97, 98]⟩
theorem endsAs : endsI rAs sAab 0 = [0, 1, 2] := by
  have hm : mayB rAs = true := by decide +kernel
  have hg : endsG rAs sAab 0 = [true, true, true, false] := by
    refine on_ext (endsG_len _ _ _) fun j hj => ?_
    rw [endsG_len] at hj
    rw [on_ends (Nat.zero_le _)]
    have hsz : sAab.size = 3 := rfl
    have hx : reS (ofS [97]) = .mk 3 0 8589934592 0 0 [] := Re.same_eq _ _ (by decide +kernel)
    have hst : ∀ i j, (reS (ofS [97])).mt sAab i j ↔ i < 3 ∧ j = i + 1 ∧ hasB [0, 8589934592, 0, 0] (byteAt sAab i) = true := by
      intro i j
      rw [hx, mt_3, hsz]
    have h01 : (reS (ofS [97])).mt sAab 0 1 := (hst 0 1).2 ⟨by omega, rfl, by decide +kernel⟩
    have h12 : (reS (ofS [97])).mt sAab 1 2 := (hst 1 2).2 ⟨by omega, rfl, by decide +kernel⟩
    have hle : ∀ i j, StarR ((reS (ofS [97])).mt sAab) i j → i ≤ 2 → j ≤ 2 := by
      intro i j h hi
      induction h with
      | refl => exact hi
      | step hs1 h2 ih =>
        rename_i m k'
        have := ih
        obtain ⟨q1, rfl, q2⟩ := (hst _ _).1 h2
        by_cases hm : m = 2
        · subst hm
          exact absurd q2 (by decide +kernel)
        · omega
    unfold rAs
    rw [mt_6, hsz]
    have h4 : j = 0 ∨ j = 1 ∨ j = 2 ∨ j = 3 := by omega
    rcases h4 with rfl | rfl | rfl | rfl
    · exact ⟨fun _ => rfl, fun _ => ⟨by omega, .refl 0⟩⟩
    · exact ⟨fun _ => rfl, fun _ => ⟨by omega, .one h01⟩⟩
    · exact ⟨fun _ => rfl, fun _ => ⟨by omega, .step (.one h01) h12⟩⟩
    · refine ⟨fun h => ?_, fun h => ?_⟩
      · have := hle 0 3 h.2 (by omega)
        omega
      · cases h
  unfold endsI
  rw [if_pos ⟨hm, by omega, by show (0 : Int) ≤ 3; omega⟩]
  show posA (endsG rAs sAab 0) 0 = _
  rw [hg]
  rfl
theorem awake10 : AP Tryd.prog 13 [] (.b true) := by
  have e1 : (pRead ⟨#[97, 42]⟩).2 = (0, 0) := by decide +kernel
  have e2 : (pRead ⟨#[97, 42]⟩).1 = rAs := Re.same_eq _ _ (by decide +kernel)
  have z : rAs.sz ≤ 1099511627776 := by decide +kernel
  have hw : rAs.wd := by
    have hx : rAs = .mk 6 0 0 0 0 [.mk 3 0 8589934592 0 0 []] := Re.same_eq _ _ (by decide +kernel)
    rw [hx, Re.wd, Re.wds, Re.wds, Re.wd, Re.wds]
    exact ⟨⟨[0, 0, 0, 0], rfl, rfl, by decide⟩, ⟨⟨[0, 8589934592, 0, 0], rfl, rfl, by decide⟩, trivial⟩, trivial⟩
  have h1 := mEndsI rAs z hw sAab (by decide) 0
  rw [endsAs] at h1
  have h2 := ints [0, 1, 2] (by simp)
  refine AC.lbody hT hm Tryd.func13 f13_nm f13_lc f13_res f13_nt ?_
  simp only [go_sem, Int.reduceEq, Int.reduceLE, Int.reduceLT, Int.reduceToNat]
  refine (readN ⟨#[97, 42]⟩).pd ⟨.v, trivial⟩ (wdD_bl _) ?_
  generalize pRead ⟨#[97, 42]⟩ = x at e1 e2
  obtain ⟨r, p⟩ := x
  cases e1
  obtain rfl : r = rAs := e2
  have c0 : (((0 : Nat) : Int) == 0) = true := rfl
  simp only [go_sem, Int.reduceEq, Int.reduceLE, Int.reduceLT, Int.reduceToNat, c0]
  refine h1.pd ⟨.same (Re.d_bl _), .v, .v, trivial⟩ (Its_bl _) ?_
  simp only [go_sem, Int.reduceEq, Int.reduceLE, Int.reduceLT, Int.reduceToNat]
  refine h2.pv ⟨.same (Its_bl _), .same (by simp), trivial⟩ ?_
  simp only [go_sem, Int.reduceEq, Int.reduceLE, Int.reduceLT, Int.reduceToNat]
  exact Fin.v rfl
end Go.Proofs.YtlejbkfefpfolaaDoor.W
set_option maxRecDepth 100000
/- An expression, its normal form, and what is read of its text, have the same ends. -/
namespace Go.Proofs.YtlejbkfefpfolaaDoor.W
open Go Go.Proofs Go.Proofs.YtlejbkfefpfolaaDoor.AWP
attribute [local irreducible] xl hide aop aops aopQ qops guardP condP
theorem decL (a b : Int) (h : a < b) : decide (a < b) = true := decide_eq_true h
theorem decF (a b : Int) (h : ¬ a < b) : decide (a < b) = false := decide_eq_false h
theorem endsI_nrm (r : Re) (h : mayB r = true) (hw : r.wd) (s : ByteArray) (k : Int) : endsI r.nrm s k = endsI r s k := by
  obtain ⟨h1, h2⟩ := mayZ h
  have hm : mayB r.nrm = true := by
    unfold mayB
    simp only [nrm_ok r h1, Bool.true_and, decide_eq_true_eq]
    exact Nat.le_trans (nrm_sz r h1) h2
  unfold endsI
  by_cases hk : 0 ≤ k ∧ k ≤ s.size
  · rw [if_pos ⟨hm, hk⟩, if_pos ⟨h, hk⟩]
    unfold endsG
    rw [img_congr fun i j _ _ => nrm_mt r h1 hw i j]
  · rw [if_neg fun h => hk h.2, if_neg fun h => hk h.2]
theorem endsI_len (r : Re) (s : ByteArray) (hs : s.size ≤ 1000) (k : Int) : (endsI r s k).length ≤ 1000000 := by
  unfold endsI
  split
  · have := posA_len (endsG r s k.toNat) 0
    rw [endsG_len] at this
    omega
  · exact Nat.zero_le _
theorem readText (y : Re) (hm0 : mayB y = true) (hw : y.wd) (hr : pRead y.text = (y, 0, 0)) : AP Tryd.prog 9 [txD y.txt] (wdD (y, 0, 0)) := by
  have := readN y.text
  rw [hr] at this
  exact this
set_option maxHeartbeats 1000000 in
theorem matchForms (r : Re) (s : ByteArray) (hz : r.sz ≤ 1048576) (hw : r.wd) : AP Tryd.prog 4 [.agg r.c, .s s] (.b true) := by
  have hG := great 60 r
  have hM := rMay r (by omega)
  have hcs := cnt_sz 60 (by omega) r (by omega)
  have hN := nNormZ r hz
  refine AC.lbody hT hm Tryd.func4 f4_nm f4_lc f4_res f4_nt ?_
  simp only [go_sem, Int.reduceEq, Int.reduceLE, Int.reduceLT, Int.reduceToNat]
  refine hG.pv ⟨.same (Re.d_bl _), .v, trivial⟩ ?_
  by_cases hg : 60 < r.cnt 60
  · simp only [go_sem, Int.reduceEq, Int.reduceLE, Int.reduceLT, Int.reduceToNat, decL _ _ hg]
    refine awake10.pv trivial ?_
    simp only [go_sem, Int.reduceEq, Int.reduceLE, Int.reduceLT, Int.reduceToNat]
    exact Fin.v rfl
  have hsz : r.sz ≤ 60 := by have := hcs (by omega); omega
  simp only [go_sem, Int.reduceEq, Int.reduceLE, Int.reduceLT, Int.reduceToNat, decF _ _ hg]
  by_cases hs : (20 : Int) < s.size
  · simp only [go_sem, Int.reduceEq, Int.reduceLE, Int.reduceLT, Int.reduceToNat, hs]
    refine awake10.pv trivial ?_
    simp only [go_sem, Int.reduceEq, Int.reduceLE, Int.reduceLT, Int.reduceToNat]
    exact Fin.v rfl
  have hs' : s.size ≤ 1000 := by omega
  simp only [go_sem, Int.reduceEq, Int.reduceLE, Int.reduceLT, Int.reduceToNat, hs]
  refine hM.pv ⟨.same (Re.d_bl _), trivial⟩ ?_
  rcases mayCase r with hm0 | hm0
  · simp only [go_sem, Int.reduceEq, Int.reduceLE, Int.reduceLT, Int.reduceToNat, hm0, Bool.not_false]
    refine awake10.pv trivial ?_
    simp only [go_sem, Int.reduceEq, Int.reduceLE, Int.reduceLT, Int.reduceToNat]
    exact Fin.v rfl
  obtain ⟨hok, hz2⟩ := mayZ hm0
  have hT := showText r hz hw
  have hl := txt_len r hok
  have hb := readText r hm0 hw (read_text hm0 hw (by omega))
  have hsh : shT r = r.txt := by unfold shT; rw [if_pos hm0]
  rw [hsh] at hT
  have hnz : nrmZ r = r.nrm := by unfold nrmZ; rw [if_pos hm0]
  rw [hnz] at hN
  have hnsz := nrm_sz r hok
  have c1 := mEndsI r (by omega) hw s hs' 0
  have c2 := mEndsI r.nrm (by omega) (nrm_wd r hok hw) s hs' 0
  rw [endsI_nrm r hm0 hw s 0] at c2
  have hi := ints (endsI r s 0) (endsI_len r s hs' 0)
  generalize endsI r s 0 = L at c1 c2 hi
  have z3 : (((0 : Nat) : Int) == 0) = true := rfl
  simp only [go_sem, Int.reduceEq, Int.reduceLE, Int.reduceLT, Int.reduceToNat, hm0, Bool.not_true]
  refine hT.pv ⟨.same (Re.d_bl _), trivial⟩ ?_
  simp only [go_sem, Int.reduceEq, Int.reduceLE, Int.reduceLT, Int.reduceToNat]
  refine hb.pd ⟨.v, trivial⟩ (wdD_bl _) ?_
  simp only [go_sem, Int.reduceEq, Int.reduceLE, Int.reduceLT, Int.reduceToNat]
  refine c1.pd ⟨.same (Re.d_bl _), .v, .v, trivial⟩ (Its_bl _) ?_
  simp only [go_sem, Int.reduceEq, Int.reduceLE, Int.reduceLT, Int.reduceToNat, z3]
  refine hN.pd ⟨.same (Re.d_bl _), trivial⟩ (Re.d_bl _) ?_
  simp only [go_sem, Int.reduceEq, Int.reduceLE, Int.reduceLT, Int.reduceToNat]
  refine c2.pd ⟨.same (Re.d_bl _), .v, .v, trivial⟩ (Its_bl _) ?_
  simp only [go_sem, Int.reduceEq, Int.reduceLE, Int.reduceLT, Int.reduceToNat]
  refine hi.pv ⟨.same (Its_bl _), .same (Its_bl _), trivial⟩ ?_
  simp only [go_sem, Int.reduceEq, Int.reduceLE, Int.reduceLT, Int.reduceToNat]
  refine c1.pd ⟨.same (Re.d_bl _), .v, .v, trivial⟩ (Its_bl _) ?_
  simp only [go_sem, Int.reduceEq, Int.reduceLE, Int.reduceLT, Int.reduceToNat]
  refine hi.pv ⟨.same (Its_bl _), .same (Its_bl _), trivial⟩ ?_
  simp only [go_sem, Int.reduceEq, Int.reduceLE, Int.reduceLT, Int.reduceToNat]
  refine awake10.pv trivial ?_
  simp only [go_sem, Int.reduceEq, Int.reduceLE, Int.reduceLT, Int.reduceToNat]
  exact Fin.v rfl
end Go.Proofs.YtlejbkfefpfolaaDoor.W
