/- From some places on, where a text may end. -/
import Derived.Test.YteifkcgokjmcjaaMatchA
set_option linter.unusedVariables false
set_option linter.unusedSimpArgs false
set_option linter.unusedSectionVars false
set_option maxRecDepth 100000
/- From some places on, where a text may end. -/
namespace Go.Proofs.Yteifkcgokjmcjaa.W
open Go Go.Proofs Go.Proofs.Yteifkcgokjmcjaa.AWP
attribute [local irreducible] xl hide aop aops aopQ qops guardP condP

theorem byteAt_get {s : ByteArray} {i : Nat} (h : i < s.size) : ∃ b : UInt8, s.data[i]? = some b ∧ byteAt s i = b.toNat := by
  obtain ⟨b, hb⟩ := get_lt h
  exact ⟨b, hb, by unfold byteAt; rw [at_of hb]⟩
theorem mEnds1 (s : ByteArray) (hs : s.size ≤ 1000) (p : List Bool) (hp : p.length = s.size + 1) : AP Try.prog 51 [.agg (Re.mk 1 0 0 0 0 []).c, .s s, Bls p] (Bls (img ((Re.mk 1 0 0 0 0 []).mt s) p)) := by
  have hb : (p.length : Int) ≤ 281474976710656 := by omega
  rw [img_none]
  refine AC.lbody hT hm Try.func51 f51_nm f51_lc f51_res f51_nt ?_
  simp only [go_sem, Int.reduceEq, Int.reduceLE, Int.reduceLT, Int.reduceToNat, List.length_map, hb, Re.c_mk, Int.reduceBEq]
  refine ⟨by omega, by omega, ?_⟩
  exact Fin.ret (.frzS (ty := 4) (by rw [← bls_rep]; rfl) rfl (bls_bl _))
theorem mEnds2 (s : ByteArray) (hs : s.size ≤ 1000) (p : List Bool) (hp : p.length = s.size + 1) : AP Try.prog 51 [.agg (Re.mk 2 0 0 0 0 []).c, .s s, Bls p] (Bls (img ((Re.mk 2 0 0 0 0 []).mt s) p)) := by
  have hb : (p.length : Int) ≤ 281474976710656 := by omega
  rw [img_eps]
  refine AC.lbody hT hm Try.func51 f51_nm f51_lc f51_res f51_nt ?_
  simp only [go_sem, Int.reduceEq, Int.reduceLE, Int.reduceLT, Int.reduceToNat, List.length_map, hb, Re.c_mk, Int.reduceBEq]
  refine ⟨by omega, by omega, ?_⟩
  simp only [go_sem, Int.reduceEq, Int.reduceLE, Int.reduceLT, Int.reduceToNat, List.length_map, List.length_replicate]
  refine Fin.ret (.frzS (ty := 4) ?_ rfl (bls_bl _))
  rw [bls_rep, List.take_of_length_le (by simp)]
  simp
theorem mEnds3 (s : ByteArray) (hs : s.size ≤ 1000) (a b c d : Int) (hw : W64 [a, b, c, d]) (p : List Bool) (hp : p.length = s.size + 1) : AP Try.prog 51 [.agg (Re.mk 3 a b c d []).c, .s s, Bls p] (Bls (img ((Re.mk 3 a b c d []).mt s) p)) := by
  have hb : (p.length : Int) ≤ 281474976710656 := by omega
  have h0 := img_cls_0 s a b c d p hp
  have hil := img_len ((Re.mk 3 a b c d []).mt s) p
  have hcl := fun (i : Nat) (x : Bool) (hi : i < s.size) (hx : p[i]? = some x) => img_cls (a := a) (b := b) (c := c) (d := d) hp hi hx
  generalize img ((Re.mk 3 a b c d []).mt s) p = g at h0 hil hcl ⊢
  have e0 : bls (g.take (0 + 1) ++ List.replicate (p.length - (0 + 1)) false) = List.replicate p.length [D.v (.bool false)] := by
    rw [Nat.zero_add, h0, bls_rep]
    congr 1
    rw [show p.length = p.length - 1 + 1 from by omega, List.replicate_succ]
    rfl
  refine AC.lbody hT hm Try.func51 f51_nm f51_lc f51_res f51_nt ?_
  simp only [go_sem, Int.reduceEq, Int.reduceLE, Int.reduceLT, Int.reduceToNat, List.length_map, hb, Re.c_mk, Int.reduceBEq]
  refine ⟨by omega, by omega, ?_⟩
  refine xl_loopM hT hm (fun i : Nat => ⟨f51_i11 (.s s) (Bls p) (.pel (Re.mk 3 a b c d []).c) (.own 0) (.i s.size) (.i i), [blOb (g.take (i + 1) ++ List.replicate (p.length - (i + 1)) false)]⟩)
    (fun i => i ≤ s.size) (fun i => s.size - i) 0 (Nat.zero_le _) ?_ ?_
  · refine Mv.of [some 0] rfl ⟨.slcS (by rw [e0]; rfl) (bls_bl _), trivial⟩ ?_
    have hq : ∀ om : List Ob, Cv om (kF [some 0]) [some 0] (Bls p) (Bls p) := fun om => .same (Bls_bl p)
    simp [f51_i11, hq, Re.c_mk, Re.cs_eq]
  intro i hi
  simp only [go_sem, Int.reduceEq, Int.reduceLE, Int.reduceLT, Int.reduceToNat, List.length_map]
  by_cases h : i < s.size
  case neg =>
    have e : g.take (i + 1) ++ List.replicate (p.length - (i + 1)) false = g := by
      rw [List.take_of_length_le (by omega), show p.length - (i + 1) = 0 from by omega]
      simp
    simp only [go_sem, Int.reduceEq, Int.reduceLE, Int.reduceLT, Int.reduceToNat, h]
    rw [e]
    exact Fin.ret (.frzS rfl rfl (bls_bl _))
  obtain ⟨by_, hby, hbv⟩ := byteAt_get h
  obtain ⟨x, hx⟩ := get_ex (l := p) (show i < p.length by omega)
  have hgx := bls_get hx
  have hgv := hcl i x h hx
  rw [hbv] at hgv
  have hwi := wrap_succ i (by omega)
  have hcur : (bls (g.take (i + 1) ++ List.replicate (p.length - (i + 1)) false))[i + 1]? = some [.b false] := by
    refine bls_get ?_
    rw [List.getElem?_append_right (by simp; omega), List.getElem?_replicate_of_lt (by simp; omega)]
  have hset := take_set hgv hil
  have hst : ∀ v, v = (x && hasB [a, b, c, d] by_.toNat) → (bls (g.take (i + 1) ++ List.replicate (p.length - (i + 1)) false)).set (i + 1) [.v (.bool v)] = bls (g.take (i + 1 + 1) ++ List.replicate (p.length - (i + 1 + 1)) false) := by
    rintro _ rfl
    rw [bls_set, hset]
  have hil2 : i + 1 < (g.take (i + 1)).length + (p.length - (i + 1)) := by simp; omega
  have hq : ∀ om : List Ob, Cv om (kF [some 0]) [some 0] (Bls p) (Bls p) := fun om => .same (Bls_bl p)
  have hil3 : i + 1 < p.length := by omega
  cases x
  · have e := hst false (by simp)
    simp only [go_sem, Int.reduceEq, Int.reduceLE, Int.reduceLT, Int.reduceToNat, h, hgx, Re.c_mk, hwi, hcur, Nat.div_one, Nat.mod_one, e, List.length_map, List.length_append, List.length_replicate, hil2]
    refine ⟨i + 1, h, by omega, ?_⟩
    exact Mv.of [some 0] rfl ⟨.slcS rfl (bls_bl _), trivial⟩ (by simp [f51_i11, hq, Re.c_mk, Re.cs_eq])
  · have e := hst (hasB [a, b, c, d] by_.toNat) (by simp)
    simp only [go_sem, Int.reduceEq, Int.reduceLE, Int.reduceLT, Int.reduceToNat, h, hgx, Re.c_mk, hwi, hby]
    refine (setHas [a, b, c, d] hw by_).qv ⟨.same (.agg (W_bl [a, b, c, d])), .v, trivial⟩ ?_
    simp only [go_sem, Int.reduceEq, Int.reduceLE, Int.reduceLT, Int.reduceToNat, h, hgx, Re.c_mk, hwi, hcur, Nat.div_one, Nat.mod_one, e, List.length_map, List.length_append, List.length_replicate, hil2]
    refine ⟨i + 1, h, by omega, ?_⟩
    exact Mv.of [some 0] rfl ⟨.slcS rfl (bls_bl _), trivial⟩ (by simp [f51_i11, hq, Re.c_mk, Re.cs_eq])
theorem mEnds4 (s : ByteArray) (hs : s.size ≤ 1000) (x y : Re) (hox : x.nodesOk = true) (p : List Bool) (hp : p.length = s.size + 1)
    (hx : ∀ p : List Bool, p.length = s.size + 1 → AP Try.prog 51 [.agg x.c, .s s, Bls p] (Bls (img (x.mt s) p))) (hy : ∀ p : List Bool, p.length = s.size + 1 → AP Try.prog 51 [.agg y.c, .s s, Bls p] (Bls (img (y.mt s) p))) :
    AP Try.prog 51 [.agg (Re.mk 4 0 0 0 0 [x, y]).c, .s s, Bls p] (Bls (img ((Re.mk 4 0 0 0 0 [x, y]).mt s) p)) := by
  have hb : (p.length : Int) ≤ 281474976710656 := by omega
  rw [img_seq s x y hox p hp]
  refine AC.lbody hT hm Try.func51 f51_nm f51_lc f51_res f51_nt ?_
  simp only [go_sem, Int.reduceEq, Int.reduceLE, Int.reduceLT, Int.reduceToNat, List.length_map, hb, Re.c_mk, Int.reduceBEq]
  refine ⟨by omega, by omega, ?_⟩
  refine (hx p hp).qd ⟨.same (Re.d_bl _), .v, .same (Bls_bl _), trivial⟩ (Bls_bl _) ?_
  simp only [go_sem, Int.reduceEq, Int.reduceLE, Int.reduceLT, Int.reduceToNat, List.length_map, Re.c_mk]
  refine (hy (img (x.mt s) p) (by rw [img_len]; exact hp)).pd ⟨.same (Re.d_bl _), .v, .same (Bls_bl _), trivial⟩ (Bls_bl _) ?_
  simp only [go_sem, Int.reduceEq, Int.reduceLE, Int.reduceLT, Int.reduceToNat, List.length_map, Re.c_mk]
  exact Fin.ret (.same (Bls_bl _))
theorem mEnds5 (s : ByteArray) (hs : s.size ≤ 1000) (x y : Re) (p : List Bool) (hp : p.length = s.size + 1)
    (hx : ∀ p : List Bool, p.length = s.size + 1 → AP Try.prog 51 [.agg x.c, .s s, Bls p] (Bls (img (x.mt s) p))) (hy : ∀ p : List Bool, p.length = s.size + 1 → AP Try.prog 51 [.agg y.c, .s s, Bls p] (Bls (img (y.mt s) p))) :
    AP Try.prog 51 [.agg (Re.mk 5 0 0 0 0 [x, y]).c, .s s, Bls p] (Bls (img ((Re.mk 5 0 0 0 0 [x, y]).mt s) p)) := by
  have hb : (p.length : Int) ≤ 281474976710656 := by omega
  rw [img_alt s x y p]
  have j1 := join (List.replicate p.length false) (img (x.mt s) p) (by simp [img_len]) (by simp; omega)
  have l1 : (orL (List.replicate p.length false) (img (x.mt s) p)).length = p.length := by rw [orL_len (by simp [img_len])]; simp
  have j2 := join (orL (List.replicate p.length false) (img (x.mt s) p)) (img (y.mt s) p) (by rw [l1, img_len]) (by rw [l1]; omega)
  refine AC.lbody hT hm Try.func51 f51_nm f51_lc f51_res f51_nt ?_
  simp only [go_sem, Int.reduceEq, Int.reduceLE, Int.reduceLT, Int.reduceToNat, List.length_map, hb, Re.c_mk, Int.reduceBEq]
  refine ⟨by omega, by omega, ?_⟩
  simp only [go_sem, Int.reduceEq, Int.reduceLE, Int.reduceLT, Int.reduceToNat, List.length_map, Re.c_mk, bls_rep]
  refine (hx p hp).pd ⟨.same (Re.d_bl _), .v, .same (Bls_bl _), trivial⟩ (Bls_bl _) ?_
  simp only [go_sem, Int.reduceEq, Int.reduceLE, Int.reduceLT, Int.reduceToNat, List.length_map, Re.c_mk]
  refine ⟨_, j1, ?_⟩
  rintro _ _ ⟨rfl, rfl⟩
  simp only [go_sem, Int.reduceEq, Int.reduceLE, Int.reduceLT, Int.reduceToNat, List.length_map, Re.c_mk]
  refine (hy p hp).pd ⟨.same (Re.d_bl _), .v, .same (Bls_bl _), trivial⟩ (Bls_bl _) ?_
  simp only [go_sem, Int.reduceEq, Int.reduceLE, Int.reduceLT, Int.reduceToNat, List.length_map, Re.c_mk]
  refine ⟨_, j2, ?_⟩
  rintro _ _ ⟨rfl, rfl⟩
  simp only [go_sem, Int.reduceEq, Int.reduceLE, Int.reduceLT, Int.reduceToNat, List.length_map, Re.c_mk]
  exact Fin.ret (.frzS rfl rfl (bls_bl _))

theorem joinF (p q : List Bool) (h : p.length = q.length) (hp : p.length ≤ 1000000) (fr : List Ob) : AC Try.prog 79 [.own 0, Bls q] ([blOb p] ++ fr) (fun o om => ∃ om', (o = .ret (.b (newL p q)) ∧ om' = [blOb (orL p q)]) ∧ om = om' ++ fr) := by
  refine (join p q h hp).frame (fun o ho => ?_) (fun d hd => ?_) ?_
  · rw [List.mem_singleton.1 ho]
    intro r hr d hd
    exact (bls_bl p r hr d hd).mono (Nat.zero_le _)
  · rcases List.mem_cons.1 hd with rfl | hd
    · exact .own Nat.one_pos
    · rw [List.mem_singleton.1 hd]; exact (Bls_bl q).mono (Nat.zero_le _)
  · rintro o om' ⟨_, rfl⟩; rfl

theorem mEnds6 (s : ByteArray) (hs : s.size ≤ 1000) (x : Re) (hox : x.nodesOk = true) (p : List Bool) (hp : p.length = s.size + 1)
    (ih : ∀ y : Re, y.sz ≤ x.sz → y.nodesOk = true → (x.wd → y.wd) → ∀ p : List Bool, p.length = s.size + 1 → AP Try.prog 51 [.agg y.c, .s s, Bls p] (Bls (img (y.mt s) p))) :
    AP Try.prog 51 [.agg (Re.mk 6 0 0 0 0 [x]).c, .s s, Bls p] (Bls (img ((Re.mk 6 0 0 0 0 [x]).mt s) p)) := by
  have hb : (p.length : Int) ≤ 281474976710656 := by omega
  have himg : img ((Re.mk 6 0 0 0 0 [x]).mt s) p = img (StarR (x.mt s)) p := img_congr fun i j _ _ => mt_6
  rw [himg]
  refine AC.lbody hT hm Try.func51 f51_nm f51_lc f51_res f51_nt ?_
  simp only [go_sem, Int.reduceEq, Int.reduceLE, Int.reduceLT, Int.reduceToNat, List.length_map, hb, Re.c_mk, Int.reduceBEq]
  refine ⟨by omega, by omega, ?_⟩
  refine xl_loopM hT hm (fun y : Re => ⟨f51_i21 (.s s) (Bls p) (.own 0) (.ref 1 0), [blOb (List.replicate p.length false), .var 28 y.c]⟩)
    (fun y => y.sz ≤ x.sz ∧ y.nodesOk = true ∧ (x.wd → y.wd) ∧ ∀ i j, StarR (y.mt s) i j ↔ StarR (x.mt s) i j) (fun y => y.sz) x ⟨Nat.le_refl _, hox, id, fun _ _ => Iff.rfl⟩ ?_ ?_
  · refine Mv.of [some 0, some 1] rfl ⟨.slcS (by rw [← bls_rep]; rfl) (bls_bl _), .varS rfl (by simp), trivial⟩ ?_
    have hq : ∀ om : List Ob, Cv om (kF [some 0, some 1]) [some 0, some 1] (Bls p) (Bls p) := fun om => .same (Bls_bl p)
    simp [f51_i21, hq]
  rintro y ⟨hy1, hy2, hy3, hy4⟩
  by_cases hk6 : ∃ z, y = .mk 6 0 0 0 0 [z] ∧ z.nodesOk = true
  · obtain ⟨z, rfl, hz⟩ := hk6
    have hzs : (Re.mk 6 0 0 0 0 [z]).sz = 1 + z.sz := by simp [Re.sz, Re.szs]
    simp only [go_sem, Int.reduceEq, Int.reduceLE, Int.reduceLT, Int.reduceToNat, Re.c_mk, Int.reduceBEq, Re.put1]
    refine ⟨z, ⟨by omega, hz, fun h => ?_, fun i j => ?_⟩, by omega, Mv.of [some 0, some 1] rfl ⟨.slcS rfl (bls_bl _), .varS rfl (by simp), trivial⟩ ?_⟩
    · have := hy3 h
      rw [Re.wd, Re.wds] at this
      exact this.2.1
    · rw [← hy4, star_star]
    · have hq : ∀ om : List Ob, Cv om (kF [some 0, some 1]) [some 0, some 1] (Bls p) (Bls p) := fun om => .same (Bls_bl p)
      simp [hq]
  obtain ⟨k, a, b, c, d, ks⟩ := y
  have hk : k ≠ 6 := by
    rintro rfl
    rcases Re.ok_cases hy2 with ⟨k', h, e⟩ | ⟨a', b', c', d', _, e⟩ | ⟨k', u, v, h, e, _, _⟩ | ⟨u, e, hu⟩
    · cases e; omega
    · cases e
    · cases e; omega
    · cases e; exact hk6 ⟨u, rfl, hu⟩
  have ihy := ih _ hy1 hy2 hy3
  have hyle := fun (i j : Nat) (h : (Re.mk k a b c d ks).mt s i j) => mt_le (s := s) _ hy2 i j h
  have hfin : img (StarR ((Re.mk k a b c d ks).mt s)) p = img (StarR (x.mt s)) p := img_congr fun i j _ _ => hy4 i j
  simp only [go_sem, Int.reduceEq, Int.reduceLE, Int.reduceLT, Int.reduceToNat, Re.c_mk, AWP.beq_false hk]
  rw [← hfin]
  generalize hR : (Re.mk k a b c d ks).mt s = R at ihy hyle ⊢
  refine xl_loopM hT hm (fun q : List Bool × List Bool => ⟨f51_i25 (.s s) (.own 0) (.ref 1 0) (Bls q.2), [blOb q.1, .var 28 (Re.mk k a b c d ks).c]⟩)
    (fun q => q.1.length = p.length ∧ q.2.length = p.length ∧ (∀ j, On q.1 j ∨ On q.2 j → On (img (StarR R) p) j) ∧ (∀ j, On p j → On q.1 j ∨ On q.2 j) ∧ (∀ i j, On q.1 i → R i j → j < p.length → On q.1 j ∨ On q.2 j)) (fun q => offs q.1) (List.replicate p.length false, p) ⟨by simp, rfl, ?_, ?_, ?_⟩ ?_ ?_
  · rintro j (h | h)
    · exfalso
      have hj := h.lt
      simp at hj
      unfold On at h
      rw [List.getElem?_replicate_of_lt hj] at h
      simp at h
    · exact on_img.2 ⟨h.lt, j, h, .refl j⟩
  · exact fun j h => .inr h
  · intro i j h
    exfalso
    have hj := h.lt
    simp at hj
    unfold On at h
    rw [List.getElem?_replicate_of_lt hj] at h
    simp at h
  · refine Mv.of [some 0, some 1] rfl ⟨.slcS rfl (bls_bl _), .varS (by simp [Re.c_mk, Re.cs_eq]) (by simp), trivial⟩ ?_
    have hq : ∀ om : List Ob, Cv om (kF [some 0, some 1]) [some 0, some 1] (Bls p) (Bls p) := fun om => .same (Bls_bl p)
    simp [f51_i25, hq]
  rintro ⟨o, q⟩ ⟨ho, hq, i1, i2, i3⟩
  dsimp only at ho hq i1 i2 i3
  simp only [go_sem, Int.reduceEq, Int.reduceLE, Int.reduceLT, Int.reduceToNat]
  refine ⟨_, joinF o q (by omega) (by omega) [_], ?_⟩
  rintro _ _ ⟨_, ⟨rfl, rfl⟩, rfl⟩
  cases hn : newL o q
  · have hdone := star_done hq ho hn i1 i2 i3 (fun i j hi h => by have := hyle i j h; omega)
    simp only [go_sem, Int.reduceEq, Int.reduceLE, Int.reduceLT, Int.reduceToNat, hn]
    rw [← hdone]
    exact Fin.ret (.frzS rfl rfl (bls_bl _))
  · obtain ⟨s1, s2, s3⟩ := star_step hq ho i1 i2 i3
    have hlt := offs_lt (by omega : o.length = q.length) hn
    simp only [go_sem, Int.reduceEq, Int.reduceLE, Int.reduceLT, Int.reduceToNat, hn]
    refine (ihy q (by omega)).pd ⟨.eq (by rw [Re.c_mk, Re.cs_eq]) (by simp), .v, .same (Bls_bl _), trivial⟩ (Bls_bl _) ?_
    simp only [go_sem, Int.reduceEq, Int.reduceLE, Int.reduceLT, Int.reduceToNat]
    refine ⟨(orL o q, img R q), ⟨by rw [orL_len (by omega)]; exact ho, by rw [img_len]; exact hq, s1, s2, s3⟩, hlt, Mv.of [some 0, some 1] rfl ⟨.slcS rfl (bls_bl _), .varS (by simp [Re.c_mk, Re.cs_eq]) (by simp), trivial⟩ ?_⟩
    have hq : ∀ om : List Ob, Cv om (kF [some 0, some 1]) [some 0, some 1] (Bls (img R q)) (Bls (img R q)) := fun om => .same (Bls_bl _)
    simp [f51_i25, hq]

theorem mEnds (s : ByteArray) (hs : s.size ≤ 1000) : ∀ (n : Nat) (r : Re), r.sz ≤ n → r.nodesOk = true → r.wd → ∀ p : List Bool, p.length = s.size + 1 → AP Try.prog 51 [.agg r.c, .s s, Bls p] (Bls (img (r.mt s) p)) := by
  intro n
  induction n with
  | zero => intro r hr; have := r.sz_pos; omega
  | succ n ih =>
    intro r hr hok hw p hp
    rcases Re.ok_cases hok with ⟨k, hk, rfl⟩ | ⟨a, b, c, d, hn, rfl⟩ | ⟨k, x, y, hk, rfl, hx, hy⟩ | ⟨x, rfl, hx⟩
    · rcases hk with rfl | rfl
      · exact mEnds1 s hs p hp
      · exact mEnds2 s hs p hp
    · rw [Re.wd] at hw
      exact mEnds3 s hs a b c d hw.1 p hp
    · rw [Re.wd, Re.wds, Re.wds, Re.wds] at hw
      have hz : (Re.mk k 0 0 0 0 [x, y]).sz = 1 + (x.sz + y.sz) := by simp [Re.sz, Re.szs]
      have hx' := fun p hp => ih x (by omega) hx hw.2.1 p hp
      have hy' := fun p hp => ih y (by omega) hy hw.2.2.1 p hp
      rcases hk with rfl | rfl
      · exact mEnds4 s hs x y hx p hp hx' hy'
      · exact mEnds5 s hs x y p hp hx' hy'
    · rw [Re.wd, Re.wds, Re.wds] at hw
      have hz : (Re.mk 6 0 0 0 0 [x]).sz = 1 + x.sz := by simp [Re.sz, Re.szs]
      exact mEnds6 s hs x hx p hp fun y hy hok' hwy p hp => ih y (by omega) hok' (hwy hw.2.1) p hp
end Go.Proofs.Yteifkcgokjmcjaa.W
