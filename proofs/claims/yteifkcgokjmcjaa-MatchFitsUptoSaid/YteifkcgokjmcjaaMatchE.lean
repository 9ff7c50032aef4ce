/- The document's places: one more; where texts end, by kind. What is handed in comes back as it is where an expression is put together of empty texts. -/
import Derived.Test.YteifkcgokjmcjaaMatchD
import Derived.Test.YteifkcgokjmcjaaAwpZ
set_option linter.unusedVariables false
set_option linter.unusedSimpArgs false
set_option linter.unusedSectionVars false
set_option maxRecDepth 100000
/- The document's places: one more; where texts end, by kind. What is handed in comes back as it is where an expression is put together of empty texts. -/
namespace Go.Proofs.Yteifkcgokjmcjaa.W
open Go Go.Proofs Go.Proofs.Yteifkcgokjmcjaa.AWP
attribute [local irreducible] xl hide aop aops aopQ qops guardP condP

def epsy : Re → Bool
  | .mk k _ _ _ _ [x, y] => decide (k = 4) && epsy x && epsy y
  | .mk k _ _ _ _ [] => decide (k = 2)
  | _ => false
theorem epsy_img (s : ByteArray) (r : Re) : r.nodesOk = true → epsy r = true → ∀ p : List Bool, p.length = s.size + 1 → img (r.mt s) p = p := by
  refine Re.indOk (p := fun r => epsy r = true → ∀ p : List Bool, p.length = s.size + 1 → img (r.mt s) p = p) ?_ ?_ ?_ ?_ r
  · rintro k (rfl | rfl) h p hp
    · simp [epsy] at h
    · exact img_eps s p
  · intro a b c d _ h
    simp [epsy] at h
  · rintro k x y (rfl | rfl) hox hoy hx hy h p hp
    · simp only [epsy, Bool.and_eq_true] at h
      rw [img_seq s x y hox p hp, hx h.1.2 p hp, hy h.2 p hp]
    · simp [epsy] at h
  · intro x _ _ h
    simp [epsy] at h

theorem mark (p : List Bool) (i : Nat) (hp : p.length ≤ 1000000) (h : i < p.length) : AP Try.prog 81 [Bls p, .i i] (Bls (p.set i true)) := by
  refine AC.lbody hT hm Try.func81 f81_nm f81_lc f81_res f81_nt ?_
  have hb : (p.length : Int) ≤ 281474976710656 := by omega
  obtain ⟨x, hx⟩ := get_ex h
  have hg := bls_get hx
  have hst : ∀ b, (bls p).set i [.v (.bool b)] = bls (p.set i b) := fun b => bls_set p i b
  simp only [go_sem, Int.reduceEq, Int.reduceLE, Int.reduceLT, Int.reduceToNat, List.length_map, hb, hx, Nat.div_one, Nat.mod_one, hst]
  refine ⟨by omega, ?_⟩
  exact Fin.ret (.frzS rfl rfl (bls_bl _))

abbrev rD (s : ByteArray) (r : Re) : Prop := ∀ p : List Bool, p.length = s.size + 1 → AP Try.prog 80 [.agg r.c, .s s, Bls p] (Bls (img (r.mt s) p))
abbrev rO (s : ByteArray) (r : Re) : Prop := ∀ p : List Bool, p.length = s.size + 1 → AC Try.prog 80 [.agg r.c, .s s, .own 0] [blOb p] (retP (if epsy r then .own 0 else Bls (img (r.mt s) p)) [blOb p])
theorem blOb_all (p : List Bool) : ObAll (Bl 0) (blOb p) := bls_bl p
theorem keepO (p : List Bool) {ob : List Ob} (d : D) (h : Cv (blOb p :: ob) (kF [some 0]) [some 0] d d) : AWP.Fin [blOb p] (blOb p :: ob) (.ret d) (retP d [blOb p]) :=
  Fin.mv (om' := [blOb p]) [some 0] rfl ⟨.slcS rfl (bls_bl _), trivial⟩ h ⟨rfl, rfl⟩
theorem keepF (p q : List Bool) {x : Ob} {d : D} (h : Cv [blOb p, x] (kF [some 0]) [some 0] d (Bls q)) : AWP.Fin [blOb p] [blOb p, x] (.ret d) (retP (Bls q) [blOb p]) :=
  Fin.mv (om' := [blOb p]) [some 0] rfl ⟨.slcS rfl (bls_bl _), trivial⟩ h ⟨rfl, rfl⟩

theorem rE1 (s : ByteArray) (hs : s.size ≤ 1000) : rD s (.mk 1 0 0 0 0 []) ∧ rO s (.mk 1 0 0 0 0 []) := by
  have hw := wrap_succ s.size (by omega)
  have hb : ((s.size + 1 : Nat) : Int) ≤ 281474976710656 := by omega
  constructor <;> intro p hp
  · rw [img_none]
    refine AC.lbody hT hm Try.func80 f80_nm f80_lc f80_res f80_nt ?_
    simp only [go_sem, Int.reduceEq, Int.reduceLE, Int.reduceLT, Int.reduceToNat, hw, hb, Re.c_mk, Int.reduceBEq]
    refine ⟨by omega, by omega, ?_⟩
    exact Fin.ret (.frzS (ty := 4) (by rw [hp, ← bls_rep]; rfl) rfl (bls_bl _))
  · rw [img_none]
    refine AC.lbody hT hm Try.func80 f80_nm f80_lc f80_res f80_nt ?_
    simp only [go_sem, Int.reduceEq, Int.reduceLE, Int.reduceLT, Int.reduceToNat, hw, hb, Re.c_mk, Int.reduceBEq]
    refine ⟨by omega, by omega, ?_⟩
    have : epsy (.mk 1 0 0 0 0 []) = false := by simp [epsy]
    rw [this]
    exact keepF p _ (.frzS (ty := 4) (by rw [hp, ← bls_rep]; rfl) rfl (bls_bl _))
theorem rE2 (s : ByteArray) (hs : s.size ≤ 1000) : rD s (.mk 2 0 0 0 0 []) ∧ rO s (.mk 2 0 0 0 0 []) := by
  have hw := wrap_succ s.size (by omega)
  have hb : ((s.size + 1 : Nat) : Int) ≤ 281474976710656 := by omega
  constructor <;> intro p hp
  · rw [img_eps]
    refine AC.lbody hT hm Try.func80 f80_nm f80_lc f80_res f80_nt ?_
    simp only [go_sem, Int.reduceEq, Int.reduceLE, Int.reduceLT, Int.reduceToNat, hw, hb, Re.c_mk, Int.reduceBEq]
    refine ⟨by omega, by omega, ?_⟩
    exact Fin.ret (.same (Bls_bl _))
  · refine AC.lbody hT hm Try.func80 f80_nm f80_lc f80_res f80_nt ?_
    simp only [go_sem, Int.reduceEq, Int.reduceLE, Int.reduceLT, Int.reduceToNat, hw, hb, Re.c_mk, Int.reduceBEq]
    refine ⟨by omega, by omega, ?_⟩
    have : epsy (.mk 2 0 0 0 0 []) = true := by simp [epsy]
    rw [this]
    exact keepO p _ (.own rfl)

/-- The places behind those of a set's bytes, as far as i. -/
def clsG (g : List Bool) (n i : Nat) : List Bool := g.take (i + 1) ++ List.replicate (n - (i + 1)) false
set_option maxHeartbeats 2000000 in
theorem rE3 (s : ByteArray) (hs : s.size ≤ 1000) (a b c d : Int) (hw : W64 [a, b, c, d]) : rD s (.mk 3 a b c d []) ∧ rO s (.mk 3 a b c d []) := by
  have hw1 := wrap_succ s.size (by omega)
  have hb : ((s.size + 1 : Nat) : Int) ≤ 281474976710656 := by omega
  have hep : epsy (.mk 3 a b c d []) = false := by simp [epsy]
  constructor <;> intro p hp
  all_goals
    have h0 := img_cls_0 s a b c d p hp
    have hil := img_len ((Re.mk 3 a b c d []).mt s) p
    have hcl := fun (i : Nat) (x : Bool) (hi : i < s.size) (hx : p[i]? = some x) => img_cls (a := a) (b := b) (c := c) (d := d) hp hi hx
    try rw [hep]
    generalize img ((Re.mk 3 a b c d []).mt s) p = g at h0 hil hcl ⊢
    have e0 : List.replicate (s.size + 1) [D.v (.bool false)] = bls (clsG g (s.size + 1) 0) := by
      unfold clsG
      rw [Nat.zero_add, h0, bls_rep, List.replicate_succ]; rfl
    have eE : clsG g (s.size + 1) s.size = g := by
      unfold clsG
      rw [List.take_of_length_le (by omega), Nat.sub_self]; simp
    have hst : ∀ (i : Nat) (x : Bool), i < s.size → p[i]? = some x → (x && hasB [a, b, c, d] (byteAt s i)) = true → (clsG g (s.size + 1) i).set (i + 1) true = clsG g (s.size + 1) (i + 1) := by
      intro i x hi hx hv
      have hg := hcl i x hi hx
      rw [hv] at hg
      exact take_set hg (by omega)
    have hno : ∀ (i : Nat) (x : Bool), i < s.size → p[i]? = some x → (x && hasB [a, b, c, d] (byteAt s i)) = false → clsG g (s.size + 1) i = clsG g (s.size + 1) (i + 1) := by
      intro i x hi hx hv
      have hg := hcl i x hi hx
      rw [hv] at hg
      unfold clsG
      rw [List.take_add_one (i := i + 1), hg, show s.size + 1 - (i + 1) = (s.size + 1 - (i + 1 + 1)) + 1 from by omega, List.replicate_succ]
      simp
    have hgl : ∀ i, i ≤ s.size → (clsG g (s.size + 1) i).length = s.size + 1 := by
      intro i hi
      unfold clsG
      simp; omega
  · refine AC.lbody hT hm Try.func80 f80_nm f80_lc f80_res f80_nt ?_
    simp only [go_sem, Int.reduceEq, Int.reduceLE, Int.reduceLT, Int.reduceToNat, hw1, hb, Re.c_mk, Int.reduceBEq]
    refine ⟨by omega, by omega, ?_⟩
    have hq : ∀ (om : List Ob) (ks : List (Option Nat)) (q : List Bool), Cv om (kF ks) ks (Bls q) (Bls q) := fun om ks q => .same (Bls_bl q)
    refine xl_loopM hT hm (fun i : Nat => ⟨f80_i13 (.s s) (Bls p) (.pel (Re.mk 3 a b c d []).c) (Bls (clsG g (s.size + 1) i)) (.i i), []⟩)
      (fun i => i ≤ s.size) (fun i => s.size - i) 0 (Nat.zero_le _) ?_ ?_
    · refine Mv.of [] rfl trivial ?_
      have hz : Cv [Ob.slc 4 1 (List.replicate (s.size + 1) [D.v (.bool false)])] (kF []) [] (.own 0) (Bls (clsG g (s.size + 1) 0)) := .frzS (ty := 4) (by rw [e0]; rfl) rfl (bls_bl _)
      rw [List.replicate_succ] at hz
      simp [f80_i13, hq, hz, Re.c_mk, Re.cs_eq]
    intro i hi
    simp only [go_sem, Int.reduceEq, Int.reduceLE, Int.reduceLT, Int.reduceToNat]
    by_cases h : i < s.size
    case neg =>
      obtain rfl : i = s.size := by omega
      simp only [go_sem, Int.reduceEq, Int.reduceLE, Int.reduceLT, Int.reduceToNat, h]
      rw [eE]
      exact Fin.ret (.same (Bls_bl _))
    obtain ⟨by_, hby, hbv⟩ := byteAt_get h
    obtain ⟨x, hx⟩ := get_ex (l := p) (show i < p.length by omega)
    have hgx := bls_get hx
    have hwi := wrap_succ i (by omega)
    have h1 := hst i x h hx
    have h2 := hno i x h hx
    rw [hbv] at h1 h2
    have hb256 := by_.toNat_lt
    have hwb : IntKind.i64.wrap (by_.toNat : Int) = (by_.toNat : Int) := wrap_int _ (by omega) (by omega)
    cases x
    · have e := h2 (by simp)
      simp only [go_sem, Int.reduceEq, Int.reduceLE, Int.reduceLT, Int.reduceToNat, h, hgx, Re.c_mk, hwi]
      refine ⟨i + 1, h, by omega, ?_⟩
      rw [← e]
      exact Mv.of [] rfl trivial (by simp [f80_i13, hq, Re.c_mk, Re.cs_eq])
    · simp only [go_sem, Int.reduceEq, Int.reduceLE, Int.reduceLT, Int.reduceToNat, h, hgx, Re.c_mk, hwi, hby, hwb]
      refine (rHas [a, b, c, d] hw by_.toNat (by omega)).pv ⟨.same (.agg (W_bl [a, b, c, d])), .v, trivial⟩ ?_
      cases hh : hasB [a, b, c, d] by_.toNat
      · rw [hh] at h2
        have e := h2 rfl
        simp only [go_sem, Int.reduceEq, Int.reduceLE, Int.reduceLT, Int.reduceToNat, h, hgx, Re.c_mk, hwi]
        refine ⟨i + 1, h, by omega, ?_⟩
        rw [← e]
        exact Mv.of [] rfl trivial (by simp [f80_i13, hq, Re.c_mk, Re.cs_eq])
      · rw [hh] at h1
        have e := h1 rfl
        simp only [go_sem, Int.reduceEq, Int.reduceLE, Int.reduceLT, Int.reduceToNat, h, hgx, Re.c_mk, hwi]
        refine (mark (clsG g (s.size + 1) i) (i + 1) (by rw [hgl i (by omega)]; omega) (by rw [hgl i (by omega)]; omega)).pd ⟨.same (Bls_bl _), .v, trivial⟩ (Bls_bl _) ?_
        rw [e]
        simp only [go_sem, Int.reduceEq, Int.reduceLE, Int.reduceLT, Int.reduceToNat, h, hgx, Re.c_mk, hwi]
        refine ⟨i + 1, h, by omega, ?_⟩
        exact Mv.of [] rfl trivial (by simp [f80_i13, hq, Re.c_mk, Re.cs_eq])
  · refine AC.lbody hT hm Try.func80 f80_nm f80_lc f80_res f80_nt ?_
    simp only [go_sem, Int.reduceEq, Int.reduceLE, Int.reduceLT, Int.reduceToNat, hw1, hb, Re.c_mk, Int.reduceBEq]
    refine ⟨by omega, by omega, ?_⟩
    have hq : ∀ (om : List Ob) (ks : List (Option Nat)) (q : List Bool), Cv om (kF ks) ks (Bls q) (Bls q) := fun om ks q => .same (Bls_bl q)
    refine xl_loopM hT hm (fun i : Nat => ⟨f80_i13 (.s s) (.own 0) (.pel (Re.mk 3 a b c d []).c) (Bls (clsG g (s.size + 1) i)) (.i i), [blOb p]⟩)
      (fun i => i ≤ s.size) (fun i => s.size - i) 0 (Nat.zero_le _) ?_ ?_
    · refine Mv.of [some 0] rfl ⟨.slcS rfl (bls_bl _), trivial⟩ ?_
      have hz : Cv [blOb p, Ob.slc 4 1 (List.replicate (s.size + 1) [D.v (.bool false)])] (kF [some 0]) [some 0] (.own 1) (Bls (clsG g (s.size + 1) 0)) := .frzS (ty := 4) (by rw [e0]; rfl) rfl (bls_bl _)
      rw [List.replicate_succ] at hz
      simp [f80_i13, hq, hz, Re.c_mk, Re.cs_eq]
    intro i hi
    simp only [go_sem, Int.reduceEq, Int.reduceLE, Int.reduceLT, Int.reduceToNat]
    by_cases h : i < s.size
    case neg =>
      obtain rfl : i = s.size := by omega
      simp only [go_sem, Int.reduceEq, Int.reduceLE, Int.reduceLT, Int.reduceToNat, h]
      rw [eE]
      exact keepO p (ob := []) _ (.same (Bls_bl _))
    obtain ⟨by_, hby, hbv⟩ := byteAt_get h
    obtain ⟨x, hx⟩ := get_ex (l := p) (show i < p.length by omega)
    have hgx := bls_get hx
    have hwi := wrap_succ i (by omega)
    have h1 := hst i x h hx
    have h2 := hno i x h hx
    rw [hbv] at h1 h2
    have hb256 := by_.toNat_lt
    have hwb : IntKind.i64.wrap (by_.toNat : Int) = (by_.toNat : Int) := wrap_int _ (by omega) (by omega)
    cases x
    · have e := h2 (by simp)
      simp only [go_sem, Int.reduceEq, Int.reduceLE, Int.reduceLT, Int.reduceToNat, h, hgx, Re.c_mk, hwi]
      refine ⟨i + 1, h, by omega, ?_⟩
      rw [← e]
      exact Mv.of [some 0] rfl ⟨.slcS rfl (bls_bl _), trivial⟩ (by simp [f80_i13, hq, Re.c_mk, Re.cs_eq])
    · simp only [go_sem, Int.reduceEq, Int.reduceLE, Int.reduceLT, Int.reduceToNat, h, hgx, Re.c_mk, hwi, hby, hwb]
      refine (rHas [a, b, c, d] hw by_.toNat (by omega)).pv ⟨.same (.agg (W_bl [a, b, c, d])), .v, trivial⟩ ?_
      cases hh : hasB [a, b, c, d] by_.toNat
      · rw [hh] at h2
        have e := h2 rfl
        simp only [go_sem, Int.reduceEq, Int.reduceLE, Int.reduceLT, Int.reduceToNat, h, hgx, Re.c_mk, hwi]
        refine ⟨i + 1, h, by omega, ?_⟩
        rw [← e]
        exact Mv.of [some 0] rfl ⟨.slcS rfl (bls_bl _), trivial⟩ (by simp [f80_i13, hq, Re.c_mk, Re.cs_eq])
      · rw [hh] at h1
        have e := h1 rfl
        simp only [go_sem, Int.reduceEq, Int.reduceLE, Int.reduceLT, Int.reduceToNat, h, hgx, Re.c_mk, hwi]
        refine (mark (clsG g (s.size + 1) i) (i + 1) (by rw [hgl i (by omega)]; omega) (by rw [hgl i (by omega)]; omega)).pd ⟨.same (Bls_bl _), .v, trivial⟩ (Bls_bl _) ?_
        rw [e]
        simp only [go_sem, Int.reduceEq, Int.reduceLE, Int.reduceLT, Int.reduceToNat, h, hgx, Re.c_mk, hwi]
        refine ⟨i + 1, h, by omega, ?_⟩
        exact Mv.of [some 0] rfl ⟨.slcS rfl (bls_bl _), trivial⟩ (by simp [f80_i13, hq, Re.c_mk, Re.cs_eq])

end Go.Proofs.Yteifkcgokjmcjaa.W
