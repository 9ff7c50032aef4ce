/- Where texts end: one of two, from places of one's own. -/
import Derived.Test.YtlejbkfefpfolaaGreatDoorDeriv
import Derived.Test.YtlejbkfefpfolaaGreatDoorAwpZ
set_option linter.unusedVariables false
set_option linter.unusedSimpArgs false
set_option linter.unusedSectionVars false
set_option maxRecDepth 100000
/- From some places on, where a text may end. -/
namespace Go.Proofs.YtlejbkfefpfolaaGreatDoor.W
open Go Go.Proofs Go.Proofs.YtlejbkfefpfolaaGreatDoor.AWP
attribute [local irreducible] xl hide aop aops aopQ qops guardP condP
theorem byteAt_get {s : ByteArray} {i : Nat} (h : i < s.size) : ∃ b : UInt8, s.data[i]? = some b ∧ byteAt s i = b.toNat := by
  obtain ⟨b, hb⟩ := get_lt h
  exact ⟨b, hb, by unfold byteAt; rw [at_of hb]⟩
end Go.Proofs.YtlejbkfefpfolaaGreatDoor.W
set_option maxRecDepth 100000
/- The ends of an expression in a text; from a place on they are those of the rest, as much further. -/
namespace Go.Proofs.YtlejbkfefpfolaaGreatDoor.W
open Go Go.Proofs Go.Proofs.YtlejbkfefpfolaaGreatDoor.AWP
attribute [local irreducible] xl hide aop aops aopQ qops guardP condP
abbrev its (l : List Nat) : List (List D) := l.map fun n : Nat => [.i n]
abbrev Its (l : List Nat) : D := .sl 1 (its l)
end Go.Proofs.YtlejbkfefpfolaaGreatDoor.W
set_option maxRecDepth 100000
/- The ends from a place on are those of the text from there on, as much further. -/
namespace Go.Proofs.YtlejbkfefpfolaaGreatDoor.W
open Go Go.Proofs Go.Proofs.YtlejbkfefpfolaaGreatDoor.AWP
attribute [local irreducible] xl hide aop aops aopQ qops guardP condP
theorem sub_size {s : ByteArray} {q : Nat} (h : q ≤ s.size) : (s.extract q s.size).size = s.size - q := by
  rw [ByteArray.size_extract]; omega
theorem sub_byte {s : ByteArray} {q i : Nat} (h : i < (s.extract q s.size).size) (hq : q ≤ s.size) : byteAt (s.extract q s.size) i = byteAt s (q + i) := by
  rw [sub_size hq] at h
  have h' : q + i < s.data.size := by have : s.data.size = s.size := rfl; omega
  unfold byteAt
  rw [Array.getD_eq_getD_getElem?, Array.getD_eq_getD_getElem?, ByteArray.data_extract, Array.getElem?_extract]
  rw [if_pos (by have : s.data.size = s.size := rfl; omega)]
end Go.Proofs.YtlejbkfefpfolaaGreatDoor.W
set_option maxRecDepth 100000
/- The document's places: one more; where texts end, by kind. What is handed in comes back as it is where an expression is put together of empty texts. -/
namespace Go.Proofs.YtlejbkfefpfolaaGreatDoor.W
open Go Go.Proofs Go.Proofs.YtlejbkfefpfolaaGreatDoor.AWP
attribute [local irreducible] xl hide aop aops aopQ qops guardP condP
def epsy : Re → Bool
  | .mk k _ _ _ _ [x, y] => decide (k = 4) && epsy x && epsy y
  | .mk k _ _ _ _ [] => decide (k = 2)
  | _ => false
theorem epsy_img (s : ByteArray) (r : Re) : r.nodesOk = true → epsy r = true → ∀ p : List Bool, p.length = s.size + 1 → img (r.mt s) p = p := by
  refine Re.indOk (p := fun r => epsy r = true → ∀ p : List Bool, p.length = s.size + 1 → img (r.mt s) p = p) ?_ ?_ ?_ ?_ r
  · rintro k (rfl | rfl) h p hp
    · simp [epsy] at h
    · exact img_eps s p
  · intro a b c d _ h
    simp [epsy] at h
  · rintro k x y (rfl | rfl) hox hoy hx hy h p hp
    · simp only [epsy, Bool.and_eq_true] at h
      rw [img_seq s x y hox p hp, hx h.1.2 p hp, hy h.2 p hp]
    · simp [epsy] at h
  · intro x _ _ h
    simp [epsy] at h
theorem mark (p : List Bool) (i : Nat) (hp : p.length ≤ 1000000) (h : i < p.length) : AP Tryz.prog 37 [Bls p, .i i] (Bls (p.set i true)) := by
  refine AC.lbody hT hm Tryz.func37 f37_nm f37_lc f37_res f37_nt ?_
  have hb : (p.length : Int) ≤ 281474976710656 := by omega
  obtain ⟨x, hx⟩ := get_ex h
  have hg := bls_get hx
  have hst : ∀ b, (bls p).set i [.v (.bool b)] = bls (p.set i b) := fun b => bls_set p i b
  simp only [go_sem, Int.reduceEq, Int.reduceLE, Int.reduceLT, Int.reduceToNat, List.length_map, hb, hx, Nat.div_one, Nat.mod_one, hst]
  refine ⟨by omega, ?_⟩
  exact Fin.ret (.frzS rfl rfl (bls_bl _))
abbrev rD (s : ByteArray) (r : Re) : Prop := ∀ p : List Bool, p.length = s.size + 1 → AP Tryz.prog 36 [.agg r.c, .s s, Bls p] (Bls (img (r.mt s) p))
abbrev rO (s : ByteArray) (r : Re) : Prop := ∀ p : List Bool, p.length = s.size + 1 → AC Tryz.prog 36 [.agg r.c, .s s, .own 0] [blOb p] (retP (if epsy r then .own 0 else Bls (img (r.mt s) p)) [blOb p])
theorem blOb_all (p : List Bool) : ObAll (Bl 0) (blOb p) := bls_bl p
theorem keepO (p : List Bool) {ob : List Ob} (d : D) (h : Cv (blOb p :: ob) (kF [some 0]) [some 0] d d) : AWP.Fin [blOb p] (blOb p :: ob) (.ret d) (retP d [blOb p]) :=
  Fin.mv (om' := [blOb p]) [some 0] rfl ⟨.slcS rfl (bls_bl _), trivial⟩ h ⟨rfl, rfl⟩
theorem keepF (p q : List Bool) {x : Ob} {d : D} (h : Cv [blOb p, x] (kF [some 0]) [some 0] d (Bls q)) : AWP.Fin [blOb p] [blOb p, x] (.ret d) (retP (Bls q) [blOb p]) :=
  Fin.mv (om' := [blOb p]) [some 0] rfl ⟨.slcS rfl (bls_bl _), trivial⟩ h ⟨rfl, rfl⟩
theorem rE1 (s : ByteArray) (hs : s.size ≤ 1000) : rD s (.mk 1 0 0 0 0 []) ∧ rO s (.mk 1 0 0 0 0 []) := by
  have hw := wrap_succ s.size (by omega)
  have hb : ((s.size + 1 : Nat) : Int) ≤ 281474976710656 := by omega
  constructor <;> intro p hp
  · rw [img_none]
    refine AC.lbody hT hm Tryz.func36 f36_nm f36_lc f36_res f36_nt ?_
    simp only [go_sem, Int.reduceEq, Int.reduceLE, Int.reduceLT, Int.reduceToNat, hw, hb, Re.c_mk, Int.reduceBEq]
    refine ⟨by omega, by omega, ?_⟩
    exact Fin.ret (.frzS (ty := 4) (by rw [hp, ← bls_rep]; rfl) rfl (bls_bl _))
  · rw [img_none]
    refine AC.lbody hT hm Tryz.func36 f36_nm f36_lc f36_res f36_nt ?_
    simp only [go_sem, Int.reduceEq, Int.reduceLE, Int.reduceLT, Int.reduceToNat, hw, hb, Re.c_mk, Int.reduceBEq]
    refine ⟨by omega, by omega, ?_⟩
    have : epsy (.mk 1 0 0 0 0 []) = false := by simp [epsy]
    rw [this]
    exact keepF p _ (.frzS (ty := 4) (by rw [hp, ← bls_rep]; rfl) rfl (bls_bl _))
theorem rE2 (s : ByteArray) (hs : s.size ≤ 1000) : rD s (.mk 2 0 0 0 0 []) ∧ rO s (.mk 2 0 0 0 0 []) := by
  have hw := wrap_succ s.size (by omega)
  have hb : ((s.size + 1 : Nat) : Int) ≤ 281474976710656 := by omega
  constructor <;> intro p hp
  · rw [img_eps]
    refine AC.lbody hT hm Tryz.func36 f36_nm f36_lc f36_res f36_nt ?_
    simp only [go_sem, Int.reduceEq, Int.reduceLE, Int.reduceLT, Int.reduceToNat, hw, hb, Re.c_mk, Int.reduceBEq]
    refine ⟨by omega, by omega, ?_⟩
    exact Fin.ret (.same (Bls_bl _))
  · refine AC.lbody hT hm Tryz.func36 f36_nm f36_lc f36_res f36_nt ?_
    simp only [go_sem, Int.reduceEq, Int.reduceLE, Int.reduceLT, Int.reduceToNat, hw, hb, Re.c_mk, Int.reduceBEq]
    refine ⟨by omega, by omega, ?_⟩
    have : epsy (.mk 2 0 0 0 0 []) = true := by simp [epsy]
    rw [this]
    exact keepO p _ (.own rfl)
/-- The places behind those of a set's bytes, as far as i. -/
def clsG (g : List Bool) (n i : Nat) : List Bool := g.take (i + 1) ++ List.replicate (n - (i + 1)) false
set_option maxHeartbeats 2000000 in
theorem rE3 (s : ByteArray) (hs : s.size ≤ 1000) (a b c d : Int) (hw : W64 [a, b, c, d]) : rD s (.mk 3 a b c d []) ∧ rO s (.mk 3 a b c d []) := by
  have hw1 := wrap_succ s.size (by omega)
  have hb : ((s.size + 1 : Nat) : Int) ≤ 281474976710656 := by omega
  have hep : epsy (.mk 3 a b c d []) = false := by simp [epsy]
  constructor <;> intro p hp
  all_goals
    have h0 := img_cls_0 s a b c d p hp
    have hil := img_len ((Re.mk 3 a b c d []).mt s) p
    have hcl := fun (i : Nat) (x : Bool) (hi : i < s.size) (hx : p[i]? = some x) => img_cls (a := a) (b := b) (c := c) (d := d) hp hi hx
    try rw [hep]
    generalize img ((Re.mk 3 a b c d []).mt s) p = g at h0 hil hcl ⊢
    have e0 : List.replicate (s.size + 1) [D.v (.bool false)] = bls (clsG g (s.size + 1) 0) := by
      unfold clsG
      rw [Nat.zero_add, h0, bls_rep, List.replicate_succ]; rfl
    have eE : clsG g (s.size + 1) s.size = g := by
      unfold clsG
      rw [List.take_of_length_le (by omega), Nat.sub_self]; simp
    have hst : ∀ (i : Nat) (x : Bool), i < s.size → p[i]? = some x → (x && hasB [a, b, c, d] (byteAt s i)) = true → (clsG g (s.size + 1) i).set (i + 1) true = clsG g (s.size + 1) (i + 1) := by
      intro i x hi hx hv
      have hg := hcl i x hi hx
      rw [hv] at hg
      exact take_set hg (by omega)
    have hno : ∀ (i : Nat) (x : Bool), i < s.size → p[i]? = some x → (x && hasB [a, b, c, d] (byteAt s i)) = false → clsG g (s.size + 1) i = clsG g (s.size + 1) (i + 1) := by
      intro i x hi hx hv
      have hg := hcl i x hi hx
      rw [hv] at hg
      unfold clsG
      rw [List.take_add_one (i := i + 1), hg, show s.size + 1 - (i + 1) = (s.size + 1 - (i + 1 + 1)) + 1 from by omega, List.replicate_succ]
      simp
    have hgl : ∀ i, i ≤ s.size → (clsG g (s.size + 1) i).length = s.size + 1 := by
      intro i hi
      unfold clsG
      simp; omega
  · refine AC.lbody hT hm Tryz.func36 f36_nm f36_lc f36_res f36_nt ?_
    simp only [go_sem, Int.reduceEq, Int.reduceLE, Int.reduceLT, Int.reduceToNat, hw1, hb, Re.c_mk, Int.reduceBEq]
    refine ⟨by omega, by omega, ?_⟩
    have hq : ∀ (om : List Ob) (ks : List (Option Nat)) (q : List Bool), Cv om (kF ks) ks (Bls q) (Bls q) := fun om ks q => .same (Bls_bl q)
    refine xl_loopM hT hm (fun i : Nat => ⟨f36_i13 (.s s) (Bls p) (.pel (Re.mk 3 a b c d []).c) (Bls (clsG g (s.size + 1) i)) (.i i), []⟩)
      (fun i => i ≤ s.size) (fun i => s.size - i) 0 (Nat.zero_le _) ?_ ?_
    · refine Mv.of [] rfl trivial ?_
      have hz : Cv [Ob.slc 4 1 (List.replicate (s.size + 1) [D.v (.bool false)])] (kF []) [] (.own 0) (Bls (clsG g (s.size + 1) 0)) := .frzS (ty := 4) (by rw [e0]; rfl) rfl (bls_bl _)
      rw [List.replicate_succ] at hz
      simp [f36_i13, hq, hz, Re.c_mk, Re.cs_eq]
    intro i hi
    simp only [go_sem, Int.reduceEq, Int.reduceLE, Int.reduceLT, Int.reduceToNat]
    by_cases h : i < s.size
    case neg =>
      obtain rfl : i = s.size := by omega
      simp only [go_sem, Int.reduceEq, Int.reduceLE, Int.reduceLT, Int.reduceToNat, h]
      rw [eE]
      exact Fin.ret (.same (Bls_bl _))
    obtain ⟨by_, hby, hbv⟩ := byteAt_get h
    obtain ⟨x, hx⟩ := get_ex (l := p) (show i < p.length by omega)
    have hgx := bls_get hx
    have hwi := wrap_succ i (by omega)
    have h1 := hst i x h hx
    have h2 := hno i x h hx
    rw [hbv] at h1 h2
    have hb256 := by_.toNat_lt
    have hwb : IntKind.i64.wrap (by_.toNat : Int) = (by_.toNat : Int) := wrap_int _ (by omega) (by omega)
    cases x
    · have e := h2 (by simp)
      simp only [go_sem, Int.reduceEq, Int.reduceLE, Int.reduceLT, Int.reduceToNat, h, hgx, Re.c_mk, hwi]
      refine ⟨i + 1, h, by omega, ?_⟩
      rw [← e]
      exact Mv.of [] rfl trivial (by simp [f36_i13, hq, Re.c_mk, Re.cs_eq])
    · simp only [go_sem, Int.reduceEq, Int.reduceLE, Int.reduceLT, Int.reduceToNat, h, hgx, Re.c_mk, hwi, hby, hwb]
      refine (rHas [a, b, c, d] hw by_.toNat (by omega)).pv ⟨.same (.agg (W_bl [a, b, c, d])), .v, trivial⟩ ?_
      cases hh : hasB [a, b, c, d] by_.toNat
      · rw [hh] at h2
        have e := h2 rfl
        simp only [go_sem, Int.reduceEq, Int.reduceLE, Int.reduceLT, Int.reduceToNat, h, hgx, Re.c_mk, hwi]
        refine ⟨i + 1, h, by omega, ?_⟩
        rw [← e]
        exact Mv.of [] rfl trivial (by simp [f36_i13, hq, Re.c_mk, Re.cs_eq])
      · rw [hh] at h1
        have e := h1 rfl
        simp only [go_sem, Int.reduceEq, Int.reduceLE, Int.reduceLT, Int.reduceToNat, h, hgx, Re.c_mk, hwi]
        refine (mark (clsG g (s.size + 1) i) (i + 1) (by rw [hgl i (by omega)]; omega) (by rw [hgl i (by omega)]; omega)).pd ⟨.same (Bls_bl _), .v, trivial⟩ (Bls_bl _) ?_
        rw [e]
        simp only [go_sem, Int.reduceEq, Int.reduceLE, Int.reduceLT, Int.reduceToNat, h, hgx, Re.c_mk, hwi]
        refine ⟨i + 1, h, by omega, ?_⟩
        exact Mv.of [] rfl trivial (by simp [f36_i13, hq, Re.c_mk, Re.cs_eq])
  · refine AC.lbody hT hm Tryz.func36 f36_nm f36_lc f36_res f36_nt ?_
    simp only [go_sem, Int.reduceEq, Int.reduceLE, Int.reduceLT, Int.reduceToNat, hw1, hb, Re.c_mk, Int.reduceBEq]
    refine ⟨by omega, by omega, ?_⟩
    have hq : ∀ (om : List Ob) (ks : List (Option Nat)) (q : List Bool), Cv om (kF ks) ks (Bls q) (Bls q) := fun om ks q => .same (Bls_bl q)
    refine xl_loopM hT hm (fun i : Nat => ⟨f36_i13 (.s s) (.own 0) (.pel (Re.mk 3 a b c d []).c) (Bls (clsG g (s.size + 1) i)) (.i i), [blOb p]⟩)
      (fun i => i ≤ s.size) (fun i => s.size - i) 0 (Nat.zero_le _) ?_ ?_
    · refine Mv.of [some 0] rfl ⟨.slcS rfl (bls_bl _), trivial⟩ ?_
      have hz : Cv [blOb p, Ob.slc 4 1 (List.replicate (s.size + 1) [D.v (.bool false)])] (kF [some 0]) [some 0] (.own 1) (Bls (clsG g (s.size + 1) 0)) := .frzS (ty := 4) (by rw [e0]; rfl) rfl (bls_bl _)
      rw [List.replicate_succ] at hz
      simp [f36_i13, hq, hz, Re.c_mk, Re.cs_eq]
    intro i hi
    simp only [go_sem, Int.reduceEq, Int.reduceLE, Int.reduceLT, Int.reduceToNat]
    by_cases h : i < s.size
    case neg =>
      obtain rfl : i = s.size := by omega
      simp only [go_sem, Int.reduceEq, Int.reduceLE, Int.reduceLT, Int.reduceToNat, h]
      rw [eE]
      exact keepO p (ob := []) _ (.same (Bls_bl _))
    obtain ⟨by_, hby, hbv⟩ := byteAt_get h
    obtain ⟨x, hx⟩ := get_ex (l := p) (show i < p.length by omega)
    have hgx := bls_get hx
    have hwi := wrap_succ i (by omega)
    have h1 := hst i x h hx
    have h2 := hno i x h hx
    rw [hbv] at h1 h2
    have hb256 := by_.toNat_lt
    have hwb : IntKind.i64.wrap (by_.toNat : Int) = (by_.toNat : Int) := wrap_int _ (by omega) (by omega)
    cases x
    · have e := h2 (by simp)
      simp only [go_sem, Int.reduceEq, Int.reduceLE, Int.reduceLT, Int.reduceToNat, h, hgx, Re.c_mk, hwi]
      refine ⟨i + 1, h, by omega, ?_⟩
      rw [← e]
      exact Mv.of [some 0] rfl ⟨.slcS rfl (bls_bl _), trivial⟩ (by simp [f36_i13, hq, Re.c_mk, Re.cs_eq])
    · simp only [go_sem, Int.reduceEq, Int.reduceLE, Int.reduceLT, Int.reduceToNat, h, hgx, Re.c_mk, hwi, hby, hwb]
      refine (rHas [a, b, c, d] hw by_.toNat (by omega)).pv ⟨.same (.agg (W_bl [a, b, c, d])), .v, trivial⟩ ?_
      cases hh : hasB [a, b, c, d] by_.toNat
      · rw [hh] at h2
        have e := h2 rfl
        simp only [go_sem, Int.reduceEq, Int.reduceLE, Int.reduceLT, Int.reduceToNat, h, hgx, Re.c_mk, hwi]
        refine ⟨i + 1, h, by omega, ?_⟩
        rw [← e]
        exact Mv.of [some 0] rfl ⟨.slcS rfl (bls_bl _), trivial⟩ (by simp [f36_i13, hq, Re.c_mk, Re.cs_eq])
      · rw [hh] at h1
        have e := h1 rfl
        simp only [go_sem, Int.reduceEq, Int.reduceLE, Int.reduceLT, Int.reduceToNat, h, hgx, Re.c_mk, hwi]
        refine (mark (clsG g (s.size + 1) i) (i + 1) (by rw [hgl i (by omega)]; omega) (by rw [hgl i (by omega)]; omega)).pd ⟨.same (Bls_bl _), .v, trivial⟩ (Bls_bl _) ?_
        rw [e]
        simp only [go_sem, Int.reduceEq, Int.reduceLE, Int.reduceLT, Int.reduceToNat, h, hgx, Re.c_mk, hwi]
        refine ⟨i + 1, h, by omega, ?_⟩
        exact Mv.of [some 0] rfl ⟨.slcS rfl (bls_bl _), trivial⟩ (by simp [f36_i13, hq, Re.c_mk, Re.cs_eq])
end Go.Proofs.YtlejbkfefpfolaaGreatDoor.W
set_option maxRecDepth 100000
/- Where texts end: one behind another. -/
namespace Go.Proofs.YtlejbkfefpfolaaGreatDoor.W
open Go Go.Proofs Go.Proofs.YtlejbkfefpfolaaGreatDoor.AWP
attribute [local irreducible] xl hide aop aops aopQ qops guardP condP
/-- The call with one's own places, other objects behind. -/
theorem rO.call {s : ByteArray} {r : Re} (h : rO s r) {p : List Bool} (hp : p.length = s.size + 1) (bk : List Ob) :
    AC Tryz.prog 36 [.agg r.c, .s s, .own 0] (blOb p :: bk) (retP (if epsy r then .own 0 else Bls (img (r.mt s) p)) (blOb p :: bk)) := by
  refine (h p hp).framed (fr := []) (bk := bk) rfl (fun j d d' h1 h2 => ?_) (fun o ho => ?_) ?_
  · rw [h1] at h2
    cases h2
    match j, h1 with
    | 0, h1 => cases h1; exact .inl ⟨Re.d_bl _, rfl⟩
    | 1, h1 => cases h1; exact .inl ⟨.v _, rfl⟩
    | 2, h1 => cases h1; exact .inr (.inr ⟨0, Nat.one_pos, rfl, rfl⟩)
    | j + 3, h1 => simp at h1
  · rw [List.mem_singleton.1 ho]; exact blOb_all p
  · cases epsy r
    · exact .inl ⟨Bls_bl _, rfl⟩
    · exact .inr (.inr ⟨0, Nat.one_pos, rfl, rfl⟩)
/-- The same, an object ahead. -/
theorem rO.call1 {s : ByteArray} {r : Re} (h : rO s r) {p : List Bool} (hp : p.length = s.size + 1) (o : Ob) (bk : List Ob) :
    AC Tryz.prog 36 [.agg r.c, .s s, .own 1] (o :: blOb p :: bk) (retP (if epsy r then .own 1 else Bls (img (r.mt s) p)) (o :: blOb p :: bk)) := by
  refine (h p hp).framed (ds' := [.agg r.c, .s s, .own 1]) (r' := if epsy r then .own 1 else Bls (img (r.mt s) p)) (fr := [o]) (bk := bk) rfl (fun j d d' h1 h2 => ?_) (fun o ho => ?_) ?_
  · match j, h1, h2 with
    | 0, h1, h2 => cases h1; cases h2; exact .inl ⟨Re.d_bl _, rfl⟩
    | 1, h1, h2 => cases h1; cases h2; exact .inl ⟨.v _, rfl⟩
    | 2, h1, h2 => cases h1; cases h2; exact .inr (.inr ⟨0, Nat.one_pos, rfl, rfl⟩)
    | j + 3, h1, h2 => simp at h1
  · rw [List.mem_singleton.1 ho]; exact blOb_all p
  · cases epsy r
    · exact .inl ⟨Bls_bl _, rfl⟩
    · exact .inr (.inr ⟨0, Nat.one_pos, rfl, rfl⟩)
theorem rE4 (s : ByteArray) (hs : s.size ≤ 1000) (x y : Re) (hox : x.nodesOk = true) (hx : rD s x ∧ rO s x) (hy : rD s y ∧ rO s y) : rD s (.mk 4 0 0 0 0 [x, y]) ∧ rO s (.mk 4 0 0 0 0 [x, y]) := by
  have hw1 := wrap_succ s.size (by omega)
  have hb : ((s.size + 1 : Nat) : Int) ≤ 281474976710656 := by omega
  have hep : epsy (.mk 4 0 0 0 0 [x, y]) = (epsy x && epsy y) := by simp [epsy]
  constructor <;> intro p hp
  · rw [img_seq s x y hox p hp]
    refine AC.lbody hT hm Tryz.func36 f36_nm f36_lc f36_res f36_nt ?_
    simp only [go_sem, Int.reduceEq, Int.reduceLE, Int.reduceLT, Int.reduceToNat, hw1, hb, Re.c_mk, Int.reduceBEq]
    refine ⟨by omega, by omega, ?_⟩
    refine (hx.1 p hp).qd ⟨.same (Re.d_bl _), .v, .same (Bls_bl _), trivial⟩ (Bls_bl _) ?_
    simp only [go_sem, Int.reduceEq, Int.reduceLE, Int.reduceLT, Int.reduceToNat, Re.c_mk]
    refine (hy.1 (img (x.mt s) p) (by rw [img_len]; exact hp)).pd ⟨.same (Re.d_bl _), .v, .same (Bls_bl _), trivial⟩ (Bls_bl _) ?_
    simp only [go_sem, Int.reduceEq, Int.reduceLE, Int.reduceLT, Int.reduceToNat, Re.c_mk]
    exact Fin.ret (.same (Bls_bl _))
  · rw [img_seq s x y hox p hp, hep]
    have c1 := hx.2.call hp
    have c2 := hy.2.call hp
    have d2 := hy.1 (img (x.mt s) p) (by rw [img_len]; exact hp)
    have e1 := epsy_img s x hox
    cases h1 : epsy x
    · rw [h1] at c1
      refine AC.lbody hT hm Tryz.func36 f36_nm f36_lc f36_res f36_nt ?_
      simp only [go_sem, Int.reduceEq, Int.reduceLE, Int.reduceLT, Int.reduceToNat, hw1, hb, Re.c_mk, Int.reduceBEq]
      refine ⟨by omega, by omega, ?_⟩
      refine ⟨_, c1 _, ?_⟩
      simp only [go_sem, Int.reduceEq, Int.reduceLE, Int.reduceLT, Int.reduceToNat, Re.c_mk]
      refine d2.pd ⟨.same (Re.d_bl _), .v, .same (Bls_bl _), trivial⟩ (Bls_bl _) ?_
      simp only [go_sem, Int.reduceEq, Int.reduceLE, Int.reduceLT, Int.reduceToNat, Re.c_mk, Bool.false_and]
      exact keepO p _ (.same (Bls_bl _))
    · rw [h1] at c1
      rw [e1 h1 p hp]
      refine AC.lbody hT hm Tryz.func36 f36_nm f36_lc f36_res f36_nt ?_
      simp only [go_sem, Int.reduceEq, Int.reduceLE, Int.reduceLT, Int.reduceToNat, hw1, hb, Re.c_mk, Int.reduceBEq]
      refine ⟨by omega, by omega, ?_⟩
      refine ⟨_, c1 _, ?_⟩
      simp only [go_sem, Int.reduceEq, Int.reduceLE, Int.reduceLT, Int.reduceToNat, Re.c_mk]
      refine ⟨_, c2 _, ?_⟩
      rintro _ _ ⟨rfl, rfl⟩
      simp only [go_sem, Int.reduceEq, Int.reduceLE, Int.reduceLT, Int.reduceToNat, Re.c_mk, Bool.true_and]
      cases epsy y
      · exact keepO p _ (.same (Bls_bl _))
      · exact keepO p _ (.own rfl)
end Go.Proofs.YtlejbkfefpfolaaGreatDoor.W
set_option maxRecDepth 100000
/- Where texts end: one of two. -/
namespace Go.Proofs.YtlejbkfefpfolaaGreatDoor.W
open Go Go.Proofs Go.Proofs.YtlejbkfefpfolaaGreatDoor.AWP
attribute [local irreducible] xl hide aop aops aopQ qops guardP condP
theorem orL_rep (a : List Bool) : orL (List.replicate a.length false) a = a := by
  refine on_ext (by rw [orL_len (by simp)]; simp) fun i hi => ?_
  rw [on_or (by simp)]
  constructor
  · rintro (h | h)
    · have hj := h.lt
      simp at hj
      unfold On at h
      rw [List.getElem?_replicate_of_lt hj] at h
      simp at h
    · exact h
  · exact .inr
theorem img_alt2 (s : ByteArray) (x y : Re) (p : List Bool) : img ((Re.mk 5 0 0 0 0 [x, y]).mt s) p = orL (img (x.mt s) p) (img (y.mt s) p) := by
  rw [img_alt]
  have := orL_rep (img (x.mt s) p)
  rw [img_len] at this
  rw [this]
def orG (g : List Bool) (n i : Nat) : List Bool := g.take i ++ List.replicate (n - i) false
set_option maxHeartbeats 4000000 in
theorem rE5D (s : ByteArray) (hs : s.size ≤ 1000) (x y : Re) (hx : rD s x) (hy : rD s y) : rD s (.mk 5 0 0 0 0 [x, y]) := by
  have hw1 := wrap_succ s.size (by omega)
  have hb : ((s.size + 1 : Nat) : Int) ≤ 281474976710656 := by omega
  intro p hp
  rw [img_alt2]
  have c1 := hx p hp
  have c2 := hy p hp
  have la := img_len (x.mt s) p
  have lb := img_len (y.mt s) p
  generalize img (x.mt s) p = a at c1 la ⊢
  generalize img (y.mt s) p = b at c2 lb ⊢
  have hol : (orL a b).length = s.size + 1 := by rw [orL_len (by omega)]; omega
  have hgl : ∀ i, i ≤ s.size + 1 → (orG (orL a b) (s.size + 1) i).length = s.size + 1 := by
    intro i hi
    unfold orG
    simp [hol]; omega
  have e0 : List.replicate (s.size + 1) [D.v (.bool false)] = bls (orG (orL a b) (s.size + 1) 0) := by
    unfold orG
    rw [bls_rep, List.take_zero, Nat.sub_zero, List.nil_append]
  have eE : orG (orL a b) (s.size + 1) (s.size + 1) = orL a b := by
    unfold orG
    rw [List.take_of_length_le (by omega), Nat.sub_self]; simp
  have hst : ∀ (i : Nat) (u v : Bool), a[i]? = some u → b[i]? = some v → (bls (orG (orL a b) (s.size + 1) i)).set i [.v (.bool (u || v))] = bls (orG (orL a b) (s.size + 1) (i + 1)) := by
    intro i u v hu hv
    rw [bls_set]
    congr 1
    exact take_set (orL_get hu hv) hol
  refine AC.lbody hT hm Tryz.func36 f36_nm f36_lc f36_res f36_nt ?_
  simp only [go_sem, Int.reduceEq, Int.reduceLE, Int.reduceLT, Int.reduceToNat, hw1, hb, Re.c_mk, Int.reduceBEq]
  refine ⟨by omega, by omega, ?_⟩
  refine c1.qd ⟨.same (Re.d_bl _), .v, .same (Bls_bl _), trivial⟩ (Bls_bl _) ?_
  simp only [go_sem, Int.reduceEq, Int.reduceLE, Int.reduceLT, Int.reduceToNat, Re.c_mk]
  refine c2.pd ⟨.same (Re.d_bl _), .v, .same (Bls_bl _), trivial⟩ (Bls_bl _) ?_
  simp only [go_sem, Int.reduceEq, Int.reduceLE, Int.reduceLT, Int.reduceToNat, Re.c_mk, List.length_map, la]
  have hq : ∀ (om : List Ob) (ks : List (Option Nat)) (q : List Bool), Cv om (kF ks) ks (Bls q) (Bls q) := fun om ks q => .same (Bls_bl q)
  refine xl_loopM hT hm (fun i : Nat => ⟨f36_i24 (.own 0) (Bls a) (Bls b) (.i p.length) (.i i), [blOb (orG (orL a b) (s.size + 1) i)]⟩)
    (fun i => i ≤ p.length) (fun i => p.length - i) 0 (Nat.zero_le _) ?_ ?_
  · refine Mv.of [some 0] rfl ⟨.slcS (by rw [← e0]; rfl) (bls_bl _), trivial⟩ ?_
    simp [f36_i24, hq]
  intro i hi
  simp only [go_sem, Int.reduceEq, Int.reduceLE, Int.reduceLT, Int.reduceToNat]
  by_cases h : i < p.length
  case neg =>
    obtain rfl : i = s.size + 1 := by omega
    simp only [go_sem, Int.reduceEq, Int.reduceLE, Int.reduceLT, Int.reduceToNat, h]
    rw [eE]
    exact Fin.ret (.frzS rfl rfl (bls_bl _))
  obtain ⟨u, hu⟩ := get_ex (l := a) (i := i) (by omega)
  obtain ⟨v, hv⟩ := get_ex (l := b) (i := i) (by omega)
  have hgu := bls_get hu
  have hgv := bls_get hv
  have hwi := wrap_succ i (by omega)
  have e := hst i u v hu hv
  obtain ⟨z, hz⟩ := get_ex (l := orG (orL a b) (s.size + 1) i) (i := i) (by rw [hgl i (by omega)]; omega)
  have hgz := bls_get hz
  have hzl : i < (orG (orL a b) (s.size + 1) i).length := by rw [hgl i (by omega)]; omega
  cases u
  all_goals
    simp only [Bool.false_or, Bool.true_or] at e
    simp only [go_sem, Int.reduceEq, Int.reduceLE, Int.reduceLT, Int.reduceToNat, h, hgu, hgv, hgz, hzl, hwi, Nat.div_one, Nat.mod_one, List.length_map, e]
    refine ⟨i + 1, h, by omega, ?_⟩
    exact Mv.of [some 0] rfl ⟨.slcS rfl (bls_bl _), trivial⟩ (by simp [f36_i24, hq])
end Go.Proofs.YtlejbkfefpfolaaGreatDoor.W
set_option maxRecDepth 100000
/- Where texts end: one of two, from places of one's own. -/
namespace Go.Proofs.YtlejbkfefpfolaaGreatDoor.W
open Go Go.Proofs Go.Proofs.YtlejbkfefpfolaaGreatDoor.AWP
attribute [local irreducible] xl hide aop aops aopQ qops guardP condP
set_option maxHeartbeats 8000000 in
theorem rE5O (s : ByteArray) (hs : s.size ≤ 1000) (x y : Re) (hox : x.nodesOk = true) (hoy : y.nodesOk = true) (hx : rO s x) (hy : rO s y) : rO s (.mk 5 0 0 0 0 [x, y]) := by
  have hw1 := wrap_succ s.size (by omega)
  have hb : ((s.size + 1 : Nat) : Int) ≤ 281474976710656 := by omega
  have hep : epsy (.mk 5 0 0 0 0 [x, y]) = false := by simp [epsy]
  intro p hp
  rw [img_alt2, hep]
  have c1 := hx.call hp
  have c2 := hy.call hp
  have la := img_len (x.mt s) p
  have lb := img_len (y.mt s) p
  have ea := fun h => epsy_img s x hox h p hp
  have eb := fun h => epsy_img s y hoy h p hp
  generalize img (x.mt s) p = a at c1 la ea ⊢
  generalize img (y.mt s) p = b at c2 lb eb ⊢
  have hol : (orL a b).length = s.size + 1 := by rw [orL_len (by omega)]; omega
  have hgl : ∀ i, i ≤ s.size + 1 → (orG (orL a b) (s.size + 1) i).length = s.size + 1 := by
    intro i hi
    unfold orG
    simp [hol]; omega
  have e0 : List.replicate (s.size + 1) [D.v (.bool false)] = bls (orG (orL a b) (s.size + 1) 0) := by
    unfold orG
    rw [bls_rep, List.take_zero, Nat.sub_zero, List.nil_append]
  have eE : orG (orL a b) (s.size + 1) (s.size + 1) = orL a b := by
    unfold orG
    rw [List.take_of_length_le (by omega), Nat.sub_self]; simp
  have hst : ∀ (i : Nat) (u v : Bool), a[i]? = some u → b[i]? = some v → (bls (orG (orL a b) (s.size + 1) i)).set i [.v (.bool (u || v))] = bls (orG (orL a b) (s.size + 1) (i + 1)) := by
    intro i u v hu hv
    rw [bls_set]
    congr 1
    exact take_set (orL_get hu hv) hol
  have hq : ∀ (om : List Ob) (ks : List (Option Nat)) (q : List Bool), Cv om (kF ks) ks (Bls q) (Bls q) := fun om ks q => .same (Bls_bl q)
  refine AC.lbody hT hm Tryz.func36 f36_nm f36_lc f36_res f36_nt ?_
  simp only [go_sem, Int.reduceEq, Int.reduceLE, Int.reduceLT, Int.reduceToNat, hw1, hb, Re.c_mk, Int.reduceBEq]
  refine ⟨by omega, by omega, ?_⟩
  refine ⟨_, c1 _, ?_⟩
  cases h1 : epsy x
  all_goals
    simp only [go_sem, Int.reduceEq, Int.reduceLE, Int.reduceLT, Int.reduceToNat, Re.c_mk]
    refine ⟨_, c2 _, ?_⟩
    rintro _ _ ⟨rfl, rfl⟩
  · clear ea
    cases h2 : epsy y
    · clear eb
      simp only [go_sem, Int.reduceEq, Int.reduceLE, Int.reduceLT, Int.reduceToNat, Re.c_mk, List.length_map, la]
      refine xl_loopM hT hm (fun i : Nat => ⟨f36_i24 (.own 1) (Bls a) (Bls b) (.i a.length) (.i i), [blOb p, blOb (orG (orL a b) (s.size + 1) i)]⟩)
        (fun i => i ≤ a.length) (fun i => a.length - i) 0 (Nat.zero_le _) ?_ ?_
      · refine Mv.of [some 0, some 1] rfl ⟨.slcS rfl (bls_bl _), .slcS (by rw [← e0]; rfl) (bls_bl _), trivial⟩ ?_
        simp [f36_i24, hq, la]
      intro i hi
      simp only [go_sem, Int.reduceEq, Int.reduceLE, Int.reduceLT, Int.reduceToNat]
      by_cases h : i < a.length
      case neg =>
        obtain rfl : i = s.size + 1 := by omega
        simp only [go_sem, Int.reduceEq, Int.reduceLE, Int.reduceLT, Int.reduceToNat, h]
        rw [eE]
        exact keepF p _ (.frzS rfl rfl (bls_bl _))
      obtain ⟨u, hu⟩ := get_ex (l := a) (i := i) (by omega)
      obtain ⟨v, hv⟩ := get_ex (l := b) (i := i) (by omega)
      have hgu := bls_get hu
      have hgv := bls_get hv
      have hwi := wrap_succ i (by omega)
      have e := hst i u v hu hv
      obtain ⟨z, hz⟩ := get_ex (l := orG (orL a b) (s.size + 1) i) (i := i) (by rw [hgl i (by omega)]; omega)
      have hgz := bls_get hz
      have hzl : i < (orG (orL a b) (s.size + 1) i).length := by rw [hgl i (by omega)]; omega
      cases u
      all_goals
        simp only [Bool.false_or, Bool.true_or] at e
        simp only [go_sem, Int.reduceEq, Int.reduceLE, Int.reduceLT, Int.reduceToNat, h, hgu, hgv, hgz, hzl, hu, hv, hwi, Nat.div_one, Nat.mod_one, List.length_map, e]
        refine ⟨i + 1, h, by omega, ?_⟩
        exact Mv.of [some 0, some 1] rfl ⟨.slcS rfl (bls_bl _), .slcS rfl (bls_bl _), trivial⟩ (by simp [f36_i24, hq, la])
    · have := eb h2
      subst this
      simp only [go_sem, Int.reduceEq, Int.reduceLE, Int.reduceLT, Int.reduceToNat, Re.c_mk, List.length_map, la]
      refine xl_loopM hT hm (fun i : Nat => ⟨f36_i24 (.own 1) (Bls a) (.own 0) (.i a.length) (.i i), [blOb b, blOb (orG (orL a b) (s.size + 1) i)]⟩)
        (fun i => i ≤ a.length) (fun i => a.length - i) 0 (Nat.zero_le _) ?_ ?_
      · refine Mv.of [some 0, some 1] rfl ⟨.slcS rfl (bls_bl _), .slcS (by rw [← e0]; rfl) (bls_bl _), trivial⟩ ?_
        simp [f36_i24, hq, la]
      intro i hi
      simp only [go_sem, Int.reduceEq, Int.reduceLE, Int.reduceLT, Int.reduceToNat]
      by_cases h : i < a.length
      case neg =>
        obtain rfl : i = s.size + 1 := by omega
        simp only [go_sem, Int.reduceEq, Int.reduceLE, Int.reduceLT, Int.reduceToNat, h]
        rw [eE]
        exact keepF b _ (.frzS rfl rfl (bls_bl _))
      obtain ⟨u, hu⟩ := get_ex (l := a) (i := i) (by omega)
      obtain ⟨v, hv⟩ := get_ex (l := b) (i := i) (by omega)
      have hgu := bls_get hu
      have hgv := bls_get hv
      have hwi := wrap_succ i (by omega)
      have e := hst i u v hu hv
      obtain ⟨z, hz⟩ := get_ex (l := orG (orL a b) (s.size + 1) i) (i := i) (by rw [hgl i (by omega)]; omega)
      have hgz := bls_get hz
      have hzl : i < (orG (orL a b) (s.size + 1) i).length := by rw [hgl i (by omega)]; omega
      cases u
      all_goals
        simp only [Bool.false_or, Bool.true_or] at e
        simp only [go_sem, Int.reduceEq, Int.reduceLE, Int.reduceLT, Int.reduceToNat, h, hgu, hgv, hgz, hzl, hu, hv, hwi, Nat.div_one, Nat.mod_one, List.length_map, e]
        refine ⟨i + 1, h, by omega, ?_⟩
        exact Mv.of [some 0, some 1] rfl ⟨.slcS rfl (bls_bl _), .slcS rfl (bls_bl _), trivial⟩ (by simp [f36_i24, hq, la])
  · have := ea h1
    subst this
    clear ea
    cases h2 : epsy y
    · clear eb
      simp only [go_sem, Int.reduceEq, Int.reduceLE, Int.reduceLT, Int.reduceToNat, Re.c_mk, List.length_map, la]
      refine xl_loopM hT hm (fun i : Nat => ⟨f36_i24 (.own 1) (.own 0) (Bls b) (.i a.length) (.i i), [blOb a, blOb (orG (orL a b) (s.size + 1) i)]⟩)
        (fun i => i ≤ a.length) (fun i => a.length - i) 0 (Nat.zero_le _) ?_ ?_
      · refine Mv.of [some 0, some 1] rfl ⟨.slcS rfl (bls_bl _), .slcS (by rw [← e0]; rfl) (bls_bl _), trivial⟩ ?_
        simp [f36_i24, hq, la]
      intro i hi
      simp only [go_sem, Int.reduceEq, Int.reduceLE, Int.reduceLT, Int.reduceToNat]
      by_cases h : i < a.length
      case neg =>
        obtain rfl : i = s.size + 1 := by omega
        simp only [go_sem, Int.reduceEq, Int.reduceLE, Int.reduceLT, Int.reduceToNat, h]
        rw [eE]
        exact keepF a _ (.frzS rfl rfl (bls_bl _))
      obtain ⟨u, hu⟩ := get_ex (l := a) (i := i) (by omega)
      obtain ⟨v, hv⟩ := get_ex (l := b) (i := i) (by omega)
      have hgu := bls_get hu
      have hgv := bls_get hv
      have hwi := wrap_succ i (by omega)
      have e := hst i u v hu hv
      obtain ⟨z, hz⟩ := get_ex (l := orG (orL a b) (s.size + 1) i) (i := i) (by rw [hgl i (by omega)]; omega)
      have hgz := bls_get hz
      have hzl : i < (orG (orL a b) (s.size + 1) i).length := by rw [hgl i (by omega)]; omega
      cases u
      all_goals
        simp only [Bool.false_or, Bool.true_or] at e
        simp only [go_sem, Int.reduceEq, Int.reduceLE, Int.reduceLT, Int.reduceToNat, h, hgu, hgv, hgz, hzl, hu, hv, hwi, Nat.div_one, Nat.mod_one, List.length_map, e]
        refine ⟨i + 1, h, by omega, ?_⟩
        exact Mv.of [some 0, some 1] rfl ⟨.slcS rfl (bls_bl _), .slcS rfl (bls_bl _), trivial⟩ (by simp [f36_i24, hq, la])
    · have := eb h2
      subst this
      simp only [go_sem, Int.reduceEq, Int.reduceLE, Int.reduceLT, Int.reduceToNat, Re.c_mk, List.length_map, la]
      refine xl_loopM hT hm (fun i : Nat => ⟨f36_i24 (.own 1) (.own 0) (.own 0) (.i b.length) (.i i), [blOb b, blOb (orG (orL b b) (s.size + 1) i)]⟩)
        (fun i => i ≤ b.length) (fun i => b.length - i) 0 (Nat.zero_le _) ?_ ?_
      · refine Mv.of [some 0, some 1] rfl ⟨.slcS rfl (bls_bl _), .slcS (by rw [← e0]; rfl) (bls_bl _), trivial⟩ ?_
        simp [f36_i24, hq, la]
      intro i hi
      simp only [go_sem, Int.reduceEq, Int.reduceLE, Int.reduceLT, Int.reduceToNat]
      by_cases h : i < b.length
      case neg =>
        obtain rfl : i = s.size + 1 := by omega
        simp only [go_sem, Int.reduceEq, Int.reduceLE, Int.reduceLT, Int.reduceToNat, h]
        rw [eE]
        exact keepF b _ (.frzS rfl rfl (bls_bl _))
      obtain ⟨u, hu⟩ := get_ex (l := b) (i := i) (by omega)
      obtain ⟨v, hv⟩ := get_ex (l := b) (i := i) (by omega)
      obtain rfl : u = v := by rw [hu] at hv; cases hv; rfl
      have hgu := bls_get hu
      have hgv := bls_get hv
      have hwi := wrap_succ i (by omega)
      have e := hst i u u hu hv
      obtain ⟨z, hz⟩ := get_ex (l := orG (orL b b) (s.size + 1) i) (i := i) (by rw [hgl i (by omega)]; omega)
      have hgz := bls_get hz
      have hzl : i < (orG (orL b b) (s.size + 1) i).length := by rw [hgl i (by omega)]; omega
      cases u
      all_goals
        simp only [Bool.false_or, Bool.true_or] at e
        simp only [go_sem, Int.reduceEq, Int.reduceLE, Int.reduceLT, Int.reduceToNat, h, hgu, hgv, hgz, hzl, hu, hv, hwi, Nat.div_one, Nat.mod_one, List.length_map, e]
        refine ⟨i + 1, h, by omega, ?_⟩
        exact Mv.of [some 0, some 1] rfl ⟨.slcS rfl (bls_bl _), .slcS rfl (bls_bl _), trivial⟩ (by simp [f36_i24, hq, la])
end Go.Proofs.YtlejbkfefpfolaaGreatDoor.W
