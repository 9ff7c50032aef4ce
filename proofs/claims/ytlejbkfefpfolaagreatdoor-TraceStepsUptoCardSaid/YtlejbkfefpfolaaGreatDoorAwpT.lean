/- What is known of all data that are read: no row is longer than the greatest length. Small helps. -/
import Derived.Test.YtlejbkfefpfolaaGreatDoorAwpS
set_option linter.unusedVariables false
set_option linter.unusedSimpArgs false
set_option linter.unusedSectionVars false
namespace Go.Proofs.YtlejbkfefpfolaaGreatDoor.AWP
open Go
inductive Wf : D → Prop where
 | v (x : Value) : Wf (.v x)
 | any : Wf .any
 | sl {sz : Nat} {rows : List (List D)} (hl : rows.length ≤ 9223372036854775807) (h : ∀ r ∈ rows, ∀ d ∈ r, Wf d) : Wf (.sl sz rows)
 | pel {row : List D} (h : ∀ d ∈ row, Wf d) : Wf (.pel row)
 | agg {c : List D} (h : ∀ d ∈ c, Wf d) : Wf (.agg c)
 | tup {c : List D} (h : ∀ d ∈ c, Wf d) : Wf (.tup c)
 | ref {k off : Nat} : Wf (.ref k off)
 | rel {k sz i j : Nat} : Wf (.rel k sz i j)
 | own {k : Nat} : Wf (.own k)
 | fn {f : FuncId} {cap : List D} (h : ∀ d ∈ cap, Wf d) : Wf (.fn f cap)
 | ifc {t : TypeId} {d : D} (h : Wf d) : Wf (.ifc t d)
 | yld {k : Nat} : Wf (.yld k)
theorem Rd.wf {E : Env} {d : D} {y : Value} (h : Rd E d y) : Wf d := by
 have mem : ∀ {c : List D} {p : D → Prop}, (∀ (j : Nat) (d : D), c[j]? = some d → p d) → ∀ d ∈ c, p d := fun h d hd => by
  obtain ⟨j, hj⟩ := List.getElem?_of_mem hd
  exact h j d hj
 induction h with
 | v x => exact .v x
 | any y => exact .any
 | sl ad u hr hl hm ha hc hd ih =>
  refine .sl (by simp only [maxLen] at hm; omega) fun r hr' d hd' => ?_
  obtain ⟨i, hi⟩ := List.getElem?_of_mem hr'
  obtain ⟨j, hj⟩ := List.getElem?_of_mem hd'
  exact ih i r j d hi hj
 | pel ad u hA hc hd ih => exact .pel (mem ih)
 | agg vs hs h1 hd ih => exact .agg (mem ih)
 | tup vs hs hd ih => exact .tup (mem ih)
 | ref hk hg => exact .ref
 | rel hk hg => exact .rel
 | own hk => exact .own
 | fn vs hs hd ih => exact .fn (mem ih)
 | ifc h ih => exact .ifc ih
 | yld hk hg => exact .yld
theorem AC.wf {P : Program} {f : FuncId} {ds : List D} {om : List Ob} {R : Out → List Ob → Prop} (hc : callOk P f = true) (h : (∀ d ∈ ds, Wf d) → AC P f ds om R) : AC P f ds om R := by
 refine ⟨hc, fun E vs hR hA => ?_⟩
 refine (h fun d hd => ?_).2 E vs hR hA
 obtain ⟨j, hj⟩ := List.getElem?_of_mem hd
 exact (hA.2 j d hj).wf
theorem Wf.sl_len {sz : Nat} {rows : List (List D)} (h : Wf (.sl sz rows)) : rows.length ≤ 9223372036854775807 := by cases h; assumption
theorem Wf.sl_mem {sz : Nat} {rows : List (List D)} (h : Wf (.sl sz rows)) : ∀ r ∈ rows, ∀ d ∈ r, Wf d := by cases h; assumption
theorem Wf.agg_mem {c : List D} (h : Wf (.agg c)) : ∀ d ∈ c, Wf d := by cases h; assumption
theorem wrap_nat (n : Nat) (h : n ≤ 9223372036854775807) : IntKind.wrap .i64 (n : Int) = (n : Int) := by
 rw [IntKind.wrap_i64]; omega
theorem wrap_int (n : Int) (h : -9223372036854775808 ≤ n) (h' : n ≤ 9223372036854775807) : IntKind.wrap .i64 n = n := by
 rw [IntKind.wrap_i64]; omega
theorem wrap_succ (n : Nat) (h : n < 9223372036854775807) : IntKind.wrap .i64 ((n : Int) + 1) = ((n + 1 : Nat) : Int) := by
 have := wrap_nat (n + 1) (by omega)
 rw [← this]; rfl
theorem bne_true {a b : Int} (h : ¬ a = b) : (a != b) = true := by simp [h]
theorem beq_false {a b : Int} (h : ¬ a = b) : (a == b) = false := by simp [h]
@[simp] theorem Bl_v {n : Nat} {x : Value} : Bl n (.v x) := .v x
@[simp] theorem Bl_any {n : Nat} : Bl n .any := .any
@[simp] theorem Bl_sl {n sz : Nat} {rows : List (List D)} : Bl n (.sl sz rows) ↔ ∀ r ∈ rows, ∀ d ∈ r, Bl n d := ⟨fun h => by cases h; assumption, .sl⟩
@[simp] theorem Bl_pel {n : Nat} {row : List D} : Bl n (.pel row) ↔ ∀ d ∈ row, Bl n d := ⟨fun h => by cases h; assumption, .pel⟩
@[simp] theorem Bl_agg {n : Nat} {row : List D} : Bl n (.agg row) ↔ ∀ d ∈ row, Bl n d := ⟨fun h => by cases h; assumption, .agg⟩
@[simp] theorem Bl_tup {n : Nat} {row : List D} : Bl n (.tup row) ↔ ∀ d ∈ row, Bl n d := ⟨fun h => by cases h; assumption, .tup⟩
@[simp] theorem Bl_fn {n f : Nat} {row : List D} : Bl n (.fn f row) ↔ ∀ d ∈ row, Bl n d := ⟨fun h => by cases h; assumption, .fn⟩
@[simp] theorem Bl_ifc {n t : Nat} {d : D} : Bl n (.ifc t d) ↔ Bl n d := ⟨fun h => by cases h; assumption, .ifc⟩
@[simp] theorem Bl_own {n k : Nat} : Bl n (.own k) ↔ k < n := ⟨fun h => by cases h; assumption, .own⟩
@[simp] theorem Bl_ref {n k o : Nat} : Bl n (.ref k o) ↔ k < n := ⟨fun h => by cases h; assumption, .ref⟩
@[simp] theorem Bl_rel {n k a b c : Nat} : Bl n (.rel k a b c) ↔ k < n := ⟨fun h => by cases h; assumption, .rel⟩
@[simp] theorem Bl_yld {n k : Nat} : Bl n (.yld k) ↔ k < n := ⟨fun h => by cases h; assumption, .yld⟩
@[simp] theorem Plain_v {x : Value} : Plain (.v x) := .v x
@[simp] theorem Plain_any : Plain .any := .any
@[simp] theorem Plain_agg {c : List D} : Plain (.agg c) ↔ ∀ d ∈ c, Plain d := ⟨fun h => by cases h; assumption, .agg⟩
@[simp] theorem Plain_tup {c : List D} : Plain (.tup c) ↔ ∀ d ∈ c, Plain d := ⟨fun h => by cases h; assumption, .tup⟩
section
variable {om : List Ob} {F : Nat → Bool} {ks : List (Option Nat)}
theorem Cv.v {x : Value} : Cv om F ks (.v x) (.v x) := .same (.v x)
theorem Cv.eq {d d' : D} (h : d = d') (hb : Bl 0 d) : Cv om F ks d d' := h ▸ .same hb
theorem Cv.frzS {k ty sz : Nat} {rows : List (List D)} (h : om[k]? = some (.slc ty sz rows)) (hF : F k = true) (hb : ∀ r ∈ rows, ∀ d ∈ r, Bl 0 d) : Cv om F ks (.own k) (.sl sz rows) :=
 .frz h hF rfl (fun i r r' h1 h2 => by rw [h1] at h2; cases h2; rfl) (fun i r r' j d d' h1 h2 h3 h4 => by
  rw [h1] at h2; cases h2
  rw [h3] at h4; cases h4
  exact .same (hb r (List.mem_of_getElem? h1) d (List.mem_of_getElem? h3)))
theorem Cv.frvS {k ty off : Nat} {c : List D} (h : om[k]? = some (.var ty c)) (hF : F k = true) (ho : off ≤ c.length) (hb : ∀ d ∈ c, Bl 0 d) : Cv om F ks (.ref k off) (.pel (c.drop off)) :=
 .frv h hF (by simp; omega) (fun j d d' h1 h2 => by
  rw [List.getElem?_drop] at h2
  rw [h1] at h2; cases h2
  exact .same (hb d (List.mem_of_getElem? h1)))
theorem Cv.frvS0 {k ty : Nat} {c : List D} (h : om[k]? = some (.var ty c)) (hF : F k = true) (hb : ∀ d ∈ c, Bl 0 d) : Cv om F ks (.ref k 0) (.pel c) := Cv.frvS (off := 0) h hF (Nat.zero_le _) hb
theorem Cv.aggL {c c' : List D} (h : CvL om F ks c c') : Cv om F ks (.agg c) (.agg c') := .agg h.len h.get
theorem Cv.tupL {c c' : List D} (h : CvL om F ks c c') : Cv om F ks (.tup c) (.tup c') := .tup h.len h.get
theorem Cv.fnL {f : Nat} {c c' : List D} (h : CvL om F ks c c') : Cv om F ks (.fn f c) (.fn f c') := .fn h.len h.get
theorem CvL.same : ∀ {c : List D}, (∀ d ∈ c, Bl 0 d) → CvL om F ks c c
 | [], _ => trivial
 | d :: c, h => ⟨.same (h d (by simp)), CvL.same fun x hx => h x (by simp [hx])⟩
theorem MvO.slcS {k ty sz : Nat} {rows : List (List D)} (h : om[k]? = some (.slc ty sz rows)) (hb : ∀ r ∈ rows, ∀ d ∈ r, Bl 0 d) : MvO om F ks (some k) (.slc ty sz rows) :=
 .slc h rfl (fun i r r' h1 h2 => by rw [h1] at h2; cases h2; rfl) (fun i r r' j d d' h1 h2 h3 h4 => by
  rw [h1] at h2; cases h2
  rw [h3] at h4; cases h4
  exact .same (hb r (List.mem_of_getElem? h1) d (List.mem_of_getElem? h3)))
theorem MvO.varS {k ty : Nat} {c : List D} (h : om[k]? = some (.var ty c)) (hb : ∀ d ∈ c, Bl 0 d) : MvO om F ks (some k) (.var ty c) :=
 .var h rfl (fun j d d' h1 h2 => by
  rw [h1] at h2; cases h2
  exact .same (hb d (List.mem_of_getElem? h1)))
theorem MvO.lpL {k : Nat} {ps : Array Tmp} {as bo : Code} {st : LoopState} {pe : Option Code} {c c' : List D} (h : om[k]? = some (.lp ps as bo st pe c)) (hc : CvL om F ks c c') : MvO om F ks (some k) (.lp ps as bo st pe c') := .lp h hc.len hc.get
theorem MvO.varL {k ty : Nat} {c c' : List D} (h : om[k]? = some (.var ty c)) (hc : CvL om F ks c c') : MvO om F ks (some k) (.var ty c') := .var h hc.len hc.get
theorem MvO.deadE {k : Nat} (h : k < om.length) : MvO om F ks (some k) .dead := .dead (List.getElem?_eq_getElem h)
attribute [simp] CvL MvL
@[simp] theorem Cv_any {d : D} : Cv om F ks d .any := .any
@[simp] theorem Cv_vv {x y : Value} : Cv om F ks (.v x) (.v y) ↔ x = y := ⟨fun h => by cases h; rfl, fun h => h ▸ .v⟩
@[simp] theorem Cv_self {d : D} (h : Bl 0 d) : Cv om F ks d d := .same h
@[simp] theorem Cv_own {k j : Nat} : Cv om F ks (.own k) (.own j) ↔ ks[j]? = some (some k) := ⟨fun h => by cases h with | same h => simp at h | own h => exact h, .own⟩
@[simp] theorem Cv_ref {k j o p : Nat} : Cv om F ks (.ref k o) (.ref j p) ↔ ks[j]? = some (some k) ∧ o = p := ⟨fun h => by cases h with | same h => simp at h | ref h => exact ⟨h, rfl⟩, fun ⟨h, e⟩ => e ▸ .ref h⟩
@[simp] theorem Cv_yld {k j : Nat} : Cv om F ks (.yld k) (.yld j) ↔ ks[j]? = some (some k) := ⟨fun h => by cases h with | same h => cases h; omega | yld h => exact h, .yld⟩
@[simp] theorem Cv_nilOwn {j : Nat} : Cv om F ks (.v (.slice none 0 0)) (.own j) ↔ ks[j]? = some none := ⟨fun h => by cases h with | nilOwn h => exact h, .nilOwn⟩
@[simp] theorem Cv_nil {sz : Nat} : Cv om F ks (.v (.slice none 0 0)) (.sl sz []) := .nil
@[simp] theorem Cv_frz {k sz : Nat} {rows : List (List D)} (h : ∃ ty, om[k]? = some (.slc ty sz rows)) (hF : F k = true) (hb : ∀ r ∈ rows, ∀ d ∈ r, Bl 0 d) : Cv om F ks (.own k) (.sl sz rows) := by
 obtain ⟨ty, h⟩ := h
 exact .frzS h hF hb
@[simp] theorem Cv_frv {k : Nat} {c : List D} (h : ∃ ty, om[k]? = some (.var ty c)) (hF : F k = true) (hb : ∀ d ∈ c, Bl 0 d) : Cv om F ks (.ref k 0) (.pel c) := by
 obtain ⟨ty, h⟩ := h
 exact .frvS0 h hF hb
@[simp] theorem Cv_fn {f : Nat} {c c' : List D} (h : CvL om F ks c c') : Cv om F ks (.fn f c) (.fn f c') := .fnL h
@[simp] theorem Cv_agg {c c' : List D} (h : CvL om F ks c c') : Cv om F ks (.agg c) (.agg c') := .aggL h
@[simp] theorem MvO_nil {ty sz : Nat} (h : 0 < sz) : MvO om F ks none (.slc ty sz []) := .nil h
@[simp] theorem MvO_slc {k ty sz : Nat} {rows : List (List D)} (h : om[k]? = some (.slc ty sz rows)) (hb : ∀ r ∈ rows, ∀ d ∈ r, Bl 0 d) : MvO om F ks (some k) (.slc ty sz rows) := .slcS h hb
@[simp] theorem MvO_var {k ty : Nat} {c : List D} (h : om[k]? = some (.var ty c)) (hb : ∀ d ∈ c, Bl 0 d) : MvO om F ks (some k) (.var ty c) := .varS h hb
variable {P : Program} {T : Tab}
theorem AO.pv {f : FuncId} {as ds : List D} {x : Value} {K : Out → List Ob → Prop} (h : AO P f ds (.ret (.v x))) (hv : CvL om (fun _ => true) [] as ds) (hk : K (.ret (.v x)) om) : ACall P f as om K := h.lend hv (.v x) hk
theorem AO.pd {f : FuncId} {as ds : List D} {d : D} {K : Out → List Ob → Prop} (h : AO P f ds (.ret d)) (hv : CvL om (fun _ => false) [] as ds) (hb : Bl 0 d) (hk : K (.ret d) om) : ACall P f as om K := h.call hv hb hk
theorem ACall.ac {f : FuncId} {as : List D} {R : Out → List Ob → Prop} (h : ACall P f as om R) : AC P f as om R := by
 obtain ⟨R', h1, h2⟩ := h
 exact h1.mono h2
theorem AO.acv {f : FuncId} {as ds : List D} {x : Value} (h : AO P f ds (.ret (.v x))) (hv : CvL om (fun _ => true) [] as ds) : AC P f as om (retP (.v x) om) := (h.pv hv ⟨rfl, rfl⟩).ac
theorem AO.acd {f : FuncId} {as ds : List D} {d : D} (h : AO P f ds (.ret d)) (hv : CvL om (fun _ => false) [] as ds) (hb : Bl 0 d) : AC P f as om (retP d om) := (h.call hv hb ⟨rfl, rfl⟩).ac
theorem AO.qv {f : FuncId} {as ds : List D} {x : Value} {K : D → Prop} (h : AO P f ds (.ret (.v x))) (hv : CvL om (fun _ => true) [] as ds) (hk : K (.v x)) : QCall P f as om K := ⟨_, h.acv hv, hk⟩
theorem AO.qd {f : FuncId} {as ds : List D} {d : D} {K : D → Prop} (h : AO P f ds (.ret d)) (hv : CvL om (fun _ => false) [] as ds) (hb : Bl 0 d) (hk : K d) : QCall P f as om K := ⟨_, h.acd hv hb, hk⟩
theorem Fin.ret {d d' : D} (hd : Cv om (fun _ => true) [] d d') : Fin [] om (.ret d) (fun o om' => o = .ret d' ∧ om' = []) := Fin.nil hd ⟨rfl, rfl⟩
theorem Fin.pan {d d' : D} (hd : Cv om (fun _ => true) [] d d') : Fin [] om (.panic d) (fun o om' => o = .panic d' ∧ om' = []) := Fin.pnil hd ⟨rfl, rfl⟩
theorem Fin.eq {d d' : D} (h : d = d') (hd : Bl 0 d) : Fin [] om (.ret d) (fun o om' => o = .ret d' ∧ om' = []) := Fin.ret (.eq h hd)
theorem Fin.v {x x' : Value} (h : x = x') : Fin [] om (.ret (.v x)) (fun o om' => o = .ret (.v x') ∧ om' = []) := Fin.ret (h ▸ .v)
theorem Mv.none {env env' : List D} (he : CvL om (fun _ => true) [] env env') : Mv 0 ⟨env, om⟩ ⟨env', []⟩ := by
 have hk : kF [] = fun _ => true := by funext k; simp [kF]
 exact Mv.of [] rfl trivial (hk ▸ he)
theorem Mv.same {base : Nat} {env env' : List D} {om om' : List Ob} (h : env = env') (h2 : om = om') : Mv base ⟨env, om⟩ ⟨env', om'⟩ := by subst h; subst h2; exact Mv.refl
end
theorem obPut_var {ty : Nat} : ∀ {r c : List D} {p : Nat}, p + r.length ≤ c.length → obPut (.var ty c) p r = some (.var ty (splc c p r))
 | [], c, p, h => by simp [obPut, splc]
 | d :: r, c, p, h => by
  simp only [List.length_cons] at h
  have hp : p < c.length := by omega
  rw [obPut, obSet, if_pos hp]
  show obPut (.var ty (c.set p d)) (p + 1) r = _
  rw [obPut_var (by simp; omega)]
  congr 2
  refine List.ext_getElem? fun k => ?_
  rw [splc_get _ _ _ (by simp; omega), splc_get _ _ _ (by simp only [List.length_cons]; omega), List.getElem?_set, List.length_cons]
  by_cases h1 : k < p
  ·rw [if_neg (by omega), if_neg (by omega), if_neg (by omega)]
  ·by_cases h2 : k = p
   ·subst h2
    rw [if_neg (by omega), if_pos rfl, if_pos hp, if_pos (by omega), Nat.sub_self]; rfl
   ·rw [if_neg (show ¬ p = k by omega)]
    by_cases h3 : k < p + 1 + r.length
    ·rw [if_pos (by omega), if_pos (by omega), show k - p = (k - (p + 1)) + 1 by omega, List.getElem?_cons_succ]
    ·rw [if_neg (by omega), if_neg (by omega)]
theorem obPut_slcJ {ty sz : Nat} : ∀ {c : List D} {rows : List (List D)} {i j : Nat} {r0 : List D}, rows[i]? = some r0 → r0.length = sz → j + c.length ≤ sz → obPut (.slc ty sz rows) (i * sz + j) c = some (.slc ty sz (rows.set i (splc r0 j c)))
 | [], rows, i, j, r0, h1, h2, h3 => by
  have e : rows.set i r0 = rows := by
   obtain ⟨hk, e⟩ := List.getElem?_eq_some_iff.1 h1
   rw [← e]
   exact List.set_getElem_self hk
  simp [obPut, splc, e]
 | d :: c, rows, i, j, r0, h1, h2, h3 => by
  simp only [List.length_cons] at h3
  have hj : j < sz := by omega
  have hs : 0 < sz := by omega
  have e1 : (i * sz + j) / sz = i := by
   rw [Nat.mul_comm, Nat.mul_add_div hs, Nat.div_eq_of_lt hj]; rfl
  have e2 : (i * sz + j) % sz = j := by
   rw [Nat.mul_comm, Nat.mul_add_mod, Nat.mod_eq_of_lt hj]
  have hi := (List.getElem?_eq_some_iff.1 h1).1
  rw [obPut, obSet, e1, h1, e2]
  show obPut (.slc ty sz (rows.set i (r0.set j d))) (i * sz + (j + 1)) c = _
  rw [obPut_slcJ (r0 := r0.set j d) (by rw [List.getElem?_set]; simp [hi]) (by simp [h2]) (by omega), List.set_set]
  congr 3
  refine List.ext_getElem? fun k => ?_
  rw [splc_get _ _ _ (by simp; omega), splc_get _ _ _ (by simp only [List.length_cons]; omega), List.getElem?_set, List.length_cons]
  by_cases h1 : k < j
  ·rw [if_neg (by omega), if_neg (by omega), if_neg (by omega)]
  ·by_cases h2 : k = j
   ·subst h2
    rw [if_neg (by omega), if_pos rfl, if_pos (by omega), if_pos (by omega), Nat.sub_self]; rfl
   ·rw [if_neg (show ¬ j = k by omega)]
    by_cases h3 : k < j + 1 + c.length
    ·rw [if_pos (by omega), if_pos (by omega), show k - j = (k - (j + 1)) + 1 by omega, List.getElem?_cons_succ]
    ·rw [if_neg (by omega), if_neg (by omega)]
theorem obPut_slc {ty sz i : Nat} {c : List D} {rows : List (List D)} (h : i < rows.length) (hr : ∀ r ∈ rows, r.length = sz) (hc : c.length = sz) : obPut (.slc ty sz rows) (i * sz) c = some (.slc ty sz (rows.set i c)) := by
 have := obPut_slcJ (ty := ty) (sz := sz) (c := c) (rows := rows) (i := i) (j := 0) (r0 := rows[i]) (List.getElem?_eq_getElem h) (hr _ (List.getElem_mem h)) (by omega)
 have hl : rows[i].length = sz := hr _ (List.getElem_mem h)
 rw [Nat.add_zero] at this
 rw [this]
 congr 3
 simp [splc, hc, List.drop_eq_nil_of_le (show rows[i].length ≤ sz by omega)]
theorem arr_all (l : List Value) (p : Value → Bool) (n : Nat) (h : n = l.length) : l.toArray.all p 0 n = l.all p := by subst h; simp
attribute [go_sem] arr_all List.all_cons List.all_nil Bool.and_self Bool.true_and
attribute [go_sem] Bool.not_true Bool.not_false Nat.mul_one Nat.one_mul Nat.zero_mul List.getElem?_drop obPut_var Int.toNat_natCast Int.natCast_nonneg Int.ofNat_lt Int.ofNat_le Int.ofNat_inj List.length_map List.getElem?_map List.take_length beq_self_eq_true bne_self_eq_false Ob.live resD resL res1
end Go.Proofs.YtlejbkfefpfolaaGreatDoor.AWP
