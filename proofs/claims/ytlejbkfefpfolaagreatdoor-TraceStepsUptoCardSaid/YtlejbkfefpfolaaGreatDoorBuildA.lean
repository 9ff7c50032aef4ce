/- A set's text: the document's. -/
import Derived.Test.YtlejbkfefpfolaaGreatDoorTz
import Derived.Lib.Builder
import Derived.Lib.UnsafeStr
import Derived.Shelf.RegionOpenPlain
import Derived.Laws.Externs
import Derived.Test.YtlejbkfefpfolaaGreatDoorAwpY
import Derived.Test.YtlejbkfefpfolaaGreatDoorMathB
set_option linter.unusedVariables false
set_option linter.unusedSimpArgs false
set_option linter.unusedSectionVars false
set_option maxRecDepth 100000
namespace Go.Proofs.YtlejbkfefpfolaaGreatDoor.W
open Go Go.Proofs Go.Proofs.YtlejbkfefpfolaaGreatDoor.AWP
def BldT (T : Nat) : Prop := liesAt Tryz.prog Tryz.prog.depth T (2 / Tryz.prog.cellsOf T) 0 74 1 = true
theorem bldT : BldT 74 := by unfold BldT; kernel_rfl
theorem pageT : BldT 76 := by unfold BldT; kernel_rfl
theorem bldFresh {T : Nat} (lies : BldT T) (b : Nat) (w : World) (h0 : w.cell? ⟨b, 0, none⟩ = some (.pointer none)) (hsh : w.shape? b = some (T, 2)) (hfz : w.frozen? ⟨b, 0, none⟩ = false) :
  Calls Tryz.prog 89 #[.pointer (some ⟨b, 0, none⟩)] w fun e w' => e = .returned (.tuple #[]) ∧ w' = w.setCell ⟨b, 0, none⟩ (.pointer (some ⟨b, 0, none⟩)) := by
 have t1 : Tryz.prog.underlying 71 = some (.pointer 74) := by kernel_rfl
 have t2 : Tryz.prog.underlying 124 = some .unsafePointer := by kernel_rfl
 obtain ⟨j, hj, hjs⟩ : ∃ j, Tryz.prog.info? 74 = some j ∧ j.size = 2 := Option.map_eq_some_iff.1 (by kernel_rfl : (Tryz.prog.info? 74).map (·.size) = some 2)
 go_enter Tryz.func89, Tryz.ntmps89
 go_wp2
 rw [Lib.run_to_unsafe w ⟨b, 0, none⟩ t1 t2 hj (by rw [hjs]; decide) hsh (Nat.zero_lt_succ 1)]
 simp only [Result.andThen]
 rw [Oper.upon_value]
 go_wp2
 rw [run_callFunc_extern Tryz.func110 (by kernel_rfl) (by kernel_rfl) (by kernel_rfl) (e := Extern.AbiNoEscape.same) (by kernel_rfl)]
 rw [Lib.run_noEscape]
 simp only [Result.andThen]
 rw [Oper.upon_value]
 go_wp2
 rw [Lib.run_from_unsafe w ⟨b, 0, none⟩ t2 t1 hj hsh lies]
 simp only [Result.andThen]
 rw [Oper.upon_value]
 go_wp2
 go_end0
 exact ⟨rfl, rfl⟩
theorem bldUsed (b : Nat) (w : World) (h0 : w.cell? ⟨b, 0, none⟩ = some (.pointer (some ⟨b, 0, none⟩))) :
  Calls Tryz.prog 89 #[.pointer (some ⟨b, 0, none⟩)] w fun e w' => e = .returned (.tuple #[]) ∧ w' = w := by
 have t1 : Tryz.prog.underlying 71 = some (.pointer 74) := by kernel_rfl
 obtain ⟨j, hj, hjs⟩ : ∃ j, Tryz.prog.info? 74 = some j ∧ j.size = 2 := Option.map_eq_some_iff.1 (by kernel_rfl : (Tryz.prog.info? 74).map (·.size) = some 2)
 have e := fun w : World => Lib.run_neq_ptr_same w (P := Tryz.prog) (a := ⟨b, 0, none⟩) t1 hj
 go_enter Tryz.func89, Tryz.ntmps89
 go_wp2
 go_end0
 exact ⟨rfl, rfl⟩
theorem bldString {T : Nat} (b g cap : Nat) (p : Value) (l : List UInt8) (cs : Array Value) (w : World) (hb : w.heap[b]? = some (.cells #[p, .slice (some ⟨g, 0, none⟩) l.length cap] T (0, 0))) (h0 : l ≠ [])
  (hg : w.heap[g]? = some (.cells cs 5 (0, 0))) (hcs : l.length ≤ cs.size) (hcap : l.length ≤ cap) (hcm : cap ≤ maxLen) (hc : ∀ (j : Nat) (x : UInt8), l[j]? = some x → cs[j]? = some (.int .u8 x.toNat)) :
  Calls Tryz.prog 47 #[.pointer (some ⟨b, 0, none⟩)] w fun e w' => e = .returned (.string ⟨l.toArray⟩) ∧ w' = w.drew.freeze ⟨g, 0, none⟩ l.length := by
 have hl0 : l.length ≠ 0 := by simpa using h0
 have c1 : w.drew.cell? ⟨b, 1, none⟩ = some (.slice (some ⟨g, 0, none⟩) l.length cap) := by
  have : w.drew.heap[b]? = some (.cells #[p, .slice (some ⟨g, 0, none⟩) l.length cap] T (0, 0)) := hb
  rw [Lib.cell_of_heap this]; rfl
 have tp : Tryz.prog.underlying 101 = some (.pointer 5) := by kernel_rfl
 have tc : Tryz.prog.cellsOf 5 = 1 := by kernel_rfl
 have hSD : (Builtin.unsafeSliceData_ #[72] 101 #[.slice (some ⟨g, 0, none⟩) l.length cap]).run Tryz.prog w.drew = .ok (.pointer (some ⟨g, 0, none⟩)) w.drew :=
  Lib.run_unsafeSliceData_row _ _ _ _ _ _ (by omega)
 have hg' : w.drew.heap[g]? = some (.cells cs 5 (0, 0)) := hg
 have hUS : (Builtin.unsafeString_ #[101, 3] 9 #[.pointer (some ⟨g, 0, none⟩), .int .i64 l.length]).run Tryz.prog w.drew = .ok (.string ⟨l.toArray⟩) (w.drew.freeze ⟨g, 0, none⟩ l.length) := by
  refine Lib.run_unsafeString_row w.drew 101 3 9 5 tp tc g cs.size (by simp [World.shape?, hg']) l h0 hcs (by unfold maxLen at hcm; omega) ?_
  intro j x hx
  have e : (⟨g, 0, none⟩ : Addr).add j = ⟨g, j, none⟩ := by simp [Addr.add]; omega
  rw [e, Lib.cell_of_heap hg']
  exact hc j x hx
 have u1 := run_underlying (P := Tryz.prog) (t := 71) (d := .pointer 74) (by kernel_rfl)
 have mixed := hm
 go_enter Tryz.func47, Tryz.ntmps47
 go_wp2
 go_region_o
 all_goals (go_wp2; go_ret; exact ⟨rfl, rfl⟩)
end Go.Proofs.YtlejbkfefpfolaaGreatDoor.W
set_option maxRecDepth 100000
namespace Go.Proofs.YtlejbkfefpfolaaGreatDoor.W
open Go Go.Proofs Go.Proofs.YtlejbkfefpfolaaGreatDoor.AWP
attribute [local irreducible] xl hide aop aops aopQ qops guardP condP
theorem finSelf {om0 om : List Ob} {o : Out} {R : Out → List Ob → Prop} (h : R o om) : Fin om0 om o R := fun E0 E e _ hx hR ho => ⟨E, o, om, h, rfl, hx, hR, ho⟩
def bst (T : Nat) : Option (Nat × List UInt8) → List Ob
 | none => [.var T [.v (.pointer none), .v (.slice none 0 0)]]
 | some p => .var T [.ref 0 0, .own (p.1 + 1)] :: (List.replicate p.1 .dead ++ [byOb p.2])
abbrev bTx : Option (Nat × List UInt8) → List UInt8
 | none => []
 | some p => p.2
def bR (T : Nat) (d : D) (l : List UInt8) : Out → List Ob → Prop := fun o om' => o = .ret d ∧ ∃ n, om' = bst T (some (n, l))
theorem dead_row (n : Nat) (l : List UInt8) : ∃ R : List Ob, R = List.replicate n .dead ++ [byOb l] ∧ R[n]? = some (byOb l) ∧ R.length = n + 1 ∧ ∀ o, R.set n .dead ++ [o] = List.replicate (n + 1) .dead ++ [o] := by
 refine ⟨_, rfl, by simp, by simp, fun o => ?_⟩
 rw [List.set_append_right _ _ (by simp)]
 simp [List.replicate_succ']
theorem one_arg {E : Env} {d : D} {vs : Array Value} (h : RdA E [d] vs) : ∃ y, vs = #[y] ∧ Rd E d y := by
 refine ⟨vs.getD 0 undef, ?_, h.2 0 d rfl⟩
 have h1 : vs.size = 1 := h.1
 refine Array.ext (by simpa using h1) fun j a b => ?_
 have : j = 0 := by simp at b; omega
 subst this
 simp [Array.getD, h1]
theorem ref_block {E : Env} {om : List Ob} (hR : Rel E om) {k T off : Nat} {c : List D} (ho : om[k]? = some (.var T c)) {y : Value} (hy : Rd E (.ref k off) y) :
  ∃ b cs, y = .pointer (some ⟨b, off, none⟩) ∧ hb (E.g k) = some b ∧ E.w.heap[b]? = some (.cells cs T (0, 0)) ∧ cs.size = c.length ∧ CellsR E c cs := by
 obtain ⟨b, cs, h1, h2, h3, h4, h5⟩ := hR.ob k _ ho
 cases hy with
 | ref hk hg =>
  have hg' := hg
  rw [h1] at hg'
  simp only [hb, Option.some.injEq] at hg'
  subst hg'
  exact ⟨b, cs, rfl, hg, h2, h4, h5⟩
theorem ccFresh {T : Nat} (hT : BldT T) (x : D) (fr : List Ob) : AC Tryz.prog 89 [.ref 0 0] (.var T [.v (.pointer none), x] :: fr) (fun o om' => o = .ret (.tup []) ∧ om' = .var T [.ref 0 0, x] :: fr) := by
 refine ⟨rfl, fun E vs hR hA => ?_⟩
 obtain ⟨y, rfl, hy⟩ := one_arg hA
 obtain ⟨b, cs, rfl, hg, hbk, hcs, hc⟩ := ref_block hR (k := 0) rfl hy
 obtain ⟨y0, e0, _, r0⟩ := hc 0 _ rfl
 rw [r0.v_inv] at e0
 have hs := setCell_ok hR (k := 0) (p := 0) (o := .var T [.v (.pointer none), x]) (o' := .var T [.ref 0 0, x]) rfl rfl hg (by rfl) (by rfl) hy
 refine (bldFresh hT b E.w (by rw [Lib.cell_of_heap hbk]; exact e0) (by simp [World.shape?, hbk]; simpa using hcs) (Lib.frozen_of_heap hbk 0)).mono ?_
 rintro e w' ⟨rfl, rfl⟩
 exact ⟨_, _, _, ⟨rfl, rfl⟩, rfl, hs.2.2.1, hs.2.2.2.1, .tup #[] rfl (fun j d hj => by simp at hj)⟩
theorem ccUsed {T : Nat} (x : D) (fr : List Ob) : AC Tryz.prog 89 [.ref 0 0] (.var T [.ref 0 0, x] :: fr) (fun o om' => o = .ret (.tup []) ∧ om' = .var T [.ref 0 0, x] :: fr) := by
 refine ⟨rfl, fun E vs hR hA => ?_⟩
 obtain ⟨y, rfl, hy⟩ := one_arg hA
 obtain ⟨b, cs, rfl, hg, hbk, hcs, hc⟩ := ref_block hR (k := 0) rfl hy
 obtain ⟨y0, e0, _, r0⟩ := hc 0 _ rfl
 obtain ⟨b', _, rfl, hg', _⟩ := ref_block hR (k := 0) rfl r0
 have : b' = b := by rw [hg] at hg'; injection hg' with h; exact h.symm
 subst this
 refine (bldUsed b' E.w (by rw [Lib.cell_of_heap hbk]; exact e0)).mono ?_
 rintro e w' ⟨rfl, rfl⟩
 exact ⟨E, _, _, ⟨rfl, rfl⟩, rfl, Ext.refl _ _, hR, .tup #[] rfl (fun j d hj => by simp at hj)⟩
theorem wrByte {T : Nat} (hT' : BldT T) (st : Option (Nat × List UInt8)) (c : UInt8) (hl : (bTx st).length ≤ 1000000000) : AC Tryz.prog 68 [.ref 0 0, .y c] (bst T st) (bR T (.v .nilIface) (bTx st ++ [c])) := by
 cases st with
 | none =>
  refine AC.lbody hT hm Tryz.func68 f68_nm f68_lc f68_res f68_nt ?_
  simp only [go_sem, Int.reduceEq, Int.reduceLE, Int.reduceLT, Int.reduceToNat, bst]
  refine ⟨_, ccFresh hT' _ [], ?_⟩
  rintro _ _ ⟨rfl, rfl⟩
  simp only [go_sem, Int.reduceEq, Int.reduceLE, Int.reduceLT, Int.reduceToNat]
  exact finSelf ⟨rfl, 0, rfl⟩
 | some p =>
  obtain ⟨n, l⟩ := p
  have hl' : l.length ≤ 1000000000 := hl
  obtain ⟨R, hRe, hR1, hR2, hR3⟩ := dead_row n l
  refine AC.lbody hT hm Tryz.func68 f68_nm f68_lc f68_res f68_nt ?_
  simp only [go_sem, Int.reduceEq, Int.reduceLE, Int.reduceLT, Int.reduceToNat, bst]
  rw [← hRe]
  refine ⟨_, ccUsed _ R, ?_⟩
  rintro _ _ ⟨rfl, rfl⟩
  simp only [go_sem, Int.reduceEq, Int.reduceLE, Int.reduceLT, Int.reduceToNat, hR1, hR2]
  refine ⟨by omega, ?_⟩
  refine finSelf ⟨rfl, n + 1, ?_⟩
  rw [hR3]
  simp [bst, byteRows]
theorem strRows_of (m : List UInt8) : strRows ⟨m.toArray⟩ = byteRows m := by simp [strRows, byteRows]
theorem wrStr {T : Nat} (hT' : BldT T) (st : Option (Nat × List UInt8)) (m : List UInt8) (hl : (bTx st).length ≤ 1000000000) (hml : m.length ≤ 1000000000) :
  AC Tryz.prog 69 [.ref 0 0, .s ⟨m.toArray⟩] (bst T st) (bR T (.tup [.i m.length, .v .nilIface]) (bTx st ++ m)) := by
 have hsz : (⟨m.toArray⟩ : ByteArray).size = m.length := ba_size m
 have hrw := strRows_of m
 generalize hs : (⟨m.toArray⟩ : ByteArray) = s at hsz hrw
 cases st with
 | none =>
  refine AC.lbody hT hm Tryz.func69 f69_nm f69_lc f69_res f69_nt ?_
  simp only [go_sem, Int.reduceEq, Int.reduceLE, Int.reduceLT, Int.reduceToNat, bst]
  refine ⟨_, ccFresh hT' _ [], ?_⟩
  rintro _ _ ⟨rfl, rfl⟩
  simp only [go_sem, Int.reduceEq, Int.reduceLE, Int.reduceLT, Int.reduceToNat, hsz, hrw]
  refine ⟨by omega, ?_⟩
  exact finSelf ⟨rfl, 0, rfl⟩
 | some p =>
  obtain ⟨n, l⟩ := p
  have hl' : l.length ≤ 1000000000 := hl
  obtain ⟨R, hRe, hR1, hR2, hR3⟩ := dead_row n l
  refine AC.lbody hT hm Tryz.func69 f69_nm f69_lc f69_res f69_nt ?_
  simp only [go_sem, Int.reduceEq, Int.reduceLE, Int.reduceLT, Int.reduceToNat, bst]
  rw [← hRe]
  refine ⟨_, ccUsed _ R, ?_⟩
  rintro _ _ ⟨rfl, rfl⟩
  simp only [go_sem, Int.reduceEq, Int.reduceLE, Int.reduceLT, Int.reduceToNat, hR1, hR2, hsz, hrw]
  refine ⟨by omega, ?_⟩
  refine finSelf ⟨rfl, n + 1, ?_⟩
  rw [hR3]
  simp [bst, byteRows]
theorem byteRows_flat (l : List UInt8) : (byteRows l).flatten = l.map fun b => D.v (.int .u8 b.toNat) := by
 unfold byteRows
 induction l with
 | nil => rfl
 | cons b l ih => simp [ih]
theorem strOf {T : Nat} (n : Nat) (l : List UInt8) (h0 : l ≠ []) : AC Tryz.prog 47 [.ref 0 0] (bst T (some (n, l))) (fun o om' => o = .ret (.s ⟨l.toArray⟩) ∧ om' = (bst T (some (n, l))).set (n + 1) .dead) := by
 refine ⟨rfl, fun E vs hR hA => ?_⟩
 obtain ⟨y, rfl, hy⟩ := one_arg hA
 have hk1 : (bst T (some (n, l)))[n + 1]? = some (byOb l) := by simp [bst]
 obtain ⟨b, cs, rfl, hg, hbk, hcs, hc⟩ := ref_block hR (k := 0) (T := T) (c := [.ref 0 0, .own (n + 1)]) rfl hy
 obtain ⟨y1, e1, _, r1⟩ := hc 1 _ rfl
 obtain ⟨y0, e0, _, r0⟩ := hc 0 _ rfl
 obtain ⟨_, hall, hh⟩ := hR.ob (n + 1) _ hk1
 rcases hh with ⟨_, hnil⟩ | ⟨g, cs2, cap, q1, q2, q3, q4, q5, q6, q7⟩
 ·exact absurd (by simpa [byteRows] using hnil) h0
 have hlen : (byteRows l).length = l.length := byteRows_len l
 rw [hlen] at q1 q5
 have hy1 : y1 = .slice (some ⟨g, 0, none⟩) l.length cap := by
  cases r1 with
  | own hk => exact q1
 subst hy1
 have hcsE : cs = #[y0, .slice (some ⟨g, 0, none⟩) l.length cap] := by
  refine Array.ext' (List.ext_getElem? fun i => ?_)
  match i with
  | 0 => simpa using e0
  | 1 => simpa using e1
  | i + 2 =>
   have : cs.size = 2 := hcs
   simp; omega
 rw [hcsE] at hbk
 refine (bldString b g cap y0 l cs2 E.w hbk h0 q2 (by omega) q5 q6 (fun j x hx => ?_)).mono ?_
 ·have hf := byteRows_flat l
  obtain ⟨u, f1, _, f3⟩ := q7 j (.v (.int .u8 x.toNat)) (by rw [hf, List.getElem?_map, hx]; rfl)
  rw [f3.v_inv] at f1
  exact f1
 rintro e w' ⟨rfl, rfl⟩
 have hlt : g < E.w.heap.size := (Array.getElem?_eq_some_iff.1 q2).1
 have hl0 : l.length ≠ 0 := by simpa using h0
 have hw : E.w.freeze ⟨g, 0, none⟩ l.length = E.w.putObj g (.cells cs2 5 (0, l.length)) := by
  unfold World.freeze World.putObj
  rw [if_neg hl0]
  congr 1
  refine Array.ext_getElem? fun i => ?_
  rw [Array.getElem?_modify, Array.getElem?_setIfInBounds]
  by_cases hgi : g = i
  ·subst hgi
   have q2' := (Array.getElem?_eq_some_iff.1 q2).2
   simp [hlt, q2']
  ·simp [hgi]
 obtain ⟨hx, hR'⟩ := put_okG hR hk1 rfl (b := g) (by rw [q1]; rfl) (.cells cs2 5 (0, l.length)) .dead (fun _ => trivial)
 let E1 : Env := { E with w := { (E.w.putObj g (.cells cs2 5 (0, l.length))) with drawn := E.w.drawn + 1 } }
 have hx1 : Ext { E with w := E.w.putObj g (.cells cs2 5 (0, l.length)) } ((bst T (some (n, l))).set (n + 1) .dead) E1 ((bst T (some (n, l))).set (n + 1) .dead) :=
  ⟨Nat.le_refl _, fun _ _ => rfl, fun _ h => h, Nat.le_refl _, rfl, rfl, rfl, fun _ _ _ => rfl, fun b hl => .inl hl, fun b hA => .inl hA⟩
 have hR1 : Rel E1 ((bst T (some (n, l))).set (n + 1) .dead) := by
  refine ⟨hR'.len, fun k o hk => ?_, hR'.inj, hR'.old, hR'.one, fun g c h => (hR'.gt g c h).ext hR' hx1⟩
  exact ObR.keep hR' hx1 (by rw [← hR'.len]; exact (List.getElem?_eq_some_iff.1 hk).1) (hR'.ob k o hk) fun hl b hb => ⟨rfl, (hR'.live_lt ⟨k, o, hk, hl, hb⟩).2⟩
 refine ⟨E1, _, _, ⟨rfl, rfl⟩, ?_, hx.trans hx1, hR1, .v _⟩
 show _ = E.w.drew.freeze ⟨g, 0, none⟩ l.length
 have : E.w.drew.freeze ⟨g, 0, none⟩ l.length = { (E.w.freeze ⟨g, 0, none⟩ l.length) with drawn := E.w.drawn + 1 } := by
  unfold World.freeze World.drew
  rw [if_neg hl0, if_neg hl0]
 rw [this, hw]
end Go.Proofs.YtlejbkfefpfolaaGreatDoor.W
set_option maxRecDepth 100000
namespace Go.Proofs.YtlejbkfefpfolaaGreatDoor.W
open Go Go.Proofs Go.Proofs.YtlejbkfefpfolaaGreatDoor.AWP
attribute [local irreducible] xl hide aop aops aopQ qops guardP condP
abbrev txD (l : List UInt8) : D := .v (.string ⟨l.toArray⟩)
def remL (ws : List Int) (b : Nat) : List Nat := (List.range' b (256 - b)).filter fun n => hasB ws n
theorem remL_zero (ws : List Int) : remL ws 0 = hasL ws 256 := by unfold remL hasL; rw [List.range_eq_range']
theorem remL_end (ws : List Int) : remL ws 256 = [] := rfl
theorem remL_succ (ws : List Int) {b : Nat} (h : b < 256) : remL ws b = if hasB ws b then b :: remL ws (b + 1) else remL ws (b + 1) := by
 unfold remL
 obtain ⟨n, hn⟩ : ∃ n, 256 - b = n + 1 := ⟨255 - b, by omega⟩
 rw [hn, List.range'_succ, List.filter_cons, show 256 - (b + 1) = n by omega]
theorem remL_ge (ws : List Int) (b : Nat) : ∀ x ∈ remL ws b, b ≤ x := by
 intro x hx
 unfold remL at hx
 rw [List.mem_filter, List.mem_range'] at hx
 obtain ⟨⟨i, _, rfl⟩, _⟩ := hx
 omega
theorem runLen_far (t : Nat) (l : List Nat) (h : ∀ x ∈ l, t + 2 ≤ x) : runLen t l = 0 := by
 cases l with
 | nil => rfl
 | cons c l =>
  have := h c (by simp)
  rw [runLen, if_neg (by omega)]
theorem byteC {n : Nat} (h : n < 256) : IntKind.wrap .u8 (n : Int) = ((ub n).toNat : Int) := by rw [u8_wrap n h, ub_nat h]
theorem setT_256 {ws : List Int} (h : (hasL ws 256).length = 256) : setT ws = [46] := by unfold setT; rw [if_pos h]
theorem setT_1 {ws : List Int} {x : Nat} (h : hasL ws 256 = [x]) : setT ws = signB (ub x) := by unfold setT; rw [if_neg (by rw [h]; simp), h]
theorem setT_n {ws : List Int} (h : ¬ (hasL ws 256).length = 256) (h1 : ¬ (hasL ws 256).length = 1) : setT ws = 91 :: (runsL (hasL ws 256) ++ [93]) := by
 unfold setT
 rw [if_neg h]
 split
 ·rename_i x hx; rw [hx] at h1; exact absurd rfl h1
 ·rfl
theorem rText (ws : List Int) (hw : W64 ws) : AP Tryz.prog 63 [Ws ws] (txD (setT ws)) := by
 have h4 := hw.len
 have hB := rBytes ws hw
 have hlen := hasL_len ws 256
 have hrl := rowsN_len (hasL ws 256)
 have hz := remL_zero ws
 have hHas := fun n hn => rHas ws hw n hn
 obtain ⟨a, b, c, d, rfl⟩ := four h4
 refine AC.lbody hT hm Tryz.func63 f63_nm f63_lc f63_res f63_nt ?_
 simp only [go_sem, Int.reduceEq, Int.reduceLE, Int.reduceLT, Int.reduceToNat]
 refine hB.pd ⟨.same (.agg (W_bl [a, b, c, d])), trivial⟩ (.sl (rowsN_bl _)) ?_
 simp only [go_sem, Int.reduceEq, Int.reduceLE, Int.reduceLT, Int.reduceToNat, hrl]
 by_cases h256 : (hasL [a, b, c, d] 256).length = 256
 ·have e : ((256 : Nat) : Int) = 256 := rfl
  rw [setT_256 h256]
  simp only [go_sem, Int.reduceEq, Int.reduceLE, Int.reduceLT, Int.reduceToNat, h256, e, beq_self_eq_true]
  exact Fin.v rfl
 have e1 : (((hasL [a, b, c, d] 256).length : Int) == 256) = false := beq_false (by omega)
 simp only [go_sem, Int.reduceEq, Int.reduceLE, Int.reduceLT, Int.reduceToNat, hrl, e1]
 by_cases h1 : (hasL [a, b, c, d] 256).length = 1
 ·obtain ⟨x, hx⟩ := List.length_eq_one_iff.1 h1
  have hx256 : x < 256 := (hasL_mem (ws := [a, b, c, d]) (n := 256)).1 (by rw [hx]; simp) |>.1
  have e2 : ((1 : Nat) : Int) = 1 := rfl
  have ex : D.v (.int .u8 (x : Int)) = .y (ub x) := by show _ = D.v (.int .u8 ((ub x).toNat : Int)); rw [ub_nat hx256]
  rw [setT_1 hx, hx]
  simp only [go_sem, Int.reduceEq, Int.reduceLE, Int.reduceLT, Int.reduceToNat, List.length_singleton, e2, beq_self_eq_true, rowsN, List.map_cons, List.map_nil]
  refine (rSign (ub x)).pv ⟨.eq ex (.v _), trivial⟩ ?_
  simp only [go_sem, Int.reduceEq, Int.reduceLE, Int.reduceLT, Int.reduceToNat]
  exact Fin.v rfl
 have e2 : (((hasL [a, b, c, d] 256).length : Int) == 1) = false := beq_false (by omega)
 rw [setT_n h256 h1]
 simp only [go_sem, Int.reduceEq, Int.reduceLE, Int.reduceLT, Int.reduceToNat, hrl, e2]
 have hrun := runs_len _ (hasL [a, b, c, d] 256) 0 (Nat.le_refl _) (hasL_sorted [a, b, c, d] 256) (fun x hx => ⟨by omega, (hasL_mem.1 hx).1⟩) (by omega)
 refine xl_loopM hT hm (fun p : Nat × List UInt8 => ⟨f63_i21 (.pel [wD a, wD b, wD c, wD d]) (txD p.2) (.i p.1), []⟩)
  (fun p => p.1 ≤ 256 ∧ p.2 ++ runsL (remL [a, b, c, d] p.1) = 91 :: runsL (hasL [a, b, c, d] 256) ∧ p.2.length ≤ 10 * p.1 + 1) (fun p => 256 - p.1) (0, [91]) ⟨Nat.zero_le _, by rw [hz]; rfl, by simp⟩ (Mv.none (by simp [f63_i21, wD])) ?_
 rintro ⟨i, acc⟩ ⟨hi, hacc, hal⟩
 simp only at hi hacc hal ⊢
 simp only [go_sem, Int.reduceEq, Int.reduceLE, Int.reduceLT, Int.reduceToNat]
 by_cases h : i < 256
 case neg =>
  obtain rfl : i = 256 := by omega
  have hf : decide (((256 : Nat) : Int) < 256) = false := rfl
  rw [remL_end, runsL, List.append_nil] at hacc
  have hs : acc.length + 1 ≤ 9223372036854775807 := by omega
  have e93 : (⟨#[93]⟩ : ByteArray) = ⟨([93] : List UInt8).toArray⟩ := rfl
  simp only [go_sem, Int.reduceEq, Int.reduceLE, Int.reduceLT, Int.reduceToNat, hf, hs]
  refine Fin.v ?_
  rw [e93, ba_app, hacc]
  rfl
 have ht : decide ((i : Int) < 256) = true := by simp; omega
 have hR := remL_succ [a, b, c, d] h
 simp only [go_sem, Int.reduceEq, Int.reduceLE, Int.reduceLT, Int.reduceToNat, ht]
 refine (hHas i h).pv ⟨.same (.agg (W_bl [a, b, c, d])), .v, trivial⟩ ?_
 cases hb : hasB [a, b, c, d] i with
 | false =>
  rw [hb] at hR
  rw [if_neg (by simp)] at hR
  rw [hR] at hacc
  simp only [go_sem, Int.reduceEq, Int.reduceLE, Int.reduceLT, Int.reduceToNat]
  refine ⟨(i + 1, acc), ⟨h, hacc, by simp only; omega⟩, by simp only; omega, ?_⟩
  rw [wrap_succ i (by omega)]
  exact Mv.none (by simp [wD])
 | true =>
  rw [hb, if_pos rfl] at hR
  simp only [go_sem, Int.reduceEq, Int.reduceLE, Int.reduceLT, Int.reduceToNat]
  refine xl_loopM hT hm (fun t : Nat => ⟨f63_i14 (.pel [wD a, wD b, wD c, wD d]) (txD acc) (.i i) (.i t), []⟩)
   (fun t => i ≤ t ∧ t < 256 ∧ (t - i) + runLen t (remL [a, b, c, d] (t + 1)) = runLen i (remL [a, b, c, d] (i + 1)) ∧ (remL [a, b, c, d] (i + 1)).drop (t - i) = remL [a, b, c, d] (t + 1)) (fun t => 256 - t) i
   ⟨Nat.le_refl _, h, by simp, by simp⟩ (Mv.none (by simp [f63_i14, wD])) ?_
  rintro t ⟨hit, ht256, hrn, hdr⟩
  have fin : runLen t (remL [a, b, c, d] (t + 1)) = 0 → runsL (remL [a, b, c, d] i) = rng i (t - i) ++ runsL (remL [a, b, c, d] (t + 1)) := by
   intro h0
   rw [h0, Nat.add_zero] at hrn
   rw [hR, runsL, ← hrn, hdr]
  have hti := wrap_succ t (by omega)
  have hii := wrap_succ i (by omega)
  have done_ : runLen t (remL [a, b, c, d] (t + 1)) = 0 → (acc ++ rng i (t - i)) ++ runsL (remL [a, b, c, d] (t + 1)) = 91 :: runsL (hasL [a, b, c, d] 256) ∧ (acc ++ rng i (t - i)).length ≤ 10 * (t + 1) + 1 := by
   intro h0
   have h7 := rng_len7 i (t - i)
   refine ⟨by rw [List.append_assoc, ← fin h0]; exact hacc, ?_⟩
   rw [List.length_append]; omega
  simp only [go_sem, Int.reduceEq, Int.reduceLE, Int.reduceLT, Int.reduceToNat]
  by_cases hlt : t < 255
  case neg =>
   have hf : decide ((t : Int) < 255) = false := by simp; omega
   have h0 : runLen t (remL [a, b, c, d] (t + 1)) = 0 := by rw [show t = 255 by omega]; rfl
   simp only [go_sem, Int.reduceEq, Int.reduceLE, Int.reduceLT, Int.reduceToNat, hf]
   simp only [go_sem, Int.reduceEq, Int.reduceLE, Int.reduceLT, Int.reduceToNat, byteC h]
   refine (rSign (ub i)).pv ⟨.v, trivial⟩ ?_
   have hsz1 : acc.length + (signB (ub i)).length ≤ 9223372036854775807 := by have := signB_len (ub i); omega
   simp only [go_sem, Int.reduceEq, Int.reduceLE, Int.reduceLT, Int.reduceToNat, hsz1, ba_app, hii]
   have hfin : (acc ++ signB (ub i)) ++ ((if 1 < t - i then [45] else []) ++ (if 0 < t - i then signB (ub t) else [])) = acc ++ rng i (t - i) := by
    unfold rng
    rw [show i + (t - i) = t by omega, List.append_assoc]
   have hA : (acc ++ signB (ub i)).length ≤ 10 * i + 4 := by rw [List.length_append]; have := signB_len (ub i); omega
   generalize acc ++ signB (ub i) = B at hfin hA
   by_cases hgt : i + 1 < t
   ·have hg1 : i + 1 < t := hgt
    have hg2 : i < t := by omega
    have e45 : (⟨#[45]⟩ : ByteArray) = ⟨([45] : List UInt8).toArray⟩ := rfl
    have hsz2 : B.length + 1 ≤ 9223372036854775807 := by omega
    have hsz3 : B.length + 1 + (signB (ub t)).length ≤ 9223372036854775807 := by have := signB_len (ub t); omega
    rw [if_pos (show 1 < t - i by omega), if_pos (show 0 < t - i by omega), ← List.append_assoc] at hfin
    simp only [go_sem, Int.reduceEq, Int.reduceLE, Int.reduceLT, Int.reduceToNat, hg1, hg2, e45, hsz2, ba_app, byteC ht256]
    refine (rSign (ub t)).pv ⟨.v, trivial⟩ ?_
    simp only [go_sem, Int.reduceEq, Int.reduceLE, Int.reduceLT, Int.reduceToNat, hsz3, ba_app, hti, hfin]
    exact ⟨(t + 1, _), ⟨by omega, (done_ h0).1, (done_ h0).2⟩, by simp only; omega, Mv.none (by simp [wD])⟩
   by_cases hgt2 : i < t
   ·have hg1 : ¬ i + 1 < t := hgt
    have hg2 : i < t := by omega
    have hsz3 : B.length + (signB (ub t)).length ≤ 9223372036854775807 := by have := signB_len (ub t); omega
    rw [if_neg (show ¬ 1 < t - i by omega), if_pos (show 0 < t - i by omega), List.nil_append] at hfin
    simp only [go_sem, Int.reduceEq, Int.reduceLE, Int.reduceLT, Int.reduceToNat, hg1, hg2, byteC ht256]
    refine (rSign (ub t)).pv ⟨.v, trivial⟩ ?_
    simp only [go_sem, Int.reduceEq, Int.reduceLE, Int.reduceLT, Int.reduceToNat, hsz3, ba_app, hti, hfin]
    exact ⟨(t + 1, _), ⟨by omega, (done_ h0).1, (done_ h0).2⟩, by simp only; omega, Mv.none (by simp [wD])⟩
   ·have hg1 : ¬ i + 1 < t := hgt
    have hg2 : ¬ i < t := hgt2
    rw [if_neg (show ¬ 1 < t - i by omega), if_neg (show ¬ 0 < t - i by omega), List.nil_append, List.append_nil] at hfin
    simp only [go_sem, Int.reduceEq, Int.reduceLE, Int.reduceLT, Int.reduceToNat, hg1, hg2, hti, hfin]
    exact ⟨(t + 1, _), ⟨by omega, (done_ h0).1, (done_ h0).2⟩, by simp only; omega, Mv.none (by simp [wD])⟩
  have hf : decide ((t : Int) < 255) = true := by simp; omega
  have hRt := remL_succ [a, b, c, d] (b := t + 1) (by omega)
  simp only [go_sem, Int.reduceEq, Int.reduceLE, Int.reduceLT, Int.reduceToNat, hf, hti]
  refine (hHas (t + 1) (by omega)).pv ⟨.same (.agg (W_bl [a, b, c, d])), .v, trivial⟩ ?_
  cases hbt : hasB [a, b, c, d] (t + 1) with
  | true =>
   rw [hbt, if_pos rfl] at hRt
   simp only [go_sem, Int.reduceEq, Int.reduceLE, Int.reduceLT, Int.reduceToNat, hti]
   refine ⟨t + 1, ⟨by omega, by omega, ?_, ?_⟩, by omega, Mv.none (by simp [wD])⟩
   ·rw [← hrn, hRt, runLen, if_pos rfl]; omega
   ·rw [show t + 1 - i = (t - i) + 1 by omega, ← List.drop_drop, hdr, hRt]; rfl
  | false =>
   rw [hbt, if_neg (by simp)] at hRt
   have h0 : runLen t (remL [a, b, c, d] (t + 1)) = 0 := runLen_far _ _ (by rw [hRt]; exact remL_ge _ _)
   simp only [go_sem, Int.reduceEq, Int.reduceLE, Int.reduceLT, Int.reduceToNat]
   simp only [go_sem, Int.reduceEq, Int.reduceLE, Int.reduceLT, Int.reduceToNat, byteC h]
   refine (rSign (ub i)).pv ⟨.v, trivial⟩ ?_
   have hsz1 : acc.length + (signB (ub i)).length ≤ 9223372036854775807 := by have := signB_len (ub i); omega
   simp only [go_sem, Int.reduceEq, Int.reduceLE, Int.reduceLT, Int.reduceToNat, hsz1, ba_app, hii]
   have hfin : (acc ++ signB (ub i)) ++ ((if 1 < t - i then [45] else []) ++ (if 0 < t - i then signB (ub t) else [])) = acc ++ rng i (t - i) := by
    unfold rng
    rw [show i + (t - i) = t by omega, List.append_assoc]
   have hA : (acc ++ signB (ub i)).length ≤ 10 * i + 4 := by rw [List.length_append]; have := signB_len (ub i); omega
   generalize acc ++ signB (ub i) = B at hfin hA
   by_cases hgt : i + 1 < t
   ·have hg1 : i + 1 < t := hgt
    have hg2 : i < t := by omega
    have e45 : (⟨#[45]⟩ : ByteArray) = ⟨([45] : List UInt8).toArray⟩ := rfl
    have hsz2 : B.length + 1 ≤ 9223372036854775807 := by omega
    have hsz3 : B.length + 1 + (signB (ub t)).length ≤ 9223372036854775807 := by have := signB_len (ub t); omega
    rw [if_pos (show 1 < t - i by omega), if_pos (show 0 < t - i by omega), ← List.append_assoc] at hfin
    simp only [go_sem, Int.reduceEq, Int.reduceLE, Int.reduceLT, Int.reduceToNat, hg1, hg2, e45, hsz2, ba_app, byteC ht256]
    refine (rSign (ub t)).pv ⟨.v, trivial⟩ ?_
    simp only [go_sem, Int.reduceEq, Int.reduceLE, Int.reduceLT, Int.reduceToNat, hsz3, ba_app, hti, hfin]
    exact ⟨(t + 1, _), ⟨by omega, (done_ h0).1, (done_ h0).2⟩, by simp only; omega, Mv.none (by simp [wD])⟩
   by_cases hgt2 : i < t
   ·have hg1 : ¬ i + 1 < t := hgt
    have hg2 : i < t := by omega
    have hsz3 : B.length + (signB (ub t)).length ≤ 9223372036854775807 := by have := signB_len (ub t); omega
    rw [if_neg (show ¬ 1 < t - i by omega), if_pos (show 0 < t - i by omega), List.nil_append] at hfin
    simp only [go_sem, Int.reduceEq, Int.reduceLE, Int.reduceLT, Int.reduceToNat, hg1, hg2, byteC ht256]
    refine (rSign (ub t)).pv ⟨.v, trivial⟩ ?_
    simp only [go_sem, Int.reduceEq, Int.reduceLE, Int.reduceLT, Int.reduceToNat, hsz3, ba_app, hti, hfin]
    exact ⟨(t + 1, _), ⟨by omega, (done_ h0).1, (done_ h0).2⟩, by simp only; omega, Mv.none (by simp [wD])⟩
   ·have hg1 : ¬ i + 1 < t := hgt
    have hg2 : ¬ i < t := hgt2
    rw [if_neg (show ¬ 1 < t - i by omega), if_neg (show ¬ 0 < t - i by omega), List.nil_append, List.append_nil] at hfin
    simp only [go_sem, Int.reduceEq, Int.reduceLE, Int.reduceLT, Int.reduceToNat, hg1, hg2, hti, hfin]
    exact ⟨(t + 1, _), ⟨by omega, (done_ h0).1, (done_ h0).2⟩, by simp only; omega, Mv.none (by simp [wD])⟩
end Go.Proofs.YtlejbkfefpfolaaGreatDoor.W
