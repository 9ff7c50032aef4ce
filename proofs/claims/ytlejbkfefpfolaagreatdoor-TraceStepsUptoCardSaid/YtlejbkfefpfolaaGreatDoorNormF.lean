/- Whether two are the same; the normal form, of what may be; whether one is its own. -/
import Derived.Test.YtlejbkfefpfolaaGreatDoorNormA
set_option linter.unusedVariables false
set_option linter.unusedSimpArgs false
set_option linter.unusedSectionVars false
set_option maxRecDepth 100000
namespace Go.Proofs.YtlejbkfefpfolaaGreatDoor.W
open Go Go.Proofs Go.Proofs.YtlejbkfefpfolaaGreatDoor.AWP
attribute [local irreducible] xl hide aop aops aopQ qops guardP condP
abbrev RFL : Nat := 77
def rfTr : Nat → Nat → Nat → OT
 | 0, _, _ => .op 9 (.op 10 (.op 11 .done))
 | f + 1, i, j =>
  if i = 5 then .op (5 + j) (rfTr f i (j + 1)) else if j = 4 then .op i (rfTr f (i + 1) j) else .both (.op i (rfTr f (i + 1) j)) (.op (5 + j) (rfTr f i (j + 1)))
theorem rf_tree : ((Tryz.f77.body.bind drawn1).map fun ops => (ops.toList.map lop, drawOk ops [] 0 false, mkTree ops ops.size (headMask ops.size 0))) = some (f77_r4, true, rfTr 9 0 0) := by kernel_rfl
theorem rf_rf : Tryz.f77.body.map noRF = some true := by kernel_rfl
abbrev rfK (p q : Re) : List D := [.v (.int .u8 5), .v (.int .u64 0), .v (.int .u64 0), .v (.int .u64 0), .v (.int .u64 0), .sl 6 [p.c, q.c]]
abbrev rfE (p q : Re) (a10 a11 a12 a13 a14 a15 a16 a17 a18 : D) : List D :=
 [.agg (rfK p q), .pel (rfK p q), .v (.slice none 0 0), .pel (rfK p q), .v (.int .u8 5), .b false, .any, .pel (rfK p q), .v (.int .u8 5), .b true, a10, a11, a12, a13, a14, a15, a16, a17, a18, .any, .any, .any, .any]
section
variable {p q : Re} {om : List Ob} {K : St → Prop} {KP : D → St → Prop} {e10 e11 e12 e13 e14 e15 e16 e17 e18 : D} {t : OT}
abbrev rfP (t : OT) (s : St) (K : St → Prop) (KP : D → St → Prop) : Prop := treeP Tryz.prog T f77_r4 [] t s K KP
theorem rfA0 (h : rfP t ⟨rfE p q (.pel [.sl 6 [p.c, q.c]]) e11 e12 e13 e14 e15 e16 e17 e18, om⟩ K KP) : rfP (.op 0 t) ⟨rfE p q e10 e11 e12 e13 e14 e15 e16 e17 e18, om⟩ K KP := by
 simp only [go_sem, Int.reduceEq, Int.reduceLE, Int.reduceLT, Int.reduceToNat]; exact h
theorem rfA1 (h : rfP t ⟨rfE p q (.pel [.sl 6 [p.c, q.c]]) (.sl 6 [p.c, q.c]) e12 e13 e14 e15 e16 e17 e18, om⟩ K KP) : rfP (.op 1 t) ⟨rfE p q (.pel [.sl 6 [p.c, q.c]]) e11 e12 e13 e14 e15 e16 e17 e18, om⟩ K KP := by
 simp only [go_sem, Int.reduceEq, Int.reduceLE, Int.reduceLT, Int.reduceToNat]; exact h
theorem rfA2 (h : rfP t ⟨rfE p q e10 (.sl 6 [p.c, q.c]) (.pel p.c) e13 e14 e15 e16 e17 e18, om⟩ K KP) : rfP (.op 2 t) ⟨rfE p q e10 (.sl 6 [p.c, q.c]) e12 e13 e14 e15 e16 e17 e18, om⟩ K KP := by
 simp only [go_sem, Int.reduceEq, Int.reduceLE, Int.reduceLT, Int.reduceToNat]; exact h
theorem rfA3 (h : rfP t ⟨rfE p q e10 e11 (.pel p.c) (.agg p.c) e14 e15 e16 e17 e18, om⟩ K KP) : rfP (.op 3 t) ⟨rfE p q e10 e11 (.pel p.c) e13 e14 e15 e16 e17 e18, om⟩ K KP := by
 simp only [go_sem, Int.reduceEq, Int.reduceLE, Int.reduceLT, Int.reduceToNat]; exact h
theorem rfA4 (hp : AC Tryz.prog RFL [.agg p.c] [] (fun o om => o = .ret (.own 0) ∧ om = [reOb p.fl])) (h : rfP t ⟨rfE p q e10 e11 e12 (.agg p.c) (.own 0) e15 e16 e17 e18, [reOb p.fl]⟩ K KP) : rfP (.op 4 t) ⟨rfE p q e10 e11 e12 (.agg p.c) e14 e15 e16 e17 e18, []⟩ K KP := by
 simp only [go_sem, Int.reduceEq, Int.reduceLE, Int.reduceLT, Int.reduceToNat]
 refine ⟨_, hp, ?_⟩
 rintro _ _ ⟨rfl, rfl⟩
 simp only [go_sem, Int.reduceEq, Int.reduceLE, Int.reduceLT, Int.reduceToNat]
 exact h
theorem rfA5 (h : rfP t ⟨rfE p q e10 e11 e12 e13 e14 (.pel [.sl 6 [p.c, q.c]]) e16 e17 e18, om⟩ K KP) : rfP (.op 5 t) ⟨rfE p q e10 e11 e12 e13 e14 e15 e16 e17 e18, om⟩ K KP := by
 simp only [go_sem, Int.reduceEq, Int.reduceLE, Int.reduceLT, Int.reduceToNat]; exact h
theorem rfA6 (h : rfP t ⟨rfE p q e10 e11 e12 e13 e14 (.pel [.sl 6 [p.c, q.c]]) (.sl 6 [p.c, q.c]) e17 e18, om⟩ K KP) : rfP (.op 6 t) ⟨rfE p q e10 e11 e12 e13 e14 (.pel [.sl 6 [p.c, q.c]]) e16 e17 e18, om⟩ K KP := by
 simp only [go_sem, Int.reduceEq, Int.reduceLE, Int.reduceLT, Int.reduceToNat]; exact h
theorem rfA7 (h : rfP t ⟨rfE p q e10 e11 e12 e13 e14 e15 (.sl 6 [p.c, q.c]) (.pel q.c) e18, om⟩ K KP) : rfP (.op 7 t) ⟨rfE p q e10 e11 e12 e13 e14 e15 (.sl 6 [p.c, q.c]) e17 e18, om⟩ K KP := by
 simp only [go_sem, Int.reduceEq, Int.reduceLE, Int.reduceLT, Int.reduceToNat]; exact h
theorem rfA8 (h : rfP t ⟨rfE p q e10 e11 e12 e13 e14 e15 e16 (.pel q.c) (.agg q.c), om⟩ K KP) : rfP (.op 8 t) ⟨rfE p q e10 e11 e12 e13 e14 e15 e16 (.pel q.c) e18, om⟩ K KP := by
 simp only [go_sem, Int.reduceEq, Int.reduceLE, Int.reduceLT, Int.reduceToNat]; exact h
def rfG (k i : Nat) (x : D) : D := if k ≤ i then x else .any
def rfO (i : Nat) (om : List Ob) : List Ob := if 5 ≤ i then om else []
abbrev rfS (p q : Re) (i j : Nat) : St := ⟨rfE p q (rfG 1 i (.pel [.sl 6 [p.c, q.c]])) (rfG 2 i (.sl 6 [p.c, q.c])) (rfG 3 i (.pel p.c)) (rfG 4 i (.agg p.c)) (rfG 5 i (.own 0)) (rfG 1 j (.pel [.sl 6 [p.c, q.c]])) (rfG 2 j (.sl 6 [p.c, q.c])) (rfG 3 j (.pel q.c)) (rfG 4 j (.agg q.c)), rfO i [reOb p.fl]⟩
theorem rfStA (hp : AC Tryz.prog RFL [.agg p.c] [] (fun o om => o = .ret (.own 0) ∧ om = [reOb p.fl])) {i j : Nat} (hi : i < 5) (h : rfP t (rfS p q (i + 1) j) K KP) : rfP (.op i t) (rfS p q i j) K KP := by
 obtain rfl | rfl | rfl | rfl | rfl : i = 0 ∨ i = 1 ∨ i = 2 ∨ i = 3 ∨ i = 4 := by omega
 ·exact rfA0 h
 ·exact rfA1 h
 ·exact rfA2 h
 ·exact rfA3 h
 ·exact rfA4 hp h
theorem rfStB {i j : Nat} (hj : j < 4) (h : rfP t (rfS p q i (j + 1)) K KP) : rfP (.op (5 + j) t) (rfS p q i j) K KP := by
 obtain rfl | rfl | rfl | rfl : j = 0 ∨ j = 1 ∨ j = 2 ∨ j = 3 := by omega
 ·exact rfA5 h
 ·exact rfA6 h
 ·exact rfA7 h
 ·exact rfA8 h
theorem rfAll (hp : AC Tryz.prog RFL [.agg p.c] [] (fun o om => o = .ret (.own 0) ∧ om = [reOb p.fl])) (hf : rfP (.op 9 (.op 10 (.op 11 .done))) (rfS p q 5 4) K KP) :
  ∀ (f i j : Nat), i + j + f = 9 → i ≤ 5 → j ≤ 4 → rfP (rfTr f i j) (rfS p q i j) K KP := by
 intro f
 induction f with
 | zero =>
  intro i j h hi hj
  obtain rfl : i = 5 := by omega
  obtain rfl : j = 4 := by omega
  exact hf
 | succ f ih =>
  intro i j h hi hj
  rw [rfTr]
  by_cases h5 : i = 5
  ·rw [if_pos h5]
   exact rfStB (by omega) (ih i (j + 1) (by omega) hi (by omega))
  rw [if_neg h5]
  by_cases h4 : j = 4
  ·rw [if_pos h4]
   exact rfStA hp (by omega) (ih (i + 1) j (by omega) (by omega) hj)
  rw [if_neg h4]
  exact ⟨rfStA hp (by omega) (ih (i + 1) j (by omega) (by omega) hj), rfStB (by omega) (ih i (j + 1) (by omega) hi (by omega))⟩
end
theorem reg_some {r : List LOp} {n : Nat} {c : Code} (h : lc c = .reg r [] (some n)) : ∃ id ops, c = .region id ops true := by
 obtain ⟨id, ops, draw, rfl⟩ := lc_inv.2.2.2.2.2.2.2.2.1 _ _ _ h
 cases draw with
 | false => simp [lc, LC.st] at h
 | true => exact ⟨id, ops, rfl⟩
theorem rflatAP {r : Re} (h : AC Tryz.prog RFL [.agg r.c] [] (fun o om => o = .ret (.own 0) ∧ om = [reOb r.fl])) : AP Tryz.prog RFL [.agg r.c] (Res r.fl) :=
 AC.fin (r := (.ret (.own 0), [reOb r.fl])) h (Fin.ret (frzR rfl))
theorem rflat (r : Re) : r.nodesOk = true → r.sz ≤ 10000 → AC Tryz.prog RFL [.agg r.c] [] (fun o om => o = .ret (.own 0) ∧ om = [reOb r.fl]) := by
 have hb := f77_lc
 have hrf := rf_rf
 have hd := rf_tree
 simp only [Option.map_eq_some_iff] at hb
 obtain ⟨c, hc, hl⟩ := hb
 rw [hc] at hd hrf
 simp only [f77_c, LC.st] at hl
 obtain ⟨c0, cB, rfl, h0, hB⟩ := lc_inv.1 _ _ hl
 obtain ⟨cA, cC, rfl, hA, hC⟩ := lc_inv.1 _ _ hB
 obtain ⟨cD, cE, rfl, hD, hE⟩ := lc_inv.1 _ _ hC
 obtain ⟨id0, ops0, rfl, e0⟩ := reg_none h0
 obtain ⟨cr1, cc1, rfl, h1, hc1⟩ := lc_inv.1 _ _ hA
 obtain ⟨id1, ops1, rfl, e1⟩ := reg_none h1
 obtain ⟨cx1, cy1, rfl, hx1, hy1⟩ := lc_inv.2.2.2.2.2.2.1 _ _ _ hc1
 obtain rfl := lc_inv.2.1 hy1
 obtain ⟨cr2, crt, rfl, h2, hrt⟩ := lc_inv.1 _ _ hx1
 obtain rfl := lc_inv.2.2.1 hrt
 obtain ⟨id2, ops2, rfl, e2⟩ := reg_none h2
 obtain ⟨cr3, cc3, rfl, h3, hc3⟩ := lc_inv.1 _ _ hD
 obtain ⟨id3, ops3, rfl, e3⟩ := reg_none h3
 obtain ⟨cx3, cy3, rfl, hx3, hy3⟩ := lc_inv.2.2.2.2.2.2.1 _ _ _ hc3
 obtain rfl := lc_inv.2.1 hy3
 obtain ⟨cr4, crt4, rfl, h4, hrt4⟩ := lc_inv.1 _ _ hx3
 obtain rfl := lc_inv.2.2.1 hrt4
 obtain ⟨id4, ops4, rfl⟩ := reg_some h4
 have hd5 : (ops4.toList.map lop, drawOk ops4 [] 0 false, mkTree ops4 ops4.size (headMask ops4.size 0)) = (f77_r4, true, rfTr 9 0 0) := by
  simpa [drawn1] using hd
 simp only [Prod.mk.injEq] at hd5
 obtain ⟨d1, d2, d3⟩ := hd5
 intro hok
 refine Re.indOk (p := fun r => r.sz ≤ 10000 → AC Tryz.prog RFL [.agg r.c] [] (fun o om => o = .ret (.own 0) ∧ om = [reOb r.fl])) ?_ ?_ ?_ ?_ r hok
 ·intro k hk hs
  rw [fl_one _ _ _ _ _ _ (by simp)]
  refine AC.lbody hT hm Tryz.func77 f77_nm f77_lc f77_res f77_nt ?_
  rcases hk with rfl | rfl
  ·simp only [go_sem, Int.reduceEq, Int.reduceLE, Int.reduceLT, Int.reduceToNat, Re.c_mk, Int.reduceBEq]
   exact Fin.mv (om' := [reOb []]) [some 0] rfl ⟨.slcS rfl (Re.map_bl []), trivial⟩ (by simp) ⟨rfl, rfl⟩
  ·simp only [go_sem, Int.reduceEq, Int.reduceLE, Int.reduceLT, Int.reduceToNat, Re.c_mk, Int.reduceBEq]
   exact Fin.mv (om' := [reOb [.mk 2 0 0 0 0 []]]) [some 0] rfl ⟨.slcS (by simp [Re.c_mk, Re.cs_eq]) (Re.map_bl _), trivial⟩ (by simp) ⟨rfl, rfl⟩
 ·intro a b c d hn hs
  rw [fl_one _ _ _ _ _ _ (by simp)]
  refine AC.lbody hT hm Tryz.func77 f77_nm f77_lc f77_res f77_nt ?_
  simp only [go_sem, Int.reduceEq, Int.reduceLE, Int.reduceLT, Int.reduceToNat, Re.c_mk, Int.reduceBEq]
  exact Fin.mv (om' := [reOb [.mk 3 a b c d []]]) [some 0] rfl ⟨.slcS (by simp [Re.c_mk, Re.cs_eq]) (Re.map_bl _), trivial⟩ (by simp) ⟨rfl, rfl⟩
 ·intro k p q hk hpo hqo ihp ihq hs
  rw [sz_two] at hs
  rw [fl_two _ _ _ hk]
  rcases hk with rfl | rfl
  ·refine AC.lbody hT hm Tryz.func77 f77_nm f77_lc f77_res f77_nt ?_
   simp only [go_sem, Int.reduceEq, Int.reduceLE, Int.reduceLT, Int.reduceToNat, Re.c_mk, Int.reduceBEq]
   exact Fin.mv (om' := [reOb [.mk 4 0 0 0 0 [p, q]]]) [some 0] rfl ⟨.slcS (by simp [Re.c_mk, Re.cs_eq]) (Re.map_bl _), trivial⟩ (by simp) ⟨rfl, rfl⟩
  have hp := ihp (by omega)
  have hq := rflatAP (ihq (by omega))
  have l1 := fl_sz p hpo
  have l2 := fl_sz q hqo
  rw [if_pos rfl]
  refine AC.body hT Tryz.func77 hc f77_nm f77_res f77_nt ?_
  refine AW.seq (AW.region hT _ [] e0 ?_)
  simp only [go_sem, Int.reduceEq, Int.reduceLE, Int.reduceLT, Int.reduceToNat, Re.c_mk]
  refine AW.seq (AW.seq (AW.region hT _ [] e1 ?_))
  simp only [go_sem, Int.reduceEq, Int.reduceLE, Int.reduceLT, Int.reduceToNat, Int.reduceBEq]
  refine AW.cond (t := false) rfl ?_
  refine AW.skip ?_
  refine AW.seq (AW.seq (AW.region hT _ [] e3 ?_))
  simp only [go_sem, Int.reduceEq, Int.reduceLE, Int.reduceLT, Int.reduceToNat, Int.reduceBEq]
  refine AW.cond (t := true) rfl ?_
  refine AW.seq (AW.regionT0 hT hm d1 d2 d3 ?_)
  refine rfAll (p := p) (q := q) hp ?_ 9 0 0 rfl (by omega) (by omega)
  have e5 : rfO 5 [reOb p.fl] = [reOb p.fl] := rfl
  simp only [rfG, e5, go_sem, Int.reduceEq, Int.reduceLE, Int.reduceLT, Int.reduceToNat]
  refine hq.pd ⟨.same (Re.d_bl _), trivial⟩ (Res_bl' _) ?_
  simp only [go_sem, Int.reduceEq, Int.reduceLE, Int.reduceLT, Int.reduceToNat]
  refine ⟨by omega, ?_⟩
  refine AW.ret ?_
  simp only [go_sem, Int.reduceEq, Int.reduceLE, Int.reduceLT, Int.reduceToNat]
  exact Fin.mv (om' := [reOb (p.fl ++ q.fl)]) [some 1] rfl ⟨.slcS (by simp) (Re.map_bl _), trivial⟩ (by simp) ⟨rfl, rfl⟩
 ·intro x hx ih hs
  rw [fl_one _ _ _ _ _ _ (by simp)]
  refine AC.lbody hT hm Tryz.func77 f77_nm f77_lc f77_res f77_nt ?_
  simp only [go_sem, Int.reduceEq, Int.reduceLE, Int.reduceLT, Int.reduceToNat, Re.c_mk, Int.reduceBEq]
  exact Fin.mv (om' := [reOb [.mk 6 0 0 0 0 [x]]]) [some 0] rfl ⟨.slcS (by simp [Re.c_mk, Re.cs_eq]) (Re.map_bl _), trivial⟩ (by simp) ⟨rfl, rfl⟩
end Go.Proofs.YtlejbkfefpfolaaGreatDoor.W
set_option maxRecDepth 100000
namespace Go.Proofs.YtlejbkfefpfolaaGreatDoor.W
open Go Go.Proofs Go.Proofs.YtlejbkfefpfolaaGreatDoor.AWP
attribute [local irreducible] xl hide aop aops aopQ qops guardP condP
theorem mvG {F L : List Re} {s : List Int} {j k m : Nat} {om : List Ob} {G : Nat → Bool} (h0 : om[0]? = some zOb) (h1 : om[j]? = some (reOb F)) (h2 : om[k]? = some (wOb s)) (h3 : om[m]? = some (reOb L)) : MvL om G [some 0, some j, some k, some m] [some 0, some j, some k, some m] [zOb, reOb F, wOb s, reOb L] :=
 ⟨.varS h0 (by simp [zRe]), .slcS h1 (Re.map_bl _), .varS h2 (W_bl s), .slcS h3 (Re.map_bl _), trivial⟩
theorem mvH {L : List Re} {k : Nat} {om : List Ob} {G : Nat → Bool} (h0 : om[0]? = some zOb) (h2 : om[k]? = some (reOb L)) : MvL om G [some 0, some k] [some 0, some k] [zOb, reOb L] :=
 ⟨.varS h0 (by simp [zRe]), .slcS h2 (Re.map_bl _), trivial⟩
theorem get_flat_wd {l : List Re} (hw : ∀ x ∈ l, x.wd) (hok : ∀ x ∈ l, x.nodesOk = true) : ∀ x ∈ l.flatMap Re.fl, x.wd := by
 intro x hx
 obtain ⟨y, hy, h⟩ := flatMap_fl hx
 exact fl_wd y (hw y hy) x h
theorem rAlt (l : List Re) (hsz : Re.szs l ≤ 10000) (hok : ∀ x ∈ l, x.nodesOk = true) (hw : ∀ x ∈ l, x.wd) : AP Tryz.prog 60 [Res l] (.agg (altR l).c) := by
 have hfl := flatMap_len l hok
 have hg := gather_sz (l.flatMap Re.fl)
 have hg2 := szs_len (gather (l.flatMap Re.fl))
 have hf := flat_sz l hok
 have hf2 := szs_len (l.flatMap Re.fl)
 have hll := szs_len l
 have hcl := clsS_len (l.flatMap Re.fl)
 have hwF := get_flat_wd hw hok
 have e : altR l = foldL 5 1 (onceR (sortR (gather (l.flatMap Re.fl)))) := rfl
 rw [e]
 refine AC.lbody hT hm Tryz.func60 f60_nm f60_lc f60_res f60_nt ?_
 simp only [go_sem]
 refine xl_loopM hT hm (fun i : Nat => ⟨f60_i7 (Res l) (.ref 0 0) (.own 1) (.i l.length) (.i i), [zOb, reOb ((l.take i).flatMap Re.fl)]⟩)
  (fun i => i ≤ l.length) (fun i => l.length - i) 0 (Nat.zero_le _) (Mv.of [some 0, some 1] rfl ⟨.varS rfl (by simp [zRe]), .slcS rfl (Re.map_bl []), trivial⟩ (by simp [f60_i7])) ?_
 intro i hi
 simp only [go_sem]
 by_cases h : i < l.length
 case pos =>
  obtain ⟨x, hx⟩ := get_ex h
  have hxs := szs_get hx
  have hft := flatMap_take hx
  have hL : ((l.take i).flatMap Re.fl).length ≤ 10000 := Nat.le_trans (flatMap_len _ (fun y hy => hok y (List.mem_of_mem_take hy))) (Nat.le_trans (szs_take l i) hsz)
  have hxo := ok_get hok hx
  have hxl := fl_sz x hxo
  have c1 := rflatAP (rflat x hxo (by omega))
  generalize (l.take i).flatMap Re.fl = L at hft hL
  simp only [go_sem, h, hx]
  refine c1.pd ⟨.same (Re.d_bl _), trivial⟩ (Res_bl' _) ?_
  simp only [go_sem]
  refine ⟨by omega, ?_⟩
  refine ⟨i + 1, h, by omega, ?_⟩
  rw [wrap_succ i (by omega), hft]
  exact Mv.of [some 0, some 2] rfl (mvH rfl (by simp)) (by simp)
 simp only [go_sem, h]
 rw [List.take_of_length_le (by omega)]
 generalize l.flatMap Re.fl = F at *
 refine xl_loopM hT hm (fun i : Nat => ⟨f60_i17 (.ref 0 0) (.own 1) (.ref 2 0) (.own 3) (.i F.length) (.i i), [zOb, reOb F, wOb (clsS (F.take i)), reOb (nocls (F.take i))]⟩)
  (fun i => i ≤ F.length) (fun i => F.length - i) 0 (Nat.zero_le _) (Mv.of [some 0, some 1, some 2, some 3] rfl ⟨.varS rfl (by simp [zRe]), .slcS rfl (Re.map_bl F), .varS rfl (W_bl noneS), .slcS rfl (Re.map_bl []), trivial⟩ (by simp [f60_i17])) ?_
 intro i hi
 simp only [go_sem]
 by_cases hF : i < F.length
 case pos =>
  obtain ⟨x, hx⟩ := get_ex hF
  have f1 := nocls_take hx
  have f2 := clsS_take hx
  have hx0 := c_0 x
  have hwx := Re.wd_set (hwF x (List.mem_of_getElem? hx))
  have hws := clsS_w (F.take i) (fun y hy => hwF y (List.mem_of_mem_take hy))
  have hS4 := clsS_len (F.take i)
  have hN : (nocls (F.take i)).length ≤ F.length := by
   have := List.length_filter_le (fun r : Re => decide (r.kd ≠ 3)) (F.take i)
   have h2 := List.length_take_le i F
   unfold nocls; omega
  generalize clsS (F.take i) = S at hS4 f2 hws ⊢
  generalize nocls (F.take i) = N at hN f1 ⊢
  by_cases h3 : x.kd = 3
  ·rw [if_pos h3] at f1
   have ej : clsStep S x = joinAll [S, x.set] := if_pos h3
   rw [ej] at f2
   have hmj := rJoin S x.set hws hwx
   have hjl := joinAll_len (l := [S, x.set]) (by obtain ⟨k, a, b, c, d, ks⟩ := x; simp [hS4, Re.set])
   generalize joinAll [S, x.set] = J at hjl f2 hmj
   obtain ⟨s1, s2, s3, s4, rfl⟩ := four hS4
   obtain ⟨k, a, b, c, d, ks⟩ := x
   obtain rfl : k = 3 := h3
   obtain ⟨j1, j2, j3, j4, rfl⟩ := four hjl
   simp only [go_sem, hF, hx, Re.c_mk, Int.reduceBEq]
   refine hmj.pd ⟨.same (.agg (W_bl [s1, s2, s3, s4])), .same (.agg (W_bl [a, b, c, d])), trivial⟩ (.agg (W_bl _)) ?_
   simp only [go_sem]
   refine ⟨i + 1, hF, by omega, ?_⟩
   rw [wrap_succ i (by omega), f1, f2]
   exact Mv.of [some 0, some 1, some 2, some 3] rfl (mvG rfl rfl rfl rfl) (by simp)
  ·rw [if_neg h3] at f1
   have ej : clsStep S x = S := if_neg h3
   rw [ej] at f2
   simp only [go_sem, hF, hx, hx0, beq_false h3]
   refine ⟨by omega, ?_⟩
   refine ⟨i + 1, hF, by omega, ?_⟩
   rw [wrap_succ i (by omega), f1, f2]
   exact Mv.of [some 0, some 1, some 2, some 4] rfl (mvG rfl rfl rfl (by simp)) (by simp)
 rw [List.take_of_length_le (by omega)]
 obtain ⟨a, b, c, d, hs⟩ := four hcl
 by_cases hn : clsS F = noneS
 ·have e3 : gather F = nocls F := by rw [gather, if_pos hn]
  rw [e3] at hg2 hg ⊢
  rw [hn]
  simp only [go_sem, hF, noneS, wD_eq, intsEq, Int.reduceBEq]
  refine (rSort (nocls F) (by omega)).callF (fun k => k == 3) ⟨frzN rfl rfl, trivial⟩ (Res_bl' _) ?_
  have ef : frzL (fun k => k == 3) [zOb, reOb F, wOb [0, 0, 0, 0], reOb (nocls F)] = [zOb, reOb F, wOb [0, 0, 0, 0], .frz 6 ((nocls F).map Re.c)] := rfl
  simp only [go_sem, ef]
  refine (rOnce (sortR (nocls F)) (by rw [sortR_len]; omega)).pd (by simp) (by simp) ?_
  simp only [go_sem]
  have ho := onceR_len (sortR (nocls F))
  rw [sortR_len] at ho
  refine (rFold 5 (onceR (sortR (nocls F))) (by omega)).pd ⟨.v, by simp, trivial⟩ (Re.d_bl _) ?_
  simp only [go_sem, Re.put0]
  exact finR rfl
 ·have e3 : gather F = nocls F ++ [reS (clsS F)] := by rw [gather, if_neg hn]
  rw [e3] at hg2 hg ⊢
  have hr := rReOf (clsS F) hcl
  generalize reS (clsS F) = C at *
  rw [hs] at hn hr ⊢
  have hn' : ¬ (a = 0 ∧ b = 0 ∧ c = 0 ∧ d = 0) := fun h => hn (by obtain ⟨rfl, rfl, rfl, rfl⟩ := h; rfl)
  have eb : (a == 0 && (b == 0 && (c == 0 && (d == 0 && true)))) = false := by
   rw [Bool.eq_false_iff]; simpa using hn'
  simp only [go_sem, hF, wD_eq, intsEq, eb]
  refine hr.pd ⟨.same (.agg (W_bl [a, b, c, d])), trivial⟩ (Re.d_bl _) ?_
  simp only [go_sem]
  refine ⟨by simp at hg hg2; omega, ?_⟩
  refine (rSort (nocls F ++ [C]) (by omega)).callF (fun k => k == 4) ⟨frzN (by simp) rfl, trivial⟩ (Res_bl' _) ?_
  have ef : frzL (fun k => k == 4) [zOb, reOb F, wOb [a, b, c, d], .dead, .slc 27 6 ((nocls F).map Re.c ++ [C.c])] = [zOb, reOb F, wOb [a, b, c, d], .dead, .frz 6 ((nocls F).map Re.c ++ [C.c])] := rfl
  simp only [go_sem, ef]
  have ho := onceR_len (sortR (nocls F ++ [C]))
  rw [sortR_len] at ho
  refine (rOnce (sortR (nocls F ++ [C])) (by rw [sortR_len]; omega)).pd (by simp) (by simp) ?_
  simp only [go_sem]
  refine (rFold 5 (onceR (sortR (nocls F ++ [C]))) (by omega)).pd ⟨.v, by simp, trivial⟩ (Re.d_bl _) ?_
  simp only [go_sem, Re.put0]
  exact finR rfl
end Go.Proofs.YtlejbkfefpfolaaGreatDoor.W
set_option maxRecDepth 100000
namespace Go.Proofs.YtlejbkfefpfolaaGreatDoor.W
open Go Go.Proofs Go.Proofs.YtlejbkfefpfolaaGreatDoor.AWP
attribute [local irreducible] xl hide aop aops aopQ qops guardP condP
theorem nrm2 {x y : Re} (hx : x.nodesOk = true) (hy : y.nodesOk = true) : ∀ z ∈ [x.nrm, y.nrm], z.nodesOk = true := by
 simp [nrm_ok x hx, nrm_ok y hy]
theorem nNorm (r : Re) : r.nodesOk = true → r.sz ≤ 5000 → AP Tryz.prog 58 [.agg r.c] (.agg r.nrm.c) := by
 intro hok
 refine Re.indOk (p := fun r => r.sz ≤ 5000 → AP Tryz.prog 58 [.agg r.c] (.agg r.nrm.c)) ?_ ?_ ?_ ?_ r hok
 ·intro k hk hs
  rw [nrm_leaf]
  refine AC.lbody hT hm Tryz.func58 f58_nm f58_lc f58_res f58_nt ?_
  rcases hk with rfl | rfl
  all_goals
   simp only [go_sem, Int.reduceEq, Int.reduceLE, Int.reduceLT, Int.reduceToNat, Re.c_mk, Int.reduceBEq, Re.put0]
   first | exact finR rfl | exact Fin.ret (.eq (by simp [Re.c_mk, Re.cs_eq]) (by simp))
 ·intro a b c d hn hs
  rw [nrm_leaf]
  refine AC.lbody hT hm Tryz.func58 f58_nm f58_lc f58_res f58_nt ?_
  simp only [go_sem, Int.reduceEq, Int.reduceLE, Int.reduceLT, Int.reduceToNat, Re.c_mk, Int.reduceBEq, Re.put0]
  first | exact finR rfl | exact Fin.ret (.eq (by simp [Re.c_mk, Re.cs_eq]) (by simp))
 ·intro k x y hk hx hy ihx ihy hs
  rw [sz_two] at hs
  rw [nrm_two _ _ _ hk]
  have h1 := ihx (by omega)
  have h2 := ihy (by omega)
  have z1 := nrm_sz x hx
  have z2 := nrm_sz y hy
  refine AC.lbody hT hm Tryz.func58 f58_nm f58_lc f58_res f58_nt ?_
  rcases hk with rfl | rfl
  ·simp only [go_sem, Int.reduceEq, Int.reduceLE, Int.reduceLT, Int.reduceToNat, Re.c_mk, Int.reduceBEq]
   refine h1.qd ⟨.same (Re.d_bl _), trivial⟩ (Re.d_bl _) ?_
   simp only [go_sem, Int.reduceEq, Int.reduceLE, Int.reduceLT, Int.reduceToNat]
   refine h2.pd ⟨.same (Re.d_bl _), trivial⟩ (Re.d_bl _) ?_
   simp only [go_sem, Int.reduceEq, Int.reduceLE, Int.reduceLT, Int.reduceToNat]
   refine (nSeq x.nrm (nrm_ok x hx) y.nrm).pd ⟨.same (Re.d_bl _), .same (Re.d_bl _), trivial⟩ (Re.d_bl _) ?_
   simp only [go_sem, Int.reduceEq, Int.reduceLE, Int.reduceLT, Int.reduceToNat, Re.put0]
   first | exact finR rfl | exact Fin.ret (.eq (by simp [Re.c_mk, Re.cs_eq]) (by simp))
  ·have h3 := nAlt [x.nrm, y.nrm] (by rw [Re.szs, Re.szs, Re.szs]; omega) (nrm2 hx hy)
   simp only [go_sem, Int.reduceEq, Int.reduceLE, Int.reduceLT, Int.reduceToNat, Re.c_mk, Int.reduceBEq]
   refine h1.qd ⟨.same (Re.d_bl _), trivial⟩ (Re.d_bl _) ?_
   simp only [go_sem, Int.reduceEq, Int.reduceLE, Int.reduceLT, Int.reduceToNat]
   refine h2.pd ⟨.same (Re.d_bl _), trivial⟩ (Re.d_bl _) ?_
   simp only [go_sem, Int.reduceEq, Int.reduceLE, Int.reduceLT, Int.reduceToNat]
   refine h3.pd ⟨.same (Res_bl' [x.nrm, y.nrm]), trivial⟩ (Re.d_bl _) ?_
   simp only [go_sem, Int.reduceEq, Int.reduceLE, Int.reduceLT, Int.reduceToNat, Re.put0]
   first | exact finR rfl | exact Fin.ret (.eq (by simp [Re.c_mk, Re.cs_eq]) (by simp))
 ·intro x hx ih hs
  rw [sz_one] at hs
  have h1 := ih (by omega)
  rw [nrm_star]
  refine AC.lbody hT hm Tryz.func58 f58_nm f58_lc f58_res f58_nt ?_
  simp only [go_sem, Int.reduceEq, Int.reduceLE, Int.reduceLT, Int.reduceToNat, Re.c_mk, Int.reduceBEq]
  refine h1.pd ⟨.same (Re.d_bl _), trivial⟩ (Re.d_bl _) ?_
  simp only [go_sem, Int.reduceEq, Int.reduceLE, Int.reduceLT, Int.reduceToNat]
  refine (nStar x.nrm).pd ⟨.same (Re.d_bl _), trivial⟩ (Re.d_bl _) ?_
  simp only [go_sem, Int.reduceEq, Int.reduceLE, Int.reduceLT, Int.reduceToNat, Re.put0]
  first | exact finR rfl | exact Fin.ret (.eq (by simp [Re.c_mk, Re.cs_eq]) (by simp))
theorem rNorm (r : Re) : r.nodesOk = true → r.sz ≤ 5000 → r.wd → AP Tryz.prog 35 [.agg r.c] (.agg r.nrm.c) := by
 intro hok
 refine Re.indOk (p := fun r => r.sz ≤ 5000 → r.wd → AP Tryz.prog 35 [.agg r.c] (.agg r.nrm.c)) ?_ ?_ ?_ ?_ r hok
 ·intro k hk hs hw
  rw [nrm_leaf]
  refine AC.lbody hT hm Tryz.func35 f35_nm f35_lc f35_res f35_nt ?_
  rcases hk with rfl | rfl
  all_goals
   simp only [go_sem, Int.reduceEq, Int.reduceLE, Int.reduceLT, Int.reduceToNat, Re.c_mk, Int.reduceBEq, Re.put0]
   first | exact finR rfl | exact Fin.ret (.eq (by simp [Re.c_mk, Re.cs_eq]) (by simp))
 ·intro a b c d hn hs hw
  rw [nrm_leaf]
  refine AC.lbody hT hm Tryz.func35 f35_nm f35_lc f35_res f35_nt ?_
  simp only [go_sem, Int.reduceEq, Int.reduceLE, Int.reduceLT, Int.reduceToNat, Re.c_mk, Int.reduceBEq, Re.put0]
  first | exact finR rfl | exact Fin.ret (.eq (by simp [Re.c_mk, Re.cs_eq]) (by simp))
 ·intro k x y hk hx hy ihx ihy hs hw
  rw [sz_two] at hs
  rw [nrm_two _ _ _ hk]
  have hw2 : x.wd ∧ y.wd := by rw [Re.wd, Re.wds, Re.wds] at hw; exact ⟨hw.2.1, hw.2.2.1⟩
  have h1 := ihx (by omega) hw2.1
  have h2 := ihy (by omega) hw2.2
  have z1 := nrm_sz x hx
  have z2 := nrm_sz y hy
  refine AC.lbody hT hm Tryz.func35 f35_nm f35_lc f35_res f35_nt ?_
  rcases hk with rfl | rfl
  ·simp only [go_sem, Int.reduceEq, Int.reduceLE, Int.reduceLT, Int.reduceToNat, Re.c_mk, Int.reduceBEq]
   refine h1.qd ⟨.same (Re.d_bl _), trivial⟩ (Re.d_bl _) ?_
   simp only [go_sem, Int.reduceEq, Int.reduceLE, Int.reduceLT, Int.reduceToNat]
   refine h2.pd ⟨.same (Re.d_bl _), trivial⟩ (Re.d_bl _) ?_
   simp only [go_sem, Int.reduceEq, Int.reduceLE, Int.reduceLT, Int.reduceToNat]
   refine (rSeq x.nrm (nrm_ok x hx) y.nrm).pd ⟨.same (Re.d_bl _), .same (Re.d_bl _), trivial⟩ (Re.d_bl _) ?_
   simp only [go_sem, Int.reduceEq, Int.reduceLE, Int.reduceLT, Int.reduceToNat, Re.put0]
   first | exact finR rfl | exact Fin.ret (.eq (by simp [Re.c_mk, Re.cs_eq]) (by simp))
  ·have h3 := rAlt [x.nrm, y.nrm] (by rw [Re.szs, Re.szs, Re.szs]; omega) (nrm2 hx hy) (by simp [nrm_wd x hx hw2.1, nrm_wd y hy hw2.2])
   simp only [go_sem, Int.reduceEq, Int.reduceLE, Int.reduceLT, Int.reduceToNat, Re.c_mk, Int.reduceBEq]
   refine h1.qd ⟨.same (Re.d_bl _), trivial⟩ (Re.d_bl _) ?_
   simp only [go_sem, Int.reduceEq, Int.reduceLE, Int.reduceLT, Int.reduceToNat]
   refine h2.pd ⟨.same (Re.d_bl _), trivial⟩ (Re.d_bl _) ?_
   simp only [go_sem, Int.reduceEq, Int.reduceLE, Int.reduceLT, Int.reduceToNat]
   refine h3.pd ⟨.same (Res_bl' [x.nrm, y.nrm]), trivial⟩ (Re.d_bl _) ?_
   simp only [go_sem, Int.reduceEq, Int.reduceLE, Int.reduceLT, Int.reduceToNat, Re.put0]
   first | exact finR rfl | exact Fin.ret (.eq (by simp [Re.c_mk, Re.cs_eq]) (by simp))
 ·intro x hx ih hs hw
  rw [sz_one] at hs
  have hw2 : x.wd := by rw [Re.wd, Re.wds] at hw; exact hw.2.1
  have h1 := ih (by omega) hw2
  rw [nrm_star]
  refine AC.lbody hT hm Tryz.func35 f35_nm f35_lc f35_res f35_nt ?_
  simp only [go_sem, Int.reduceEq, Int.reduceLE, Int.reduceLT, Int.reduceToNat, Re.c_mk, Int.reduceBEq]
  refine h1.pd ⟨.same (Re.d_bl _), trivial⟩ (Re.d_bl _) ?_
  simp only [go_sem, Int.reduceEq, Int.reduceLE, Int.reduceLT, Int.reduceToNat]
  refine (rStar x.nrm).pd ⟨.same (Re.d_bl _), trivial⟩ (Re.d_bl _) ?_
  simp only [go_sem, Int.reduceEq, Int.reduceLE, Int.reduceLT, Int.reduceToNat, Re.put0]
  first | exact finR rfl | exact Fin.ret (.eq (by simp [Re.c_mk, Re.cs_eq]) (by simp))
end Go.Proofs.YtlejbkfefpfolaaGreatDoor.W
set_option maxRecDepth 100000
namespace Go.Proofs.YtlejbkfefpfolaaGreatDoor.W
open Go Go.Proofs Go.Proofs.YtlejbkfefpfolaaGreatDoor.AWP
attribute [local irreducible] xl hide aop aops aopQ qops guardP condP
def nrmZ (r : Re) : Re := if mayB r = true then r.nrm else .mk 0 0 0 0 0 []
theorem nNormZ (r : Re) (hz : r.sz ≤ 1048576) : AP Tryz.prog 33 [.agg r.c] (.agg (nrmZ r).c) := by
 have hmy := may r (by omega)
 unfold nrmZ
 refine AC.lbody hT hm Tryz.func33 f33_nm f33_lc f33_res f33_nt ?_
 simp only [go_sem, Int.reduceEq, Int.reduceLE, Int.reduceLT, Int.reduceToNat]
 refine hmy.pv ⟨.same (Res_bl' [r]), trivial⟩ ?_
 rcases mayCase r with h | h
 ·simp only [go_sem, Int.reduceEq, Int.reduceLE, Int.reduceLT, Int.reduceToNat, h, Re.put0]
  exact Fin.ret (.aggL (by simp [CvL, Re.c_mk, Re.cs_eq]))
 ·obtain ⟨h1, h2⟩ := mayZ h
  simp only [go_sem, Int.reduceEq, Int.reduceLE, Int.reduceLT, Int.reduceToNat, h]
  refine (nNorm r h1 (by omega)).pd ⟨.same (Re.d_bl _), trivial⟩ (Re.d_bl _) ?_
  simp only [go_sem, Int.reduceEq, Int.reduceLE, Int.reduceLT, Int.reduceToNat, Re.put0]
  exact finR (by simp)
theorem rNormZ (r : Re) (hz : r.sz ≤ 1048576) (hw : r.wd) : AP Tryz.prog 34 [.agg r.c] (.agg (nrmZ r).c) := by
 have hmy := rMay r (by omega)
 unfold nrmZ
 refine AC.lbody hT hm Tryz.func34 f34_nm f34_lc f34_res f34_nt ?_
 simp only [go_sem, Int.reduceEq, Int.reduceLE, Int.reduceLT, Int.reduceToNat]
 refine hmy.pv (by simp) ?_
 rcases mayCase r with h | h
 ·simp only [go_sem, Int.reduceEq, Int.reduceLE, Int.reduceLT, Int.reduceToNat, h, Re.put0]
  exact Fin.ret (.aggL (by simp [CvL, Re.c_mk, Re.cs_eq]))
 ·obtain ⟨h1, h2⟩ := mayZ h
  simp only [go_sem, Int.reduceEq, Int.reduceLE, Int.reduceLT, Int.reduceToNat, h]
  refine (rNorm r h1 (by omega) hw).pd ⟨.same (Re.d_bl _), trivial⟩ (Re.d_bl _) ?_
  simp only [go_sem, Int.reduceEq, Int.reduceLE, Int.reduceLT, Int.reduceToNat, Re.put0]
  exact finR (by simp)
end Go.Proofs.YtlejbkfefpfolaaGreatDoor.W
