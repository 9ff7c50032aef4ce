/- The reader: a whole text; what is thrown is caught. -/
import Derived.Test.YtlejbkfefpfolaaGreatDoorWalkA
import Derived.Test.YtlejbkfefpfolaaGreatDoorMath
import Derived.Laws.StandIn
import Derived.Test.YtlejbkfefpfolaaGreatDoorAwpV
set_option linter.unusedVariables false
set_option linter.unusedSimpArgs false
set_option linter.unusedSectionVars false
set_option maxRecDepth 100000
namespace Go.Proofs.YtlejbkfefpfolaaGreatDoor.W
open Go Go.Proofs Go.Proofs.YtlejbkfefpfolaaGreatDoor.AWP
theorem ixX (s : ByteArray) (c : Int) (w : World) : (callFunc 135 #[.string s, .int .u8 c]).run Tryz.prog w = .ok (.value (.int .i64 (firstIdx s c.toNat.toUInt8))) w := by
 rw [run_callFunc_indexByte Tryz.func135 (by kernel_rfl) (by kernel_rfl) (by kernel_rfl) (by kernel_rfl)]
 rw [run_indexByte_string]
 rfl
theorem ix0 (s : ByteArray) (c : Int) (w : World) : Calls Tryz.prog 121 #[.string s, .int .u8 c] w fun e w' => e = .returned (.int .i64 (firstIdx s c.toNat.toUInt8)) ∧ w' = w := by
 refine calls_of_wp Tryz.func121 rfl ?_
 refine wp_seq (wp_region ?_)
 simp [wpOps, Region.wanted, Oper.wp, execOp, Oper.upon, Tryz.ntmps121, Act.eval, Act.put, Exit.then]
 refine .inl (wp_seq (wp_region ?_))
 simp [wpOps, Region.wanted, Oper.wp, execOp, Oper.upon, Act.eval, Act.put, Exit.then, resolve, Deferred.ofValue, invoke, ixX, List.range_succ, Array.replicate_succ]
 exact .inl (.inl (.inl (.inl (wp_ret ⟨rfl, _, results_tmp rfl _ _ _, rfl, rfl⟩))))
theorem _root_.Go.Proofs.YtlejbkfefpfolaaGreatDoor.AWP.AO.of_calls {P : Program} {f : FuncId} {vs : List Value} {x : Value} (hok : callOk P f = true) (h : ∀ w, Calls P f vs.toArray w fun e w' => e = .returned x ∧ w' = w) : AP P f (vs.map .v) (.v x) := by
 refine ⟨hok, fun E us hR hA => ?_⟩
 have e : us = vs.toArray := by
  refine Array.ext (by simpa using hA.1) fun j h1 h2 => ?_
  have hj : j < vs.length := by simpa using h2
  have := (hA.2 j (.v vs[j]) (by simp [hj])).v_inv
  simpa [Array.getD, h1] using this
 subst e
 refine (h E.w).mono ?_
 rintro e w' ⟨rfl, rfl⟩
 exact ⟨E, _, _, ⟨rfl, rfl⟩, rfl, Ext.refl _ _, hR, .v _⟩
theorem ix1 (s : ByteArray) (c : UInt8) : AP Tryz.prog 121 [.v (.string s), .v (.int .u8 c.toNat)] (.i (firstIdx s c)) := by
 have := AO.of_calls (P := Tryz.prog) (f := 121) (vs := [.string s, .int .u8 c.toNat]) rfl (fun w => ix0 s c.toNat w)
 have e : (c.toNat : Int).toNat.toUInt8 = c := by simp
 rw [e] at this
 exact this
theorem ix (s : ByteArray) (c : UInt8) : AP Tryz.prog 109 [.v (.string s), .v (.int .u8 c.toNat)] (.i (firstIdx s c)) := by
 refine AC.lbody hT hm Tryz.func109 f109_nm f109_lc f109_res f109_nt ?_
 simp only [go_sem]
 refine (ix1 s c).pv (by simp) ?_
 simp only [go_sem]
 exact Fin.v rfl
end Go.Proofs.YtlejbkfefpfolaaGreatDoor.W
set_option maxRecDepth 100000
namespace Go.Proofs.YtlejbkfefpfolaaGreatDoor.W
open Go Go.Proofs Go.Proofs.YtlejbkfefpfolaaGreatDoor.AWP
theorem digitN (b : UInt8) : AP Tryz.prog 122 [.y b] (.y (hexD b.toNat)) := by
 refine AC.lbody hT hm Tryz.func122 f122_nm f122_lc f122_res f122_nt ?_
 simp only [go_sem, and15]
 have e : hexS.data[b.toNat % 16]? = some (hexD b.toNat) := hexD_get _
 unfold hexS at e
 simp only [go_sem, e]
 exact Fin.v rfl
abbrev byOb (l : List UInt8) : Ob := .slc 5 1 (byteRows l)
theorem mvB {l : List UInt8} {k : Nat} {om : List Ob} {F : Nat → Bool} (h : om[k]? = some (byOb l)) : MvL om F [some k] [some k] [byOb l] := ⟨.slcS h (by simp), trivial⟩
theorem hexN (l : List UInt8) (hl : l.length ≤ 1000) : AP Tryz.prog 112 [Bys l] (.s ⟨(hexL l).toArray⟩) := by
 refine AC.lbody hT hm Tryz.func112 f112_nm f112_lc f112_res f112_nt ?_
 simp only [go_sem]
 have e1 : IntKind.i64.wrap (2 * (l.length : Int)) = ((2 * l.length : Nat) : Int) := by rw [wrap_int _ (by omega) (by omega)]; simp
 simp only [go_sem, e1]
 refine ⟨by omega, by omega, by omega, ?_⟩
 refine xl_loopM hT hm (fun i : Nat => ⟨f112_i7 (.own 0) (Bys l) (.i l.length) (.i i), [byOb (hexL (l.take i))]⟩)
  (fun i => i ≤ l.length) (fun i => l.length - i) 0 (Nat.zero_le _) (Mv.of [some 0] rfl (mvB rfl) (by simp [f112_i7])) ?_
 intro i hi
 have hlen := hexL_len (l.take i)
 simp at hlen
 simp only [go_sem]
 by_cases h : i < l.length
 case neg =>
  simp only [go_sem, h, bytesOfRows_of]
  rw [List.take_of_length_le (by omega)]
  exact Fin.v rfl
 obtain ⟨b, hb⟩ := get_ex h
 simp only [go_sem, h, byteRows_get hb, Int.reduceLE, pow4, shr4]
 refine (digitN (UInt8.ofNat (b.toNat / 16))).pv (by simp) ?_
 simp only [go_sem]
 refine (digitN b).pv (by simp) ?_
 simp only [go_sem]
 refine ⟨by omega, i + 1, h, by omega, ?_⟩
 rw [wrap_succ i (by omega), hexL_take hb]
 have e : (UInt8.ofNat (b.toNat / 16)).toNat = b.toNat / 16 := by rw [UInt8.toNat_ofNat']; have := b.toNat_lt; omega
 exact Mv.of [some 1] rfl (mvB (by simp [byteRows, hexB, e])) (by simp)
theorem signN (b : UInt8) : AP Tryz.prog 92 [.y b] (.s ⟨(signB b).toArray⟩) := by
 refine AC.lbody hT hm Tryz.func92 f92_nm f92_lc f92_res f92_nt ?_
 simp only [go_sem]
 have bare : (b.toNat : Int) < 33 ∨ 126 < (b.toNat : Int) ∨ 0 ≤ firstIdx spec1 b → signB b = 92 :: hexB b := by
  intro h
  unfold signB plain
  rw [if_neg]
  simp only [Bool.not_eq_true', Bool.or_eq_false_iff, decide_eq_false_iff_not, not_and]
  omega
 have e92 : (⟨#[92]⟩ : ByteArray) = ⟨([92] : List UInt8).toArray⟩ := rfl
 have hs : (⟨([92] : List UInt8).toArray⟩ : ByteArray).size + (⟨(hexL [b]).toArray⟩ : ByteArray).size ≤ 9223372036854775807 := by rw [ba_size, ba_size, hexL_len]; simp
 have hb : hexL [b] = hexB b := by simp [hexL]
 have fin : signB b = 92 :: hexB b → (⟨([92] : List UInt8).toArray⟩ : ByteArray) ++ ⟨(hexL [b]).toArray⟩ = ⟨(signB b).toArray⟩ := by
  intro h
  rw [ba_app, h, hb]; rfl
 by_cases h1 : (b.toNat : Int) < 33
 ·simp only [go_sem, h1]
  refine (hexN [b] (by simp)).pv ⟨.eq rfl (by simp), trivial⟩ ?_
  simp only [go_sem, e92, hs]
  exact Fin.v (by rw [fin (bare (.inl h1))])
 by_cases h2 : 126 < (b.toNat : Int)
 ·simp only [go_sem, h1, h2]
  refine (hexN [b] (by simp)).pv ⟨.eq rfl (by simp), trivial⟩ ?_
  simp only [go_sem, e92, hs]
  exact Fin.v (by rw [fin (bare (.inr (.inl h2)))])
 simp only [go_sem, h1, h2]
 refine (ix spec1 b).pv ⟨.eq rfl (by simp), .v, trivial⟩ ?_
 by_cases h3 : 0 ≤ firstIdx spec1 b
 ·simp only [go_sem, h3]
  refine (hexN [b] (by simp)).pv ⟨.eq rfl (by simp), trivial⟩ ?_
  simp only [go_sem, e92, hs]
  exact Fin.v (by rw [fin (bare (.inr (.inr h3)))])
 ·have e1 : bytesOfRows [[.v (.int .u8 b.toNat)]] = some [b] := bytesOfRows_of [b]
  simp only [go_sem, h3, e1]
  refine Fin.v ?_
  have : plain b = true := by
   unfold plain
   simp only [Bool.not_eq_true', Bool.or_eq_false_iff, decide_eq_false_iff_not]
   omega
  rw [signB, if_pos this]
end Go.Proofs.YtlejbkfefpfolaaGreatDoor.W
set_option maxRecDepth 100000
namespace Go.Proofs.YtlejbkfefpfolaaGreatDoor.W
open Go Go.Proofs Go.Proofs.YtlejbkfefpfolaaGreatDoor.AWP
abbrev wOb (ws : List Int) : Ob := .var 24 (ws.map wD)
theorem mvW {a b : List Int} {om : List Ob} {F : Nat → Bool} (h : om[0]? = some (wOb a)) (h' : om[1]? = some (wOb b)) : MvL om F [some 0, some 1] [some 0, some 1] [wOb a, wOb b] :=
 ⟨.varS h (by intro d hd; simp [wD] at hd; obtain ⟨_, _, rfl⟩ := hd; exact .v _), .varS h' (by intro d hd; simp [wD] at hd; obtain ⟨_, _, rfl⟩ := hd; exact .v _), trivial⟩
theorem W_bl (ws : List Int) : ∀ d ∈ ws.map wD, Bl 0 d := by intro d hd; simp [wD] at hd; obtain ⟨_, _, rfl⟩ := hd; exact .v _
theorem setOf (l : List UInt8) (hl : l.length ≤ 1000) : AP Tryz.prog 133 [Bys l] (Ws (ofS l)) := by
 refine AC.lbody hT hm Tryz.func133 f133_nm f133_lc f133_res f133_nt ?_
 simp only [go_sem]
 refine xl_loopM hT hm (fun i : Nat => ⟨f133_i7 (.ref 0 0) (.ref 1 0) (Bys l) (.i l.length) (.i i), [wOb noneS, wOb (ofS (l.take i))]⟩)
  (fun i => i ≤ l.length) (fun i => l.length - i) 0 (Nat.zero_le _) (Mv.of [some 0, some 1] rfl (mvW rfl rfl) (by simp [f133_i7])) ?_
 intro i hi
 simp only [go_sem]
 by_cases h : i < l.length
 case neg =>
  simp only [go_sem, h]
  rw [List.take_of_length_le (by omega)]
  have h4 := ofS_len l
  have p0 := W_put (ty := 24) (a := noneS) rfl h4
  simp only [go_sem, Int.reduceEq, Int.reduceLE, Int.reduceLT, Int.reduceToNat, h4, W_take h4, p0, W_drop0]
  exact Fin.ret (Cv.same (.agg (W_bl _)))
 obtain ⟨b, hb⟩ := get_ex h
 have h4 := ofS_len (l.take i)
 have e := ofS_take hb
 generalize ofS (l.take i) = ws at h4 e
 simp only [go_sem, Int.reduceEq, Int.reduceLE, Int.reduceLT, Int.reduceToNat, h, byteRows_get hb, q64, r64, lt4]
 have hq : b.toNat / 64 < ws.length := by rw [h4]; exact lt4 b
 have hw := ws_get hq
 simp only [go_sem, Int.reduceEq, Int.reduceLE, Int.reduceLT, Int.reduceToNat, hw, hq, wD_eq, q64, r64, lt4]
 rw [wrap_succ i (by omega)]
 refine ⟨i + 1, h, by omega, ?_⟩
 rw [e]
 exact Mv.of [some 0, some 1] rfl (mvW rfl (by simp [setBit, bit, wD])) (by simp)
theorem byteNat {n : Nat} (h : n < 256) : ((UInt8.ofNat n).toNat : Nat) = n := by rw [UInt8.toNat_ofNat']; omega
theorem setRange (lo hi : UInt8) : AP Tryz.prog 130 [.y lo, .y hi] (Ws (rangeS lo.toNat (hi.toNat + 1 - lo.toNat))) := by
 have hlo := lo.toNat_lt
 have hhi := hi.toNat_lt
 refine AC.lbody hT hm Tryz.func130 f130_nm f130_lc f130_res f130_nt ?_
 simp only [go_sem, Int.reduceEq, Int.reduceLE, Int.reduceLT, Int.reduceToNat]
 refine xl_loopM hT hm (fun i : Nat => ⟨f130_i6 (.y hi) (.ref 0 0) (.ref 1 0) (.i (lo.toNat + i : Nat)), [wOb noneS, wOb (rangeS lo.toNat i)]⟩)
  (fun i => i ≤ hi.toNat + 1 - lo.toNat) (fun i => 256 - i) 0 (Nat.zero_le _) ?_ ?_
 ·rw [wrap_nat _ (by omega)]
  exact Mv.of [some 0, some 1] rfl (mvW rfl rfl) (by simp [f130_i6])
 intro i hle
 simp only [go_sem, Int.reduceEq, Int.reduceLE, Int.reduceLT, Int.reduceToNat]
 rw [wrap_nat _ (by omega)]
 by_cases h : lo.toNat + i ≤ hi.toNat
 case neg =>
  have hn : hi.toNat + 1 - lo.toNat = i := by omega
  have h4 := rangeS_len lo.toNat i
  have p0 := W_put (ty := 24) (a := noneS) rfl h4
  simp only [go_sem, Int.reduceEq, Int.reduceLE, Int.reduceLT, Int.reduceToNat, h, h4, W_take h4, p0, W_drop0]
  rw [hn]
  exact Fin.ret (Cv.same (.agg (W_bl _)))
 have h4 := rangeS_len lo.toNat i
 have e : rangeS lo.toNat (i + 1) = setBit (rangeS lo.toNat i) (lo.toNat + i) := rfl
 generalize rangeS lo.toNat i = ws at h4 e
 have hb : lo.toNat + i = (UInt8.ofNat (lo.toNat + i)).toNat := (byteNat (by omega)).symm
 generalize UInt8.ofNat (lo.toNat + i) = b at hb
 rw [hb] at h e ⊢
 have hq : b.toNat / 64 < ws.length := by rw [h4]; exact lt4 b
 have hw := ws_get hq
 simp only [go_sem, Int.reduceEq, Int.reduceLE, Int.reduceLT, Int.reduceToNat, h, hw, hq, wD_eq, q64i, r64, lt4]
 rw [wrap_succ _ (by omega)]
 refine ⟨i + 1, by omega, by omega, ?_⟩
 rw [e, ← Nat.add_assoc, hb]
 exact Mv.of [some 0, some 1] rfl (mvW rfl (by simp [setBit, bit, wD])) (by simp)
end Go.Proofs.YtlejbkfefpfolaaGreatDoor.W
set_option maxRecDepth 100000
namespace Go.Proofs.YtlejbkfefpfolaaGreatDoor.W
open Go Go.Proofs Go.Proofs.YtlejbkfefpfolaaGreatDoor.AWP
theorem mvW3 {a b c : List Int} {om : List Ob} {F : Nat → Bool} (h : om[0]? = some (wOb a)) (h' : om[1]? = some (wOb b)) {k : Nat} (h2 : om[k]? = some (wOb c)) : MvL om F [some 0, some 1, some k] [some 0, some 1, some k] [wOb a, wOb b, wOb c] :=
 ⟨.varS h (W_bl _), .varS h' (W_bl _), .varS h2 (W_bl _), trivial⟩
theorem setJoin (l : List (List Int)) (hl : l.length ≤ 1000) (hw : ∀ x ∈ l, x.length = 4) : AP Tryz.prog 97 [Wss l] (Ws (joinAll l)) := by
 refine AC.lbody hT hm Tryz.func97 f97_nm f97_lc f97_res f97_nt ?_
 simp only [go_sem, Int.reduceEq, Int.reduceLE, Int.reduceLT, Int.reduceToNat]
 refine xl_loopM hT hm (fun i : Nat => ⟨f97_i12 (.ref 0 0) (.ref 1 0) (Wss l) (.i l.length) (.i i), [wOb noneS, wOb (joinAll (l.take i))]⟩)
  (fun i => i ≤ l.length) (fun i => l.length - i) 0 (Nat.zero_le _) (Mv.of [some 0, some 1] rfl (mvW rfl rfl) (by simp [f97_i12, wD])) ?_
 intro i hi
 simp only [go_sem, Int.reduceEq, Int.reduceLE, Int.reduceLT, Int.reduceToNat]
 have h4 : (joinAll (l.take i)).length = 4 := joinAll_len fun x hx => hw x (List.mem_of_mem_take hx)
 by_cases h : i < l.length
 case neg =>
  have ht : l.take i = l := List.take_of_length_le (by omega)
  rw [ht] at h4
  have p0 := W_put (ty := 24) (a := noneS) rfl h4
  simp only [go_sem, Int.reduceEq, Int.reduceLE, Int.reduceLT, Int.reduceToNat, h, ht, h4, W_take h4, p0, W_drop0]
  exact Fin.ret (Cv.same (.agg (W_bl _)))
 obtain ⟨x, hx⟩ := get_ex h
 have hx4 := hw x (List.mem_of_getElem? hx)
 have e := joinAll_take hx
 generalize joinAll (l.take i) = ws at h4 e
 have p1 := W_put (ty := 24) (a := noneS) rfl hx4
 simp only [go_sem, Int.reduceEq, Int.reduceLE, Int.reduceLT, Int.reduceToNat, h, hx, hx4, W_take hx4, p1, W_drop0]
 refine xl_loopM hT hm (fun k : Nat => ⟨f97_i10 (.ref 0 0) (.ref 1 0) (.ref 2 0) (Wss l) (.i l.length) (.i i) (.i k), [wOb noneS, wOb (jn ws x k), wOb x]⟩)
  (fun k => k ≤ 4) (fun k => 4 - k) 0 (Nat.zero_le _) (Mv.of [some 0, some 1, some 2] rfl (mvW3 rfl (by simp [jn]) rfl) (by simp [f97_i10])) ?_
 intro k hk
 have hj := jn_len h4 hx4 hk
 by_cases hk4 : k < 4
 case neg =>
  have ek : k = 4 := by omega
  subst ek
  have ej := jn_end h4 hx4
  have hf : decide (((4 : Nat) : Int) < 4) = false := rfl
  simp only [go_sem, Int.reduceEq, Int.reduceLE, Int.reduceLT, Int.reduceToNat]
  simp only [go_sem, Int.reduceEq, Int.reduceLE, Int.reduceLT, Int.reduceToNat, hf]
  rw [wrap_succ i (by omega)]
  refine ⟨i + 1, h, by omega, ?_⟩
  rw [e, ← ej]
  exact Mv.of [some 0, some 1] rfl (mvW rfl rfl) (by simp)
 have ht : decide ((k : Int) < 4) = true := by simp; omega
 have hs := jn_step h4 hx4 hk4
 generalize jn ws x k = cur at hj hs
 have hc : k < cur.length := by omega
 have hw1 := ws_get hc
 have hw2 := ws_get (ws := x) (i := k) (by omega)
 simp only [go_sem, Int.reduceEq, Int.reduceLE, Int.reduceLT, Int.reduceToNat]
 simp only [go_sem, Int.reduceEq, Int.reduceLE, Int.reduceLT, Int.reduceToNat, ht, hw1, hw2, hk4, hc, wD_eq]
 rw [wrap_succ k (by omega)]
 refine ⟨k + 1, by omega, by omega, ?_⟩
 rw [← hs]
 exact Mv.of [some 0, some 1, some 2] rfl (mvW3 rfl (by simp [wD]) rfl) (by simp)
theorem rexOf (ws : List Int) (h4 : ws.length = 4) : AP Tryz.prog 98 [Ws ws] (.agg (reS ws).c) := by
 obtain ⟨a, b, c, d, rfl⟩ := four h4
 refine AC.lbody hT hm Tryz.func98 f98_nm f98_lc f98_res f98_nt ?_
 simp only [go_sem, Int.reduceEq, Int.reduceLE, Int.reduceLT, Int.reduceToNat, wD_eq, intsEq]
 by_cases h : a = 0 ∧ b = 0 ∧ c = 0 ∧ d = 0
 ·have e : (a == 0 && (b == 0 && (c == 0 && (d == 0 && true)))) = true := by simpa using h
  simp only [go_sem, Int.reduceEq, Int.reduceLE, Int.reduceLT, Int.reduceToNat, e]
  obtain ⟨rfl, rfl, rfl, rfl⟩ := h
  refine Fin.ret ?_
  have e3 : reS [0, 0, 0, 0] = .mk 1 0 0 0 0 [] := if_pos rfl
  rw [e3]
  exact .aggL (by simp [CvL, Re.c_mk, Re.cs_eq])
 ·have e : (a == 0 && (b == 0 && (c == 0 && (d == 0 && true)))) = false := by
   rw [Bool.eq_false_iff]; simpa using h
  simp only [go_sem, Int.reduceEq, Int.reduceLE, Int.reduceLT, Int.reduceToNat, e]
  refine Fin.ret ?_
  have e3 : reS [a, b, c, d] = .mk 3 a b c d [] := if_neg (by unfold noneS; simpa using h)
  rw [e3]
  exact .aggL (by simp [CvL, Re.c_mk, Re.cs_eq])
theorem rexMany (x : Re) : AP Tryz.prog 101 [.agg x.c] (.agg (Re.mk 6 0 0 0 0 [x]).c) := by
 refine AC.lbody hT hm Tryz.func101 f101_nm f101_lc f101_res f101_nt ?_
 simp only [go_sem, Int.reduceEq, Int.reduceLE, Int.reduceLT, Int.reduceToNat]
 refine Fin.ret (.aggL ?_)
 simp [CvL, Re.c_mk, Re.cs_eq]
end Go.Proofs.YtlejbkfefpfolaaGreatDoor.W
set_option maxRecDepth 100000
namespace Go.Proofs.YtlejbkfefpfolaaGreatDoor.W
open Go Go.Proofs Go.Proofs.YtlejbkfefpfolaaGreatDoor.AWP
abbrev BWD : Nat := 113
theorem backward (l : List Re) : AP Tryz.prog 93 [Res l] (.fn BWD [.pel [Res l]]) := by
 refine AC.lbody hT hm Tryz.func93 f93_nm f93_lc f93_res f93_nt ?_
 simp only [go_sem]
 exact Fin.ret (Cv.same (by simp))
abbrev foldE (kind none : Int) (m : List Re) (x : Re) : List D :=
 [.v (.int .u8 kind), .v (.int .u8 none), Res (m ++ [x]), .pel [.v (.int .u8 kind)], .any, .any, .ref 0 0, .ref 1 0, .any, .any, Res (m ++ [x]),
  .i ((m.length + 1 : Nat) : Int), .b false, .any, .any, Res (m ++ [x]), Res (m ++ [x]), .i ((m.length + 1 : Nat) : Int), .i m.length, .pel x.c,
  .agg x.c, Res (m ++ [x]), Res (m ++ [x]), .i ((m.length + 1 : Nat) : Int), .i m.length, .sl 6 (m.map Re.c), .fn BWD [.pel [Res m]], .any, .any, .any, .any, .any, .any, .any, .any]
abbrev reVar (r : Re) : Ob := .var 27 r.c
theorem Re.put (ty : Nat) (a b : Re) : obPut (.var ty a.c) 0 b.c = some (.var ty b.c) := by
 rw [obPut_var (by simp), splc_all (by simp)]
theorem Re.put0 (ty : Nat) (a : List D) (ha : a.length = 6) (b : Re) : obPut (.var ty a) 0 b.c = some (.var ty b.c) := by
 rw [obPut_var (by simp [ha]), splc_all (by simp [ha])]
theorem foldRound {ca cb : Code} (ha : lc ca = (f73_a7).st) (hb : lc cb = (f73_b7).st) (kind none : Int) (m : List Re) (x : Re) (z : List D) (hz : ∀ d ∈ z, Bl 0 d) (j : Int) (y acc : Re) :
  AY Tryz.prog 2 [.i j, .agg y.c] [.var 27 z, reVar acc, .lp #[27, 28] ca cb .ready Option.none (foldE kind none m x)]
   (fun o om' => o = .ret (.b true) ∧ om' = [.var 27 z, reVar (.mk kind 0 0 0 0 [y, acc]), .lp #[27, 28] ca cb .ready Option.none (foldE kind none m x)]) := by
 refine AY.walk hT hm ha hb rfl rfl rfl ?_
 simp only [go_sem, Int.reduceEq, Int.reduceLE, Int.reduceLT, Int.reduceToNat]
 have e : ((((((acc.c.set 0 (.v (.int .u8 kind))).set 1 (.v (.int .u64 0))).set 2 (.v (.int .u64 0))).set 3 (.v (.int .u64 0))).set 4 (.v (.int .u64 0))).set 5 (.sl 6 [y.c, acc.c])) = (Re.mk kind 0 0 0 0 [y, acc]).c := by
  obtain ⟨k, a, b, c, d, ks⟩ := acc
  rw [Re.c_mk kind, Re.c_mk k, Re.cs_eq]
  simp [Re.c_mk, Re.cs_eq]
 rw [e]
 exact Fin.mv (om' := [.var 27 z, reVar (.mk kind 0 0 0 0 [y, acc]), .lp #[27, 28] ca cb .ready Option.none (foldE kind none m x)]) [some 0, some 1, some 2] rfl
  ⟨.varS rfl hz, .varS rfl (Re.c_bl _), .lpL rfl (by simp), trivial⟩ .v ⟨rfl, rfl⟩
theorem backward1 {ca cb : Code} (ha : lc ca = (f73_a7).st) (hb : lc cb = (f73_b7).st) (kind none : Int) (m : List Re) (hm' : m.length ≤ 100000) (x : Re) (z : List D) (hz : ∀ d ∈ z, Bl 0 d) :
  AC Tryz.prog BWD [.yld 2, .pel [Res m]] [.var 27 z, reVar x, .lp #[27, 28] ca cb .ready Option.none (foldE kind none m x)]
   (fun o om' => o = .ret (.tup []) ∧ om' = [.var 27 z, reVar (foldR kind m x), .lp #[27, 28] ca cb .ready Option.none (foldE kind none m x)]) := by
 have mv3 : ∀ {om : List Ob} {F : Nat → Bool} (a : Re), om[0]? = some (.var 27 z) → om[1]? = some (reVar a) → om[2]? = some (.lp #[27, 28] ca cb .ready Option.none (foldE kind none m x)) →
   MvL om F [some 0, some 1, some 2] [some 0, some 1, some 2] [.var 27 z, reVar a, .lp #[27, 28] ca cb .ready Option.none (foldE kind none m x)] :=
  fun a h0 h1 h2 => ⟨.varS h0 hz, .varS h1 (Re.c_bl _), .lpL h2 (by simp), trivial⟩
 refine AC.lbody hT hm Tryz.func113 f113_nm f113_lc f113_res f113_nt ?_
 simp only [go_sem, Int.reduceEq, Int.reduceLE, Int.reduceLT, Int.reduceToNat]
 refine xl_loopM hT hm (fun i : Nat => ⟨f113_i4 (.yld 2) (.pel [Res m]) (.i ((i : Int) - 1)), [.var 27 z, reVar (foldR kind (m.drop i) x), .lp #[27, 28] ca cb .ready Option.none (foldE kind none m x)]⟩)
  (fun i => i ≤ m.length) (fun i => i) m.length (Nat.le_refl _) ?_ ?_
 ·rw [wrap_int _ (by omega) (by omega), List.drop_length]
  exact Mv.of [some 0, some 1, some 2] rfl (mv3 _ rfl rfl rfl) (by simp [f113_i4])
 intro i hi
 cases i with
 | zero =>
  have hf : decide ((0 : Int) ≤ ((0 : Nat) : Int) - 1) = false := rfl
  simp only [go_sem, Int.reduceEq, Int.reduceLE, Int.reduceLT, Int.reduceToNat]
  simp only [go_sem, Int.reduceEq, Int.reduceLE, Int.reduceLT, Int.reduceToNat, hf]
  exact Fin.mv (om' := [.var 27 z, reVar (foldR kind m x), .lp #[27, 28] ca cb .ready Option.none (foldE kind none m x)]) [some 0, some 1, some 2] rfl (mv3 _ rfl rfl rfl) (by simp) ⟨rfl, rfl⟩
 | succ i =>
  have e1 : (((i + 1 : Nat) : Int) - 1) = (i : Int) := by omega
  obtain ⟨y, hy⟩ := get_ex (l := m) (show i < m.length by omega)
  rw [e1]
  simp only [go_sem, Int.reduceEq, Int.reduceLE, Int.reduceLT, Int.reduceToNat, hy]
  refine ⟨_, foldRound ha hb kind none m x z hz i y (foldR kind (m.drop (i + 1)) x), ?_⟩
  rintro _ _ ⟨rfl, rfl⟩
  simp only [go_sem, Int.reduceEq, Int.reduceLE, Int.reduceLT, Int.reduceToNat]
  refine ⟨i, by omega, by omega, ?_⟩
  rw [wrap_int _ (by omega) (by omega)]
  have e2 : foldR kind (m.drop i) x = .mk kind 0 0 0 0 [y, foldR kind (m.drop (i + 1)) x] := by rw [drop_get hy]; rfl
  rw [e2]
  exact Mv.of [some 0, some 1, some 2] rfl (mv3 _ rfl rfl rfl) (by simp)
theorem fold (kind none : Int) (l : List Re) (hl : l.length ≤ 100000) : AP Tryz.prog 73 [.v (.int .u8 kind), .v (.int .u8 none), Res l] (.agg (foldL kind none l).c) := by
 have hA : l = [] ∨ ∃ m x, l = m ++ [x] := by
  rcases List.eq_nil_or_concat l with h | ⟨A', y, h⟩
  ·exact .inl h
  ·exact .inr ⟨A', y, by rw [h, List.concat_eq_append]⟩
 rcases hA with rfl | ⟨m, x, rfl⟩
 ·refine AC.lbody hT hm Tryz.func73 f73_nm f73_lc f73_res f73_nt ?_
  simp only [go_sem, Int.reduceEq, Int.reduceLE, Int.reduceLT, Int.reduceToNat]
  have e0 : (((0 : Nat) : Int) == 0) = true := rfl
  simp only [go_sem, Int.reduceEq, Int.reduceLE, Int.reduceLT, Int.reduceToNat, List.length_nil, e0]
  refine Fin.ret ?_
  exact .aggL (by simp [CvL, Re.c_mk, Re.cs_eq, foldL])
 have hlen : (m ++ [x]).length = m.length + 1 := by simp
 have hn0 : ¬ ((m.length + 1 : Nat) : Int) = 0 := by omega
 have hsub : IntKind.i64.wrap (((m.length + 1 : Nat) : Int) - 1) = (m.length : Int) := by rw [wrap_int _ (by omega) (by omega)]; omega
 have hget : (m ++ [x])[m.length]? = some x := by simp
 have hle : m.length ≤ (m ++ [x]).length := by simp
 have htk : ((m ++ [x]).map Re.c).take m.length = m.map Re.c := by simp
 refine AC.lbody hT hm Tryz.func73 f73_nm f73_lc f73_res f73_nt ?_
 simp only [go_sem, Int.reduceEq, Int.reduceLE, Int.reduceLT, Int.reduceToNat, hlen]
 simp only [go_sem, Int.reduceEq, Int.reduceLE, Int.reduceLT, Int.reduceToNat, beq_false hn0, hsub, hget, hlen, Nat.le_succ, Nat.zero_le, htk]
 refine (backward m).pd ⟨.eq (by rw [← Re.cs_eq]) (by simp), trivial⟩ (by simp) ?_
 simp only [go_sem, Int.reduceEq, Int.reduceLE, Int.reduceLT, Int.reduceToNat, W_rfun]
 intro ca cb ha hb
 refine ⟨_, backward1 ha hb kind none m (by omega) x (z := [.v (.int .u8 0), .v (.int .u64 0), .v (.int .u64 0), .v (.int .u64 0), .v (.int .u64 0), .v (.slice Option.none 0 0)]) (by simp), ?_⟩
 rintro _ _ ⟨rfl, rfl⟩
 simp only [go_sem, Int.reduceEq, Int.reduceLE, Int.reduceLT, Int.reduceToNat]
 refine ⟨by simp, ?_⟩
 refine Fin.ret ?_
 have e : foldL kind none (m ++ [x]) = foldR kind m x := by simp [foldL]
 rw [e]
 exact .same (Re.d_bl _)
theorem rexThen (l : List Re) (hl : l.length ≤ 100000) : AP Tryz.prog 52 [Res l] (.agg (foldL 4 2 l).c) := by
 refine AC.lbody hT hm Tryz.func52 f52_nm f52_lc f52_res f52_nt ?_
 simp only [go_sem, Int.reduceEq, Int.reduceLE, Int.reduceLT, Int.reduceToNat]
 refine (fold 4 2 l hl).pd (by simp) (by simp) ?_
 simp only [go_sem, Int.reduceEq, Int.reduceLE, Int.reduceLT, Int.reduceToNat]
 exact Fin.ret (.same (Re.d_bl _))
theorem rexOr (l : List Re) (hl : l.length ≤ 100000) : AP Tryz.prog 53 [Res l] (.agg (foldL 5 1 l).c) := by
 refine AC.lbody hT hm Tryz.func53 f53_nm f53_lc f53_res f53_nt ?_
 simp only [go_sem, Int.reduceEq, Int.reduceLE, Int.reduceLT, Int.reduceToNat]
 refine (fold 5 1 l hl).pd (by simp) (by simp) ?_
 simp only [go_sem, Int.reduceEq, Int.reduceLE, Int.reduceLT, Int.reduceToNat]
 exact Fin.ret (.same (Re.d_bl _))
end Go.Proofs.YtlejbkfefpfolaaGreatDoor.W
set_option maxRecDepth 100000
namespace Go.Proofs.YtlejbkfefpfolaaGreatDoor.W
open Go Go.Proofs Go.Proofs.YtlejbkfefpfolaaGreatDoor.AWP
abbrev rdOb (s : ByteArray) (p : Nat) : Ob := .var 68 [.s s, .i p]
abbrev wrongD (p : Nat) : D := .ifc 93 (.agg [.i p])
theorem mvR {s : ByteArray} {p : Nat} {om : List Ob} {F : Nat → Bool} (h : om[0]? = some (rdOb s p)) : MvL om F [some 0] [some 0] [rdOb s p] := ⟨.varS h (by simp), trivial⟩
theorem FinR {s : ByteArray} {p : Nat} {om : List Ob} {d d' : D} {R : Out → List Ob → Prop} {om0 : List Ob} (h0 : om0.length = 1) (h : om[0]? = some (rdOb s p)) (hd : Cv om (kF [some 0]) [some 0] d d') (hr : R (.ret d') [rdOb s p]) : Fin om0 om (.ret d) R :=
 Fin.mv [some 0] (by rw [h0]; rfl) (mvR h) hd hr
theorem FinP {s : ByteArray} {p e : Nat} {om : List Ob} {R : Out → List Ob → Prop} {om0 : List Ob} (h0 : om0.length = 1) (h : om[0]? = some (rdOb s p)) (hr : R (.panic (wrongD e)) [rdOb s p]) : Fin om0 om (.panic (wrongD e)) R :=
 Fin.mvp [some 0] (by rw [h0]; rfl) (mvR h) (.same (by simp)) hr
theorem isC (s l : ByteArray) (p : Nat) : AC Tryz.prog 87 [.ref 0 0, .v (.string l)] [rdOb s p] (retP (.b (isB s p l)) [rdOb s p]) := by
 refine AC.lbody hT hm Tryz.func87 f87_nm f87_lc f87_res f87_nt ?_
 simp only [go_sem, Int.reduceEq, Int.reduceLE, Int.reduceLT, Int.reduceToNat]
 by_cases h : p < s.size
 case neg =>
  have e : isB s p l = false := by unfold isB; rw [Array.getElem?_eq_none (by exact Nat.le_of_not_lt h)]
  simp only [go_sem, Int.reduceEq, Int.reduceLE, Int.reduceLT, Int.reduceToNat, h]
  rw [e]
  exact FinR rfl rfl .v ⟨rfl, rfl⟩
 obtain ⟨b, hb⟩ : ∃ b, s.data[p]? = some b := ⟨_, Array.getElem?_eq_getElem h⟩
 have e : isB s p l = decide (0 ≤ firstIdx l b) := by unfold isB; rw [hb]
 simp only [go_sem, Int.reduceEq, Int.reduceLE, Int.reduceLT, Int.reduceToNat, h, hb]
 refine (ix l b).qv (by simp) ?_
 simp only [go_sem, Int.reduceEq, Int.reduceLE, Int.reduceLT, Int.reduceToNat]
 rw [e]
 exact FinR rfl rfl .v ⟨rfl, rfl⟩
def toP (s : ByteArray) (q : Nat) (fr : List Ob) : Out → List Ob → Prop := fun o om => o = .ret (.tup []) ∧ om = rdOb s q :: fr
def badP (s : ByteArray) (e : Nat) (fr : List Ob) : Out → List Ob → Prop := fun o om => o = .panic (wrongD e) ∧ ∃ k, om = rdOb s k :: fr
theorem eatC (s l : ByteArray) (p : Nat) (hs : s.size ≤ 65536) : AC Tryz.prog 132 [.ref 0 0, .v (.string l)] [rdOb s p] (fun o om => (isB s p l = true ∧ toP s (p + 1) [] o om) ∨ (isB s p l = false ∧ badP s p [] o om)) := by
 refine AC.lbody hT hm Tryz.func132 f132_nm f132_lc f132_res f132_nt ?_
 simp only [go_sem, Int.reduceEq, Int.reduceLE, Int.reduceLT, Int.reduceToNat]
 refine ⟨_, isC s l p, ?_⟩
 rintro _ _ ⟨rfl, rfl⟩
 cases h : isB s p l
 ·simp only [go_sem, Int.reduceEq, Int.reduceLE, Int.reduceLT, Int.reduceToNat]
  exact ⟨rfl, FinP rfl rfl (Or.inr ⟨rfl, _, rfl⟩)⟩
 ·have hp := isB_lt h
  simp only [go_sem, Int.reduceEq, Int.reduceLE, Int.reduceLT, Int.reduceToNat]
  rw [wrap_succ p (by omega)]
  exact FinR rfl rfl (by simp) (Or.inl ⟨rfl, rfl⟩)
theorem begC (s : ByteArray) (p : Nat) (hs : s.size ≤ 65536) : AC Tryz.prog 108 [.ref 0 0] [rdOb s p] (retP (.b (begB s p)) [rdOb s p]) := by
 refine AC.lbody hT hm Tryz.func108 f108_nm f108_lc f108_res f108_nt ?_
 simp only [go_sem, Int.reduceEq, Int.reduceLE, Int.reduceLT, Int.reduceToNat]
 refine ⟨_, isC s ⟨#[92]⟩ p, ?_⟩
 cases h0 : isB s p ⟨#[92]⟩
 case true =>
  have e : begB s p = true := by unfold begB; rw [h0]; rfl
  simp only [go_sem, Int.reduceEq, Int.reduceLE, Int.reduceLT, Int.reduceToNat]
  rw [e]
  exact FinR rfl rfl .v ⟨rfl, rfl⟩
 simp only [go_sem, Int.reduceEq, Int.reduceLE, Int.reduceLT, Int.reduceToNat]
 by_cases h : p < s.size
 case neg =>
  simp only [go_sem, Int.reduceEq, Int.reduceLE, Int.reduceLT, Int.reduceToNat, h]
  rw [begB_end h]
  exact FinR rfl rfl .v ⟨rfl, rfl⟩
 obtain ⟨b, hb⟩ := get_lt h
 have e : begB s p = plain b := by unfold begB; rw [h0, hb]; rfl
 simp only [go_sem, Int.reduceEq, Int.reduceLE, Int.reduceLT, Int.reduceToNat, h, hb]
 refine (signN b).qv (by simp) ?_
 have h1 : p + 1 ≤ s.size := h
 have h2 := wrap_succ p (by omega)
 simp only [go_sem, Int.reduceEq, Int.reduceLE, Int.reduceLT, Int.reduceToNat, h1, h2, Nat.le_succ]
 refine FinR rfl rfl .v ⟨?_, rfl⟩
 rw [e, ext1 hb]
 cases hp : plain b <;> simp [signB, hp, hexB]
theorem digC (s : ByteArray) (p : Nat) (hs : s.size ≤ 65536) : AC Tryz.prog 141 [.ref 0 0] [rdOb s p] (fun o om => (isB s p hexS = true ∧ toP s (p + 1) [] o om) ∨ (isB s p hexS = false ∧ badP s p [] o om)) := by
 refine AC.lbody hT hm Tryz.func141 f141_nm f141_lc f141_res f141_nt ?_
 simp only [go_sem, Int.reduceEq, Int.reduceLE, Int.reduceLT, Int.reduceToNat]
 refine ⟨_, isC s hexS p, ?_⟩
 rintro _ _ ⟨rfl, rfl⟩
 cases h : isB s p hexS
 ·simp only [go_sem, Int.reduceEq, Int.reduceLE, Int.reduceLT, Int.reduceToNat]
  exact ⟨rfl, FinP rfl rfl (Or.inr ⟨rfl, _, rfl⟩)⟩
 ·have hp := isB_lt h
  simp only [go_sem, Int.reduceEq, Int.reduceLE, Int.reduceLT, Int.reduceToNat]
  rw [wrap_succ p (by omega)]
  exact FinR rfl rfl (by simp) (Or.inl ⟨rfl, rfl⟩)
theorem readHex2 (a b : UInt8) (ha : 0 ≤ firstIdx hexS a) (hb : 0 ≤ firstIdx hexS b) :
  AP Tryz.prog 142 [.s ⟨#[a, b]⟩] (.tup [Bys [UInt8.ofNat (16 * (firstIdx hexS a).toNat + (firstIdx hexS b).toNat)], .i 0]) := by
 have la := hexS_le a
 have lb := hexS_le b
 obtain ⟨m, em⟩ : ∃ m : _root_.Fin 16, firstIdx hexS a = m.val := ⟨⟨(firstIdx hexS a).toNat, by omega⟩, by simp; omega⟩
 obtain ⟨n, en⟩ : ∃ n : _root_.Fin 16, firstIdx hexS b = n.val := ⟨⟨(firstIdx hexS b).toNat, by omega⟩, by simp; omega⟩
 have ixa := ix hexS a
 have ixb := ix hexS b
 rw [em] at ixa
 rw [en] at ixb
 have h16 := hex16 m n
 rw [em, en]
 have z : ∀ {l : List UInt8} {om : List Ob} {F : Nat → Bool}, om[0]? = some (byOb l) → MvL om F [some 0] [some 0] [byOb l] := fun h => mvB h
 refine AC.lbody hT hm Tryz.func142 f142_nm f142_lc f142_res f142_nt ?_
 simp only [go_sem, Int.reduceEq, Int.reduceLE, Int.reduceLT, Int.reduceToNat]
 refine xl_loopM hT hm (fun i : Nat => ⟨f142_i10 (.s ⟨#[a, b]⟩) (.own 0) (.i (if i = 0 then 0 else 2)), [byOb (if i = 0 then [] else [UInt8.ofNat (16 * m.val + n.val)])]⟩)
  (fun i => i ≤ 1) (fun i => 1 - i) 0 (by omega) (Mv.of [none] rfl ⟨.nil (by decide), trivial⟩ (by simp [f142_i10])) ?_
 intro i hi
 simp only [go_sem, Int.reduceEq, Int.reduceLE, Int.reduceLT, Int.reduceToNat]
 have w1 : IntKind.i64.wrap 1 = 1 := by decide
 have w2 : IntKind.i64.wrap 2 = 2 := by decide
 have w3 : IntKind.i64.wrap 3 = 3 := by decide
 have g1 : (#[a, b] : Array UInt8)[0]? = some a := rfl
 have g2 : (#[a, b] : Array UInt8)[1]? = some b := rfl
 cases i with
 | zero =>
  have t1 : decide ((1 : Int) < 2) = true := by decide
  simp only [go_sem, Int.reduceEq, Int.reduceLE, Int.reduceLT, Int.reduceToNat, eq_self, Int.reduceAdd, Int.cast_ofNat_Int, w1, t1, g1, g2, Int.toNat_zero, Int.toNat_one]
  refine ixa.pv ⟨.eq rfl (by simp), by simp, trivial⟩ ?_
  simp only [go_sem, Int.reduceEq, Int.reduceLE, Int.reduceLT, Int.reduceToNat, Int.reduceAdd, w1, g1, g2, Int.toNat_zero, Int.toNat_one]
  refine ixb.pv ⟨.eq rfl (by simp), by simp, trivial⟩ ?_
  have n1 : decide ((m.val : Int) < 0) = false := by simp
  have n2 : decide ((n.val : Int) < 0) = false := by simp
  simp only [go_sem, Int.reduceEq, Int.reduceLE, Int.reduceLT, Int.reduceToNat, Int.reduceAdd, n1, n2, h16, w2]
  exact ⟨1, by omega, by omega, Mv.of [some 1] rfl (mvB rfl) (by simp [f142_i10])⟩
 | succ i =>
  have : i = 0 := by omega
  subst this
  have t1 : decide ((3 : Int) < 2) = false := by decide
  have e1 : ((2 : Int).tmod 2 == 1) = false := by decide
  simp only [go_sem, Int.reduceEq, Int.reduceLE, Int.reduceLT, Int.reduceToNat, Nat.succ_ne_zero, Int.reduceAdd, Int.cast_ofNat_Int, w3, t1, e1]
  exact Fin.ret (.tupL ⟨by simp, .v, trivial⟩)
def sgR (s : ByteArray) (x : PB) (fr : List Ob) : Out → List Ob → Prop := fun o om =>
 match x with
 | .ok b q => o = .ret (.y b) ∧ om = rdOb s q :: fr
 | .bad e => badP s e fr o om
theorem sgC (s : ByteArray) (p : Nat) (hs : s.size ≤ 65536) : AC Tryz.prog 134 [.ref 0 0] [rdOb s p] (sgR s (pSign s p) []) := by
 refine AC.lbody hT hm Tryz.func134 f134_nm f134_lc f134_res f134_nt ?_
 simp only [go_sem, Int.reduceEq, Int.reduceLE, Int.reduceLT, Int.reduceToNat]
 refine ⟨_, begC s p hs, ?_⟩
 rintro _ _ ⟨rfl, rfl⟩
 cases h : begB s p
 ·have e : pSign s p = .bad p := by unfold pSign; rw [h]; rfl
  simp only [go_sem, Int.reduceEq, Int.reduceLE, Int.reduceLT, Int.reduceToNat]
  rw [e]
  exact ⟨rfl, FinP rfl rfl ⟨rfl, _, rfl⟩⟩
 have hp := begB_lt h
 obtain ⟨b, hb⟩ := get_lt hp
 have h2 := wrap_succ p (by omega)
 simp only [go_sem, Int.reduceEq, Int.reduceLE, Int.reduceLT, Int.reduceToNat, hb, h2]
 by_cases h92 : b.toNat = 92
 case neg =>
  have e : pSign s p = .ok b (p + 1) := by unfold pSign; rw [if_pos h, at_of hb, if_neg h92]
  have n1 : ((b.toNat : Int) != 92) = true := by simp; omega
  simp only [go_sem, Int.reduceEq, Int.reduceLE, Int.reduceLT, Int.reduceToNat, n1]
  rw [e]
  exact FinR rfl rfl .v ⟨rfl, rfl⟩
 have n1 : ((b.toNat : Int) != 92) = false := by simp; omega
 simp only [go_sem, Int.reduceEq, Int.reduceLE, Int.reduceLT, Int.reduceToNat, n1]
 refine ⟨_, digC s (p + 1) hs, ?_⟩
 rintro _ _ (⟨h1, rfl, rfl⟩ | ⟨h1, rfl, k, rfl⟩)
 case inr =>
  simp only [go_sem, Int.reduceEq, Int.reduceLE, Int.reduceLT, Int.reduceToNat]
  have e : pSign s p = .bad (p + 1) := by unfold pSign; rw [if_pos h, at_of hb, if_pos h92, if_neg (by rw [h1]; simp)]
  rw [e]
  exact FinP rfl rfl ⟨rfl, _, rfl⟩
 simp only [go_sem, Int.reduceEq, Int.reduceLE, Int.reduceLT, Int.reduceToNat]
 refine ⟨_, digC s (p + 1 + 1) hs, ?_⟩
 rintro _ _ (⟨h2, rfl, rfl⟩ | ⟨h2, rfl, k, rfl⟩)
 case inr =>
  simp only [go_sem, Int.reduceEq, Int.reduceLE, Int.reduceLT, Int.reduceToNat]
  have e : pSign s p = .bad (p + 1 + 1) := by unfold pSign; rw [if_pos h, at_of hb, if_pos h92, if_pos h1, if_neg (by rw [h2]; simp)]
  rw [e]
  exact FinP rfl rfl ⟨rfl, _, rfl⟩
 simp only [go_sem, Int.reduceEq, Int.reduceLE, Int.reduceLT, Int.reduceToNat]
 have l1 := isB_lt h1
 have l2 := isB_lt h2
 obtain ⟨c, hc⟩ := get_lt l1
 obtain ⟨d, hd⟩ := get_lt l2
 have e : pSign s p = .ok (UInt8.ofNat (16 * (firstIdx hexS c).toNat + (firstIdx hexS d).toNat)) (p + 3) := by
  unfold pSign
  rw [if_pos h, at_of hb, if_pos h92, if_pos h1, if_pos h2]
  unfold hexAt
  rw [at_of hc, at_of hd]
 rw [isB_at hc] at h1
 rw [isB_at hd] at h2
 have le1 : p ≤ p + 2 := by omega
 have le2 : p + 3 ≤ s.size := by omega
 have ee := ext2 hc (show s.data[p + 1 + 1]? = some d from hd)
 simp only [go_sem, Int.reduceEq, Int.reduceLE, Int.reduceLT, Int.reduceToNat, le1, le2]
 rw [show p + 3 = p + 1 + 2 from rfl, ee]
 refine (readHex2 c d (by simpa using h1) (by simpa using h2)).qd ⟨.eq rfl (by simp), trivial⟩ (by simp) ?_
 simp only [go_sem, Int.reduceEq, Int.reduceLE, Int.reduceLT, Int.reduceToNat]
 rw [e]
 generalize UInt8.ofNat (16 * (firstIdx hexS c).toNat + (firstIdx hexS d).toNat) = x
 have er : (byteRows [x])[0]? = some [.y x] := rfl
 simp only [go_sem, Int.reduceEq, Int.reduceLE, Int.reduceLT, Int.reduceToNat, er]
 exact FinR rfl rfl .v ⟨rfl, rfl⟩
theorem _root_.Go.Proofs.YtlejbkfefpfolaaGreatDoor.AWP.AC.rd {f : FuncId} {ds : List D} {s : ByteArray} {p : Nat} {fr : List Ob} {R R' : Out → List Ob → Prop} (h : AC Tryz.prog f ds [rdOb s p] R) (hds : ∀ d ∈ ds, Bl 1 d)
  (hR : ∀ o om, R o om → om.length = 1 ∧ R' o (om ++ fr)) : AC Tryz.prog f ds (rdOb s p :: fr) R' := by
 refine (AC.frame (fr := fr) h (fun o ho => ?_) hds fun o om' hr => (hR o om' hr).1).mono ?_
 ·cases List.mem_singleton.1 ho
  simp [ObAll]
 ·rintro o om ⟨om', hr, rfl⟩
  exact (hR o om' hr).2
theorem isF (s l : ByteArray) (p : Nat) (fr : List Ob) : AC Tryz.prog 87 [.ref 0 0, .v (.string l)] (rdOb s p :: fr) (retP (.b (isB s p l)) (rdOb s p :: fr)) :=
 (isC s l p).rd (by simp) (by rintro _ _ ⟨rfl, rfl⟩; exact ⟨rfl, rfl, rfl⟩)
theorem begF (s : ByteArray) (p : Nat) (hs : s.size ≤ 65536) (fr : List Ob) : AC Tryz.prog 108 [.ref 0 0] (rdOb s p :: fr) (retP (.b (begB s p)) (rdOb s p :: fr)) :=
 (begC s p hs).rd (by simp) (by rintro _ _ ⟨rfl, rfl⟩; exact ⟨rfl, rfl, rfl⟩)
theorem badP_fr {s : ByteArray} {e : Nat} {fr : List Ob} {o : Out} {om : List Ob} (h : badP s e [] o om) : om.length = 1 ∧ badP s e fr o (om ++ fr) := by
 obtain ⟨rfl, k, rfl⟩ := h
 exact ⟨rfl, rfl, k, rfl⟩
theorem eatF (s l : ByteArray) (p : Nat) (hs : s.size ≤ 65536) (fr : List Ob) : AC Tryz.prog 132 [.ref 0 0, .v (.string l)] (rdOb s p :: fr) (fun o om => (isB s p l = true ∧ toP s (p + 1) fr o om) ∨ (isB s p l = false ∧ badP s p fr o om)) :=
 (eatC s l p hs).rd (by simp) (by
  rintro o om (⟨h, rfl, rfl⟩ | ⟨h, hb⟩)
  ·exact ⟨rfl, .inl ⟨h, rfl, rfl⟩⟩
  ·exact ⟨(badP_fr (fr := fr) hb).1, .inr ⟨h, (badP_fr hb).2⟩⟩)
theorem sgF (s : ByteArray) (p : Nat) (hs : s.size ≤ 65536) (fr : List Ob) : AC Tryz.prog 134 [.ref 0 0] (rdOb s p :: fr) (sgR s (pSign s p) fr) :=
 (sgC s p hs).rd (by simp) (by
  intro o om h
  unfold sgR at h ⊢
  split at h
  ·obtain ⟨rfl, rfl⟩ := h; exact ⟨rfl, rfl, rfl⟩
  ·exact badP_fr h)
def prR (s : ByteArray) (x : PR) (fr : List Ob) : Out → List Ob → Prop := fun o om =>
 match x with
 | .ok r q => o = .ret (.agg r.c) ∧ om = rdOb s q :: fr
 | .bad e => badP s e fr o om
theorem _root_.Go.Proofs.YtlejbkfefpfolaaGreatDoor.AWP.AC.pr {f : FuncId} {s : ByteArray} {p : Nat} {x : PR} (fr : List Ob) (h : AC Tryz.prog f [.ref 0 0] [rdOb s p] (prR s x [])) : AC Tryz.prog f [.ref 0 0] (rdOb s p :: fr) (prR s x fr) :=
 h.rd (by simp) (by
  intro o om h
  unfold prR at h ⊢
  split at h
  ·obtain ⟨rfl, rfl⟩ := h; exact ⟨rfl, rfl, rfl⟩
  ·exact badP_fr h)
theorem FinPR {s : ByteArray} {r : Re} {q : Nat} {om : List Ob} {d : D} {om0 : List Ob} (h0 : om0.length = 1) (h : om[0]? = some (rdOb s q)) (hd : d = .agg r.c) : Fin om0 om (.ret d) (prR s (.ok r q) []) :=
 FinR h0 h (.eq hd (by rw [hd]; exact Re.d_bl _)) ⟨rfl, rfl⟩
theorem FinPB {s : ByteArray} {e k : Nat} {om : List Ob} {om0 : List Ob} (h0 : om0.length = 1) (h : om[0]? = some (rdOb s k)) : Fin om0 om (.panic (wrongD e)) (prR s (.bad e) []) :=
 FinP h0 h ⟨rfl, _, rfl⟩
abbrev zRe : List D := [.v (.int .u8 0), .v (.int .u64 0), .v (.int .u64 0), .v (.int .u64 0), .v (.int .u64 0), .v (.slice Option.none 0 0)]
abbrev zOb : Ob := .var 27 zRe
theorem Re.put1 (b : Re) : obPut zOb 0 b.c = some (.var 27 b.c) := Re.put0 _ _ rfl b
end Go.Proofs.YtlejbkfefpfolaaGreatDoor.W
set_option maxRecDepth 100000
namespace Go.Proofs.YtlejbkfefpfolaaGreatDoor.W
open Go Go.Proofs Go.Proofs.YtlejbkfefpfolaaGreatDoor.AWP
theorem mvR3 {s : ByteArray} {p : Nat} {ws : List Int} {om : List Ob} {F : Nat → Bool} (h0 : om[0]? = some (rdOb s p)) (h1 : om[1]? = some zOb) (h2 : om[2]? = some (wOb ws)) : MvL om F [some 0, some 1, some 2] [some 0, some 1, some 2] [rdOb s p, zOb, wOb ws] :=
 ⟨.varS h0 (by simp), .varS h1 (by simp), .varS h2 (W_bl _), trivial⟩
theorem clsC (s : ByteArray) (p0 : Nat) (hs : s.size ≤ 65536) (hp0 : p0 ≤ s.size) : AC Tryz.prog 131 [.ref 0 0] [rdOb s p0] (prR s (clsGo s noneS p0) []) := by
 refine AC.lbody hT hm Tryz.func131 f131_nm f131_lc f131_res f131_nt ?_
 simp only [go_sem, Int.reduceEq, Int.reduceLE, Int.reduceLT, Int.reduceToNat]
 refine xl_loopM hT hm (fun i : List Int × Nat => ⟨f131_i12 (.ref 0 0) (.ref 1 0) (.ref 2 0), [rdOb s i.2, zOb, wOb i.1]⟩)
  (fun i => i.1.length = 4 ∧ i.2 ≤ s.size ∧ clsGo s i.1 i.2 = clsGo s noneS p0) (fun i => s.size - i.2) (noneS, p0) ⟨rfl, hp0, rfl⟩ (Mv.of [some 0, some 1, some 2] rfl (mvR3 rfl rfl rfl) (by simp [f131_i12])) ?_
 rintro ⟨ws, p⟩ ⟨h4, hp, hc⟩
 simp only [go_sem, Int.reduceEq, Int.reduceLE, Int.reduceLT, Int.reduceToNat]
 refine ⟨_, isF s cRb p _, ?_⟩
 rintro _ _ ⟨rfl, rfl⟩
 simp only [go_sem, Int.reduceEq, Int.reduceLE, Int.reduceLT, Int.reduceToNat]
 cases hb : isB s p cRb
 case true =>
  have lt := isB_lt hb
  rw [clsGo, if_pos hb] at hc
  have h2 := wrap_succ p (by omega)
  simp only [go_sem, Int.reduceEq, Int.reduceLE, Int.reduceLT, Int.reduceToNat, h2, h4, W_take h4, W_drop0]
  refine (rexOf ws h4).pd ⟨.same (.agg (W_bl _)), trivial⟩ (Re.d_bl _) ?_
  simp only [go_sem, Int.reduceEq, Int.reduceLE, Int.reduceLT, Int.reduceToNat, Re.put1]
  rw [← hc]
  exact FinPR rfl rfl rfl
 rw [clsGo, if_neg (by rw [hb]; simp)] at hc
 simp only [go_sem, Int.reduceEq, Int.reduceLE, Int.reduceLT, Int.reduceToNat]
 refine ⟨_, sgF s p hs _, ?_⟩
 cases hsg : pSign s p
 case bad e =>
  rintro _ _ ⟨rfl, k, rfl⟩
  simp only [go_sem, Int.reduceEq, Int.reduceLE, Int.reduceLT, Int.reduceToNat]
  rw [hsg] at hc
  rw [← hc]
  exact FinPB rfl rfl
 rintro _ _ ⟨rfl, rfl⟩
 simp only [go_sem, Int.reduceEq, Int.reduceLE, Int.reduceLT, Int.reduceToNat]
 rename_i lo q
 have hq := pSign_lt hsg
 rw [hsg] at hc
 simp only [hq, and_self, dif_pos] at hc
 refine ⟨_, isF s cDash q _, ?_⟩
 rintro _ _ ⟨rfl, rfl⟩
 simp only [go_sem, Int.reduceEq, Int.reduceLE, Int.reduceLT, Int.reduceToNat]
 cases hd : isB s q cDash
 case false =>
  rw [if_neg (by rw [hd]; simp)] at hc
  simp only [go_sem, Int.reduceEq, Int.reduceLE, Int.reduceLT, Int.reduceToNat, h4, W_take h4, W_drop0]
  refine (setRange lo lo).qd ⟨.v, .v, trivial⟩ (.agg (W_bl _)) ?_
  have hr := rangeS_len lo.toNat (lo.toNat + 1 - lo.toNat)
  generalize rangeS lo.toNat (lo.toNat + 1 - lo.toNat) = rs at hr hc
  simp only [go_sem, Int.reduceEq, Int.reduceLE, Int.reduceLT, Int.reduceToNat, hr, h4]
  have hj : ∀ x ∈ [ws, rs], x.length = 4 := by intro x hx; simp at hx; rcases hx with rfl | rfl <;> assumption
  refine (setJoin [ws, rs] (by simp) hj).pd ⟨.same (by simp [Wss_bl]), trivial⟩ (.agg (W_bl _)) ?_
  have hjl := joinAll_len hj
  have hpt := W_put (ty := 24) h4 hjl
  simp only [go_sem, Int.reduceEq, Int.reduceLE, Int.reduceLT, Int.reduceToNat, hjl, hpt]
  exact ⟨(joinAll [ws, rs], q), ⟨hjl, by omega, hc⟩, by omega, Mv.of [some 0, some 1, some 2] rfl (mvR3 rfl rfl rfl) (by simp [f131_i12])⟩
 have ltq := isB_lt hd
 have hw := wrap_succ q (by omega)
 rw [if_pos hd] at hc
 simp only [go_sem, Int.reduceEq, Int.reduceLE, Int.reduceLT, Int.reduceToNat, hw]
 refine ⟨_, sgF s (q + 1) hs _, ?_⟩
 cases hsg' : pSign s (q + 1)
 case bad e =>
  rintro _ _ ⟨rfl, k, rfl⟩
  simp only [go_sem, Int.reduceEq, Int.reduceLE, Int.reduceLT, Int.reduceToNat]
  rw [hsg'] at hc
  rw [← hc]
  exact FinPB rfl rfl
 rintro _ _ ⟨rfl, rfl⟩
 simp only [go_sem, Int.reduceEq, Int.reduceLE, Int.reduceLT, Int.reduceToNat]
 rename_i hi q'
 have hq' := pSign_lt hsg'
 rw [hsg'] at hc
 have lt' : p < q' ∧ q' ≤ s.size := by omega
 simp only [lt', and_self, dif_pos] at hc
 by_cases hlo : hi.toNat < lo.toNat
 ·rw [if_pos hlo] at hc
  simp only [go_sem, Int.reduceEq, Int.reduceLE, Int.reduceLT, Int.reduceToNat, hlo]
  rw [← hc]
  exact ⟨rfl, FinPB rfl rfl⟩
 rw [if_neg hlo] at hc
 simp only [go_sem, Int.reduceEq, Int.reduceLE, Int.reduceLT, Int.reduceToNat, hlo, h4, W_take h4, W_drop0]
 refine (setRange lo hi).qd ⟨.v, .v, trivial⟩ (.agg (W_bl _)) ?_
 have hr := rangeS_len lo.toNat (hi.toNat + 1 - lo.toNat)
 generalize rangeS lo.toNat (hi.toNat + 1 - lo.toNat) = rs at hr hc
 simp only [go_sem, Int.reduceEq, Int.reduceLE, Int.reduceLT, Int.reduceToNat, hr, h4]
 have hj : ∀ x ∈ [ws, rs], x.length = 4 := by intro x hx; simp at hx; rcases hx with rfl | rfl <;> assumption
 refine (setJoin [ws, rs] (by simp) hj).pd ⟨.same (by simp [Wss_bl]), trivial⟩ (.agg (W_bl _)) ?_
 have hjl := joinAll_len hj
 have hpt := W_put (ty := 24) h4 hjl
 simp only [go_sem, Int.reduceEq, Int.reduceLE, Int.reduceLT, Int.reduceToNat, hjl, hpt]
 exact ⟨(joinAll [ws, rs], q'), ⟨hjl, by omega, hc⟩, by omega, Mv.of [some 0, some 1, some 2] rfl (mvR3 rfl rfl rfl) (by simp [f131_i12])⟩
end Go.Proofs.YtlejbkfefpfolaaGreatDoor.W
set_option maxRecDepth 100000
namespace Go.Proofs.YtlejbkfefpfolaaGreatDoor.W
open Go Go.Proofs Go.Proofs.YtlejbkfefpfolaaGreatDoor.AWP
theorem setAll : AP Tryz.prog 130 [.v (.int .u8 0), .v (.int .u8 255)] (Ws (rangeS 0 256)) := setRange 0 255
theorem atomC (A : Nat → PR) (s : ByteArray) (p : Nat) (hs : s.size ≤ 65536) (hp : p ≤ s.size) (HA : ∀ q, p < q → q ≤ s.size → AC Tryz.prog 66 [.ref 0 0] [rdOb s q] (prR s (A q) [])) :
  AC Tryz.prog 120 [.ref 0 0] [rdOb s p] (prR s (pAtom A s p) []) := by
 unfold pAtom
 refine AC.lbody hT hm Tryz.func120 f120_nm f120_lc f120_res f120_nt ?_
 simp only [go_sem, Int.reduceEq, Int.reduceLE, Int.reduceLT, Int.reduceToNat]
 refine ⟨_, isF s cDot p _, ?_⟩
 rintro _ _ ⟨rfl, rfl⟩
 simp only [go_sem, Int.reduceEq, Int.reduceLE, Int.reduceLT, Int.reduceToNat]
 cases h1 : isB s p cDot
 case true =>
  have lt := isB_lt h1
  have hw := wrap_succ p (by omega)
  have hl := rangeS_len 0 256
  simp only [go_sem, Int.reduceEq, Int.reduceLE, Int.reduceLT, Int.reduceToNat, hw]
  refine setAll.pd (by simp) (.agg (W_bl _)) ?_
  generalize rangeS 0 256 = ws at hl
  simp only [go_sem, Int.reduceEq, Int.reduceLE, Int.reduceLT, Int.reduceToNat]
  refine (rexOf ws hl).pd ⟨.same (.agg (W_bl _)), trivial⟩ (Re.d_bl _) ?_
  simp only [go_sem, Int.reduceEq, Int.reduceLE, Int.reduceLT, Int.reduceToNat, Re.put1]
  exact FinPR rfl rfl rfl
 simp only [go_sem, Int.reduceEq, Int.reduceLE, Int.reduceLT, Int.reduceToNat]
 refine ⟨_, isF s cLb p _, ?_⟩
 rintro _ _ ⟨rfl, rfl⟩
 simp only [go_sem, Int.reduceEq, Int.reduceLE, Int.reduceLT, Int.reduceToNat]
 cases h2 : isB s p cLb
 case true =>
  have lt := isB_lt h2
  have hw := wrap_succ p (by omega)
  simp only [go_sem, Int.reduceEq, Int.reduceLE, Int.reduceLT, Int.reduceToNat, hw]
  refine ⟨_, (clsC s (p + 1) hs (by omega)).pr _, ?_⟩
  cases hc : clsGo s noneS (p + 1)
  case bad e =>
   rintro _ _ ⟨rfl, k, rfl⟩
   simp only [go_sem, Int.reduceEq, Int.reduceLE, Int.reduceLT, Int.reduceToNat]
   exact FinPB rfl rfl
  rintro _ _ ⟨rfl, rfl⟩
  simp only [go_sem, Int.reduceEq, Int.reduceLE, Int.reduceLT, Int.reduceToNat, Re.put1]
  exact FinPR rfl rfl rfl
 simp only [go_sem, Int.reduceEq, Int.reduceLE, Int.reduceLT, Int.reduceToNat]
 refine ⟨_, isF s cLp p _, ?_⟩
 rintro _ _ ⟨rfl, rfl⟩
 simp only [go_sem, Int.reduceEq, Int.reduceLE, Int.reduceLT, Int.reduceToNat]
 cases h3 : isB s p cLp
 case true =>
  have lt := isB_lt h3
  have hw := wrap_succ p (by omega)
  simp only [go_sem, Int.reduceEq, Int.reduceLE, Int.reduceLT, Int.reduceToNat, hw]
  refine ⟨_, isF s cRp (p + 1) _, ?_⟩
  rintro _ _ ⟨rfl, rfl⟩
  simp only [go_sem, Int.reduceEq, Int.reduceLE, Int.reduceLT, Int.reduceToNat]
  cases h4 : isB s (p + 1) cRp
  case true =>
   have lt := isB_lt h4
   have hw := wrap_succ (p + 1) (by omega)
   simp only [go_sem, Int.reduceEq, Int.reduceLE, Int.reduceLT, Int.reduceToNat, hw]
   refine (rexThen [] (by simp)).pd ⟨.nil, trivial⟩ (Re.d_bl _) ?_
   simp only [go_sem, Int.reduceEq, Int.reduceLE, Int.reduceLT, Int.reduceToNat, Re.put1]
   exact FinPR rfl rfl rfl
  simp only [go_sem, Int.reduceEq, Int.reduceLE, Int.reduceLT, Int.reduceToNat]
  refine ⟨_, (HA (p + 1) (by omega) (by omega)).pr _, ?_⟩
  cases hc : A (p + 1)
  case bad e =>
   rintro _ _ ⟨rfl, k, rfl⟩
   simp only [go_sem, Int.reduceEq, Int.reduceLE, Int.reduceLT, Int.reduceToNat]
   exact FinPB rfl rfl
  rename_i r q
  rintro _ _ ⟨rfl, rfl⟩
  simp only [go_sem, Int.reduceEq, Int.reduceLE, Int.reduceLT, Int.reduceToNat, Re.put1]
  refine ⟨_, eatF s cRp q hs _, ?_⟩
  rintro _ _ (⟨h5, rfl, rfl⟩ | ⟨h5, rfl, k, rfl⟩)
  case inr =>
   simp only [go_sem, Int.reduceEq, Int.reduceLE, Int.reduceLT, Int.reduceToNat, h5]
   exact FinPB rfl rfl
  simp only [go_sem, Int.reduceEq, Int.reduceLE, Int.reduceLT, Int.reduceToNat, h5, Re.put1]
  exact FinPR rfl rfl rfl
 simp only [go_sem, Int.reduceEq, Int.reduceLE, Int.reduceLT, Int.reduceToNat]
 refine ⟨_, sgF s p hs _, ?_⟩
 cases hsg : pSign s p
 case bad e =>
  rintro _ _ ⟨rfl, k, rfl⟩
  simp only [go_sem, Int.reduceEq, Int.reduceLE, Int.reduceLT, Int.reduceToNat]
  exact FinPB rfl rfl
 rename_i b q
 rintro _ _ ⟨rfl, rfl⟩
 simp only [go_sem, Int.reduceEq, Int.reduceLE, Int.reduceLT, Int.reduceToNat]
 have hl := ofS_len [b]
 refine (setOf [b] (by simp)).pd ⟨.eq rfl (by simp), trivial⟩ (.agg (W_bl _)) ?_
 generalize ofS [b] = ws at hl
 simp only [go_sem, Int.reduceEq, Int.reduceLE, Int.reduceLT, Int.reduceToNat]
 refine (rexOf ws hl).pd ⟨.same (.agg (W_bl _)), trivial⟩ (Re.d_bl _) ?_
 simp only [go_sem, Int.reduceEq, Int.reduceLE, Int.reduceLT, Int.reduceToNat, Re.put1]
 exact FinPR rfl rfl rfl
end Go.Proofs.YtlejbkfefpfolaaGreatDoor.W
set_option maxRecDepth 100000
namespace Go.Proofs.YtlejbkfefpfolaaGreatDoor.W
open Go Go.Proofs Go.Proofs.YtlejbkfefpfolaaGreatDoor.AWP
theorem mvP {s : ByteArray} {p : Nat} {r : Re} {om : List Ob} {F : Nat → Bool} (h0 : om[0]? = some (rdOb s p)) (h1 : om[1]? = some zOb) (h2 : om[2]? = some (reVar r)) : MvL om F [some 0, some 1, some 2] [some 0, some 1, some 2] [rdOb s p, zOb, reVar r] :=
 ⟨.varS h0 (by simp), .varS h1 (by simp), .varS h2 (Re.c_bl _), trivial⟩
theorem partC (A : Nat → PR) (s : ByteArray) (p : Nat) (hs : s.size ≤ 65536) (hp : p ≤ s.size) (hA : Fwd A s) (HA : ∀ q, p < q → q ≤ s.size → AC Tryz.prog 66 [.ref 0 0] [rdOb s q] (prR s (A q) [])) :
  AC Tryz.prog 107 [.ref 0 0] [rdOb s p] (prR s (pPart A s p) []) := by
 unfold pPart
 refine AC.lbody hT hm Tryz.func107 f107_nm f107_lc f107_res f107_nt ?_
 simp only [go_sem, Int.reduceEq, Int.reduceLE, Int.reduceLT, Int.reduceToNat]
 refine ⟨_, (atomC A s p hs hp HA).pr _, ?_⟩
 cases hc : pAtom A s p
 case bad e =>
  rintro _ _ ⟨rfl, k, rfl⟩
  simp only [go_sem, Int.reduceEq, Int.reduceLE, Int.reduceLT, Int.reduceToNat]
  exact FinPB rfl rfl
 rename_i r0 q0
 rintro _ _ ⟨rfl, rfl⟩
 simp only [go_sem, Int.reduceEq, Int.reduceLE, Int.reduceLT, Int.reduceToNat, Re.put1]
 have hq0 := pAtom_lt hA hc
 refine xl_loopM hT hm (fun i : Re × Nat => ⟨f107_i5 (.ref 0 0) (.ref 1 0) (.ref 2 0), [rdOb s i.2, zOb, reVar i.1]⟩)
  (fun i => i.2 ≤ s.size ∧ starGo s i.1 i.2 = starGo s r0 q0) (fun i => s.size - i.2) (r0, q0) ⟨hq0.2, rfl⟩ (Mv.of [some 0, some 1, some 2] rfl (mvP rfl rfl rfl) (by simp [f107_i5])) ?_
 rintro ⟨r, q⟩ ⟨hq, hst⟩
 simp only [go_sem, Int.reduceEq, Int.reduceLE, Int.reduceLT, Int.reduceToNat]
 refine ⟨_, isF s cStar q _, ?_⟩
 rintro _ _ ⟨rfl, rfl⟩
 simp only [go_sem, Int.reduceEq, Int.reduceLE, Int.reduceLT, Int.reduceToNat]
 cases h1 : isB s q cStar
 case false =>
  rw [starGo, dif_neg (by rw [h1]; simp)] at hst
  rw [← hst]
  simp only [go_sem, Int.reduceEq, Int.reduceLE, Int.reduceLT, Int.reduceToNat, Re.put1]
  exact FinPR rfl rfl rfl
 rw [starGo, dif_pos h1] at hst
 have lt := isB_lt h1
 have hw := wrap_succ q (by omega)
 simp only [go_sem, Int.reduceEq, Int.reduceLE, Int.reduceLT, Int.reduceToNat, hw]
 refine (rexMany r).pd (by simp) (Re.d_bl _) ?_
 generalize Re.mk 6 0 0 0 0 [r] = r' at hst
 simp only [go_sem, Int.reduceEq, Int.reduceLE, Int.reduceLT, Int.reduceToNat, Re.put]
 exact ⟨(r', q + 1), ⟨lt, hst⟩, by omega, Mv.of [some 0, some 1, some 2] rfl (mvP rfl rfl rfl) (by simp [f107_i5])⟩
abbrev lsOb (l : List Re) : Ob := .slc 27 6 (l.map Re.c)
theorem mvL {s : ByteArray} {p : Nat} {l : List Re} {k : Nat} {om : List Ob} {F : Nat → Bool} (h0 : om[0]? = some (rdOb s p)) (h1 : om[1]? = some zOb) (h2 : om[k]? = some (lsOb l)) : MvL om F [some 0, some 1, some k] [some 0, some 1, some k] [rdOb s p, zOb, lsOb l] :=
 ⟨.varS h0 (by simp), .varS h1 (by simp), .slcS h2 (Re.map_bl l), trivial⟩
theorem cvLs {l : List Re} {k : Nat} {om : List Ob} {F : Nat → Bool} {ks : List (Option Nat)} (h : om[k]? = some (lsOb l)) (hF : F k = true) : Cv om F ks (.own k) (Res l) := by
 rw [show Res l = .sl 6 (l.map Re.c) from by rw [← Re.cs_eq]]
 exact .frzS h hF (Re.map_bl l)
theorem rowC (A : Nat → PR) (s : ByteArray) (p : Nat) (hs : s.size ≤ 65536) (hp : p ≤ s.size) (hA : Fwd A s) (HA : ∀ q, p < q → q ≤ s.size → AC Tryz.prog 66 [.ref 0 0] [rdOb s q] (prR s (A q) [])) :
  AC Tryz.prog 86 [.ref 0 0] [rdOb s p] (prR s (pRow A s p) []) := by
 unfold pRow
 refine AC.lbody hT hm Tryz.func86 f86_nm f86_lc f86_res f86_nt ?_
 simp only [go_sem, Int.reduceEq, Int.reduceLE, Int.reduceLT, Int.reduceToNat]
 refine ⟨_, (partC A s p hs hp hA HA).pr _, ?_⟩
 cases hc : pPart A s p
 case bad e =>
  rintro _ _ ⟨rfl, k, rfl⟩
  simp only [go_sem, Int.reduceEq, Int.reduceLE, Int.reduceLT, Int.reduceToNat]
  exact FinPB rfl rfl
 rename_i r0 q0
 rintro _ _ ⟨rfl, rfl⟩
 simp only [go_sem, Int.reduceEq, Int.reduceLE, Int.reduceLT, Int.reduceToNat]
 have hq0 := pPart_lt hA hc
 refine xl_loopM hT hm (fun i : List Re × Nat => ⟨f86_i4 (.ref 0 0) (.ref 1 0) (.own 2), [rdOb s i.2, zOb, lsOb i.1]⟩)
  (fun i => p < i.2 ∧ i.2 ≤ s.size ∧ i.1.length ≤ i.2 ∧ rowGo A s i.1 i.2 = rowGo A s [r0] q0) (fun i => s.size - i.2) ([r0], q0) ⟨hq0.1, hq0.2, by simp; omega, rfl⟩ ?_ ?_
 ·exact Mv.of [some 0, some 1, some 2] rfl (mvL rfl rfl rfl) (by simp [f86_i4])
 rintro ⟨l, q⟩ ⟨hpq, hq, hlen, hst⟩
 simp only [go_sem, Int.reduceEq, Int.reduceLE, Int.reduceLT, Int.reduceToNat]
 refine ⟨_, isF s cAtom q _, ?_⟩
 rintro _ _ ⟨rfl, rfl⟩
 simp only [go_sem, Int.reduceEq, Int.reduceLE, Int.reduceLT, Int.reduceToNat]
 dsimp only at hpq hq hlen hst
 have go : (isB s q cAtom || begB s q) = true → rowGo A s [r0] q0 = match pPart A s q with
   | .bad e => .bad e
   | .ok r q' => if hq : q < q' ∧ q' ≤ s.size then rowGo A s (l ++ [r]) q' else .bad 0 := by
  intro h
  rw [← hst, rowGo, if_pos h]
  cases pPart A s q <;> rfl
 have HA' : ∀ q', q < q' → q' ≤ s.size → AC Tryz.prog 66 [.ref 0 0] [rdOb s q'] (prR s (A q') []) := fun q' h h' => HA q' (by omega) h'
 cases h1 : isB s q cAtom
 case' false =>
  simp only [go_sem, Int.reduceEq, Int.reduceLE, Int.reduceLT, Int.reduceToNat]
  refine ⟨_, begF s q hs _, ?_⟩
  rintro _ _ ⟨rfl, rfl⟩
  simp only [go_sem, Int.reduceEq, Int.reduceLE, Int.reduceLT, Int.reduceToNat]
  cases h2 : begB s q
  case false =>
   rw [rowGo, if_neg (by rw [h1, h2]; simp)] at hst
   rw [← hst]
   simp only [go_sem, Int.reduceEq, Int.reduceLE, Int.reduceLT, Int.reduceToNat]
   refine (rexThen l (by omega)).callF (fun k => k == 2) ⟨cvLs rfl rfl, trivial⟩ (Re.d_bl _) ?_
   have ef : frzL (fun k => k == 2) [rdOb s q, zOb, lsOb l] = [rdOb s q, zOb, .frz 6 (l.map Re.c)] := rfl
   simp only [go_sem, Int.reduceEq, Int.reduceLE, Int.reduceLT, Int.reduceToNat, Re.put1, ef]
   exact FinPR rfl rfl rfl
 all_goals simp only [go_sem, Int.reduceEq, Int.reduceLE, Int.reduceLT, Int.reduceToNat]
 case' ok.refine_2.false => rw [h1, h2] at go
 case' ok.refine_2.true => rw [h1] at go
 all_goals
  have go := go rfl
  refine ⟨_, (partC A s q hs hq hA HA').pr _, ?_⟩
  cases hc' : pPart A s q
  case bad e =>
   rintro _ _ ⟨rfl, k, rfl⟩
   simp only [go_sem, Int.reduceEq, Int.reduceLE, Int.reduceLT, Int.reduceToNat]
   rw [hc'] at go
   rw [go]
   exact FinPB rfl rfl
  rename_i r q'
  rintro _ _ ⟨rfl, rfl⟩
  simp only [go_sem, Int.reduceEq, Int.reduceLE, Int.reduceLT, Int.reduceToNat]
  have hq' := pPart_lt hA hc'
  rw [hc'] at go
  dsimp only at go
  rw [dif_pos hq'] at go
  exact ⟨by omega, (l ++ [r], q'), ⟨by dsimp only; omega, hq'.2, by simp; omega, go.symm⟩, by dsimp only; omega, Mv.of [some 0, some 1, some 3] rfl (mvL rfl rfl (by simp)) (by simp [f86_i4])⟩
theorem altC1 (A : Nat → PR) (s : ByteArray) (p : Nat) (hs : s.size ≤ 65536) (hp : p ≤ s.size) (hA : Fwd A s) (HA : ∀ q, p < q → q ≤ s.size → AC Tryz.prog 66 [.ref 0 0] [rdOb s q] (prR s (A q) [])) :
  AC Tryz.prog 66 [.ref 0 0] [rdOb s p] (prR s (pAlt A s p) []) := by
 unfold pAlt
 refine AC.lbody hT hm Tryz.func66 f66_nm f66_lc f66_res f66_nt ?_
 simp only [go_sem, Int.reduceEq, Int.reduceLE, Int.reduceLT, Int.reduceToNat]
 refine ⟨_, (rowC A s p hs hp hA HA).pr _, ?_⟩
 cases hc : pRow A s p
 case bad e =>
  rintro _ _ ⟨rfl, k, rfl⟩
  simp only [go_sem, Int.reduceEq, Int.reduceLE, Int.reduceLT, Int.reduceToNat]
  exact FinPB rfl rfl
 rename_i r0 q0
 rintro _ _ ⟨rfl, rfl⟩
 simp only [go_sem, Int.reduceEq, Int.reduceLE, Int.reduceLT, Int.reduceToNat]
 have hq0 := pRow_lt hA hc
 refine xl_loopM hT hm (fun i : List Re × Nat => ⟨f66_i5 (.ref 0 0) (.ref 1 0) (.own 2), [rdOb s i.2, zOb, lsOb i.1]⟩)
  (fun i => p < i.2 ∧ i.2 ≤ s.size ∧ i.1.length ≤ i.2 ∧ altGo A s i.1 i.2 = altGo A s [r0] q0) (fun i => s.size - i.2) ([r0], q0) ⟨hq0.1, hq0.2, by simp; omega, rfl⟩ ?_ ?_
 ·exact Mv.of [some 0, some 1, some 2] rfl (mvL rfl rfl rfl) (by simp [f66_i5])
 rintro ⟨l, q⟩ ⟨hpq, hq, hlen, hst⟩
 simp only [go_sem, Int.reduceEq, Int.reduceLE, Int.reduceLT, Int.reduceToNat]
 refine ⟨_, isF s cBar q _, ?_⟩
 rintro _ _ ⟨rfl, rfl⟩
 simp only [go_sem, Int.reduceEq, Int.reduceLE, Int.reduceLT, Int.reduceToNat]
 dsimp only at hpq hq hlen hst
 have HA' : ∀ q', q + 1 < q' → q' ≤ s.size → AC Tryz.prog 66 [.ref 0 0] [rdOb s q'] (prR s (A q') []) := fun q' h h' => HA q' (by omega) h'
 cases h1 : isB s q cBar
 case false =>
  rw [altGo, if_neg (by rw [h1]; simp)] at hst
  rw [← hst]
  simp only [go_sem, Int.reduceEq, Int.reduceLE, Int.reduceLT, Int.reduceToNat]
  refine (rexOr l (by omega)).callF (fun k => k == 2) ⟨cvLs rfl rfl, trivial⟩ (Re.d_bl _) ?_
  have ef : frzL (fun k => k == 2) [rdOb s q, zOb, lsOb l] = [rdOb s q, zOb, .frz 6 (l.map Re.c)] := rfl
  simp only [go_sem, Int.reduceEq, Int.reduceLE, Int.reduceLT, Int.reduceToNat, Re.put1, ef]
  exact FinPR rfl rfl rfl
 have lt := isB_lt h1
 have hw := wrap_succ q (by omega)
 rw [altGo, if_pos h1] at hst
 simp only [go_sem, Int.reduceEq, Int.reduceLE, Int.reduceLT, Int.reduceToNat, hw]
 refine ⟨_, (rowC A s (q + 1) hs lt hA HA').pr _, ?_⟩
 cases hc' : pRow A s (q + 1)
 case bad e =>
  rintro _ _ ⟨rfl, k, rfl⟩
  simp only [go_sem, Int.reduceEq, Int.reduceLE, Int.reduceLT, Int.reduceToNat]
  rw [hc'] at hst
  rw [← hst]
  exact FinPB rfl rfl
 rename_i r q'
 rintro _ _ ⟨rfl, rfl⟩
 simp only [go_sem, Int.reduceEq, Int.reduceLE, Int.reduceLT, Int.reduceToNat]
 have hq' := pRow_lt hA hc'
 rw [hc'] at hst
 dsimp only at hst
 rw [dif_pos (by omega)] at hst
 exact ⟨by omega, (l ++ [r], q'), ⟨by dsimp only; omega, hq'.2, by simp; omega, hst⟩, by dsimp only; omega, Mv.of [some 0, some 1, some 3] rfl (mvL rfl rfl (by simp)) (by simp [f66_i5])⟩
theorem altC (s : ByteArray) (hs : s.size ≤ 65536) : ∀ (n p : Nat), s.size - p ≤ n → p ≤ s.size → AC Tryz.prog 66 [.ref 0 0] [rdOb s p] (prR s (altF s p) []) := by
 intro n
 induction n with
 | zero =>
  intro p hn hp
  rw [altF_eq]
  exact altC1 _ s p hs hp (altA_fwd s p) fun q h h' => by omega
 | succ n ih =>
  intro p hn hp
  rw [altF_eq]
  refine altC1 _ s p hs hp (altA_fwd s p) fun q h h' => ?_
  unfold altA
  rw [if_pos ⟨h, h'⟩]
  exact ih q (by omega) h'
end Go.Proofs.YtlejbkfefpfolaaGreatDoor.W
set_option maxRecDepth 100000
namespace Go.Proofs.YtlejbkfefpfolaaGreatDoor.W
open Go Go.Proofs Go.Proofs.YtlejbkfefpfolaaGreatDoor.AWP
abbrev WH : Nat := 65
theorem wh_tree : ((Tryz.f65.body.bind drawn1).map fun ops => (ops.toList.map lop, drawOk ops [] 0 false, mkTree ops ops.size (headMask ops.size 0))) = some (f65_r5, true, (.both (.op 0 (.both (.op 1 (.both (.op 2 (.op 3 (.op 4 (.op 5 .done)))) (.op 3 (.op 2 (.op 4 (.op 5 .done)))))) (.op 3 (.op 1 (.op 2 (.op 4 (.op 5 .done))))))) (.op 1 (.both (.op 0 (.both (.op 2 (.op 3 (.op 4 (.op 5 .done)))) (.op 3 (.op 2 (.op 4 (.op 5 .done)))))) (.op 2 (.op 0 (.op 3 (.op 4 (.op 5 .done))))))))) := by kernel_rfl
theorem wh_rf : Tryz.f65.body.map noRF = some true := by kernel_rfl
theorem any_if : Tryz.prog.underlying 20 = some (.interface #[]) := by kernel_rfl
theorem wrong_c : Tryz.prog.concrete 93 = true := by kernel_rfl
abbrev whOb (s : ByteArray) (p : Nat) (x : List D) (a e : Int) : List Ob := [rdOb s p, .var 27 x, .var 3 [.i a], .var 30 [.i e]]
theorem recN (s : ByteArray) (p : Nat) (x : List D) (a e : Int) : DC Tryz.prog WH [.ref 1 0, .ref 2 0, .ref 3 0] (whOb s p x a e) Option.none (fun om => om = whOb s p x a e) := by
 refine DC.lbody hT Tryz.func65 f65_lc wh_rf f65_nm f65_res f65_nt ?_
 refine ALW.block (ALW.seq (ALW.regO ⟨rfl, OpO.eqNil any_if rfl (.inl ⟨rfl, rfl⟩) ?_⟩))
 refine ALW.cond (t := true) rfl ?_
 refine xl_ok hT hm ?_
 simp only [go_sem, Int.reduceEq, Int.reduceLE, Int.reduceLT, Int.reduceToNat]
 exact .inl trivial
theorem recW (s : ByteArray) (p k : Nat) (x : List D) (hx : x.length = 6) (a e : Int) :
  DC Tryz.prog WH [.ref 1 0, .ref 2 0, .ref 3 0] (whOb s p x a e) (some (wrongD k)) (fun om => om = whOb s p zRe k 2 ++ [.var 93 [.i k]]) := by
 obtain ⟨x0, x1, x2, x3, x4, x5, rfl⟩ : ∃ x0 x1 x2 x3 x4 x5, x = [x0, x1, x2, x3, x4, x5] := by
  match x, hx with
  | [x0, x1, x2, x3, x4, x5], _ => exact ⟨x0, x1, x2, x3, x4, x5, rfl⟩
 have hb := f65_lc
 have hrf := wh_rf
 have hd := wh_tree
 simp only [Option.map_eq_some_iff] at hb
 obtain ⟨c, hc, hl⟩ := hb
 rw [hc] at hd hrf
 simp only [f65_c, LC.st] at hl
 obtain ⟨c0, cB, rfl, h0, hB⟩ := lc_inv.1 _ _ hl
 obtain ⟨id0, ops0, rfl, e0⟩ := reg_none h0
 obtain ⟨cS, rfl, hS⟩ := lc_inv.2.2.2.2.2.1 _ _ hB
 obtain ⟨c1, cC, rfl, h1, hC⟩ := lc_inv.1 _ _ hS
 obtain ⟨id1, ops1, rfl, e1⟩ := reg_none h1
 obtain ⟨c2, c3, rfl, h2, h3⟩ := lc_inv.2.2.2.2.2.2.1 _ _ _ hC
 obtain ⟨id2, ops2, rfl, e2⟩ := reg_none h2
 obtain ⟨c3a, c4, rfl, h3a, h4⟩ := lc_inv.1 _ _ h3
 obtain ⟨id3, ops3, rfl, e3⟩ := reg_none h3a
 obtain ⟨c5, c6, rfl, h5, h6⟩ := lc_inv.2.2.2.2.2.2.1 _ _ _ h4
 obtain ⟨c5a, c5b, rfl, h5a, h5b⟩ := lc_inv.1 _ _ h5
 obtain ⟨id4, ops4, rfl, e4⟩ := reg_none h5a
 obtain ⟨id5, ops5, rfl⟩ := regq_inv h5b
 have hd5 : (ops5.toList.map lop, drawOk ops5 [] 0 false, mkTree ops5 ops5.size (headMask ops5.size 0)) = (f65_r5, true, (.both (.op 0 (.both (.op 1 (.both (.op 2 (.op 3 (.op 4 (.op 5 .done)))) (.op 3 (.op 2 (.op 4 (.op 5 .done)))))) (.op 3 (.op 1 (.op 2 (.op 4 (.op 5 .done))))))) (.op 1 (.both (.op 0 (.both (.op 2 (.op 3 (.op 4 (.op 5 .done)))) (.op 3 (.op 2 (.op 4 (.op 5 .done)))))) (.op 2 (.op 0 (.op 3 (.op 4 (.op 5 .done))))))))) := by
  simpa [drawn1] using hd
 simp only [Prod.mk.injEq] at hd5
 obtain ⟨d1, d2, d3⟩ := hd5
 refine DC.body hT Tryz.func65 hc f65_nm f65_res f65_nt e0 (by simpa [noRF] using hrf) ?_
 refine AW.block (AW.seq (AW.regionO _ e1 ⟨rfl, OpO.eqNil any_if rfl (.inr ⟨⟨_, _, rfl⟩, rfl⟩) ?_⟩))
 refine AW.cond (t := false) rfl ?_
 refine AW.seq (AW.regionO _ e3 ⟨rfl, OpO.assert wrong_c rfl ⟨rfl, OpO.aop hT ?_⟩⟩)
 simp only [go_sem, Int.reduceEq, Int.reduceLE, Int.reduceLT, Int.reduceToNat]
 refine ⟨rfl, OpO.aop hT ?_⟩
 simp only [go_sem, Int.reduceEq, Int.reduceLE, Int.reduceLT, Int.reduceToNat]
 refine AW.cond (t := true) rfl ?_
 refine AW.seq (AW.region hT _ [] e4 ?_)
 simp only [go_sem, Int.reduceEq, Int.reduceLE, Int.reduceLT, Int.reduceToNat]
 refine AW.regionT0 hT hm d1 d2 d3 ?_
 simp only [go_sem, Int.reduceEq, Int.reduceLE, Int.reduceLT, Int.reduceToNat]
 simp
abbrev wdD (x : Re × Nat × Nat) : D := .tup [.agg x.1.c, .i x.2.1, .i x.2.2]
theorem FinW {s : ByteArray} {k : Nat} {om : List Ob} {x : Re × Nat × Nat} {d : D} {om0 : List Ob} (h0 : om0.length = 1) (h : om[0]? = some (rdOb s k)) (hd : Cv om (kF [some 0]) [some 0] d (wdD x)) : Fin om0 om (.ret d) (fun o om => o = .ret (wdD x) ∧ ∃ k, om = [rdOb s k]) :=
 FinR h0 h hd ⟨rfl, k, rfl⟩
theorem wholeC (s : ByteArray) (hs : s.size ≤ 65536) : AC Tryz.prog 45 [.ref 0 0] [rdOb s 0] (fun o om => o = .ret (wdD (pWhole s)) ∧ ∃ k, om = [rdOb s k]) := by
 refine AC.lbodyD hT hm Tryz.func45 (l0 := .reg f45_r0 [] none) (l2 := .seq (.reg f45_r2 [] none) (.seq (.seq (.reg f45_r3 [] (some 9)) (.cond (.tmp 17) (.reg f45_r4 [] none) .skip)) (.seq (.reg f45_r5 [] none) .ret)))
  f45_lc f45_nm f45_res f45_nt ?_
 simp only [go_sem, Int.reduceEq, Int.reduceLE, Int.reduceLT, Int.reduceToNat]
 unfold pWhole
 refine ⟨_, (altC s hs _ 0 (Nat.le_refl _) (Nat.zero_le _)).pr _, ?_⟩
 cases hc : altF s 0
 case bad e =>
  rintro _ _ ⟨rfl, k, rfl⟩
  simp only [go_sem, Int.reduceEq, Int.reduceLE, Int.reduceLT, Int.reduceToNat, defQ]
  refine ⟨_, recW s k e zRe rfl 0 0, ?_⟩
  rintro _ rfl
  simp only [go_sem, Int.reduceEq, Int.reduceLE, Int.reduceLT, Int.reduceToNat]
  exact FinW rfl rfl (.tupL ⟨.aggL (by simp [CvL, Re.c_mk, Re.cs_eq]), .v, .v, trivial⟩)
 rename_i r q
 rintro _ _ ⟨rfl, rfl⟩
 simp only [go_sem, Int.reduceEq, Int.reduceLE, Int.reduceLT, Int.reduceToNat, Re.put1]
 by_cases hq : q < s.size
 ·simp only [go_sem, Int.reduceEq, Int.reduceLE, Int.reduceLT, Int.reduceToNat, hq, defQ]
  refine ⟨rfl, _, recW s q q r.c (by simp) 0 0, ?_⟩
  rintro _ rfl
  simp only [go_sem, Int.reduceEq, Int.reduceLE, Int.reduceLT, Int.reduceToNat]
  exact FinW rfl rfl (.tupL ⟨.aggL (by simp [CvL, Re.c_mk, Re.cs_eq]), .v, .v, trivial⟩)
 ·simp only [go_sem, Int.reduceEq, Int.reduceLE, Int.reduceLT, Int.reduceToNat, hq, defQ, Re.put]
  refine ⟨_, recN s q r.c 0 0, ?_⟩
  rintro _ rfl
  simp only [go_sem, Int.reduceEq, Int.reduceLE, Int.reduceLT, Int.reduceToNat]
  exact FinW rfl rfl (.tupL ⟨.same (Re.d_bl _), .v, .v, trivial⟩)
end Go.Proofs.YtlejbkfefpfolaaGreatDoor.W
