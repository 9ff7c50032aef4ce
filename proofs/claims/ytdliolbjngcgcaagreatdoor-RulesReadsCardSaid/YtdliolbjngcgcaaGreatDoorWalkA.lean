/- Names of rules. -/
import Derived.Test.YtdliolbjngcgcaaGreatDoorGenA
import Derived.Test.YtdliolbjngcgcaaGreatDoorGenB
import Derived.Test.YtdliolbjngcgcaaGreatDoorMathA
import Derived.Laws.StandIn
import Derived.Test.YtdliolbjngcgcaaGreatDoorLogicC
import Derived.Lib.Builder
import Derived.Lib.UnsafeStr
import Derived.Shelf.RegionOpenPlain
import Derived.Laws.Externs
import Derived.Test.YtdliolbjngcgcaaGreatDoorLogicA
import Derived.Lib.Bytealg
set_option linter.unusedVariables false
set_option linter.unusedSimpArgs false
set_option linter.unusedSectionVars false
set_option maxRecDepth 100000
namespace Go.Proofs.YtdliolbjngcgcaaGreatDoor.W
open Go Go.Proofs Go.Proofs.YtdliolbjngcgcaaGreatDoor.AWP
end Go.Proofs.YtdliolbjngcgcaaGreatDoor.W
set_option maxRecDepth 100000
namespace Go.Proofs.YtdliolbjngcgcaaGreatDoor.W
open Go Go.Proofs Go.Proofs.YtdliolbjngcgcaaGreatDoor.AWP
end Go.Proofs.YtdliolbjngcgcaaGreatDoor.W
set_option maxRecDepth 100000
namespace Go.Proofs.YtdliolbjngcgcaaGreatDoor.W
open Go Go.Proofs Go.Proofs.YtdliolbjngcgcaaGreatDoor.AWP
end Go.Proofs.YtdliolbjngcgcaaGreatDoor.W
set_option maxRecDepth 100000
namespace Go.Proofs.YtdliolbjngcgcaaGreatDoor.W
open Go Go.Proofs Go.Proofs.YtdliolbjngcgcaaGreatDoor.AWP
end Go.Proofs.YtdliolbjngcgcaaGreatDoor.W
set_option maxRecDepth 100000
namespace Go.Proofs.YtdliolbjngcgcaaGreatDoor.W
open Go Go.Proofs Go.Proofs.YtdliolbjngcgcaaGreatDoor.AWP
theorem bare (k : Int) : AP Tryz.prog 62 [.v (.int .u8 k)] (.agg (Re.mk k 0 0 0 0 []).c) := by
  refine AC.lbody hT hm Tryz.func62 f62_nm f62_lc f62_res f62_nt ?_
  simp only [go_sem]
  refine Fin.ret (.aggL ?_)
  simp [CvL, Re.c_mk, Re.cs_eq]
theorem many (x : Re) : AP Tryz.prog 61 [.agg x.c] (.agg (Re.mk 6 0 0 0 0 [x]).c) := by
  refine AC.lbody hT hm Tryz.func61 f61_nm f61_lc f61_res f61_nt ?_
  simp only [go_sem]
  refine Fin.ret (.aggL ?_)
  simp [CvL, Re.c_mk, Re.cs_eq]
end Go.Proofs.YtdliolbjngcgcaaGreatDoor.W
set_option maxRecDepth 100000
namespace Go.Proofs.YtdliolbjngcgcaaGreatDoor.W
open Go Go.Proofs Go.Proofs.YtdliolbjngcgcaaGreatDoor.AWP
theorem same (x : Re) : ∀ y : Re, AP Tryz.prog 18 [.agg x.c, .agg y.c] (.b (x.same y)) := by
  refine Re.ind (p := fun x => ∀ y : Re, AP Tryz.prog 18 [.agg x.c, .agg y.c] (.b (x.same y))) ?_ x
  rintro k a b c d ks ih ⟨k', a', b', c', d', ks'⟩
  refine AC.wf rfl fun hw => ?_
  have hlen : ks.length ≤ 9223372036854775807 := by
    have := Re.ok_agg (hw _ (List.mem_cons_self ..))
    rw [Re.Ok] at this
    exact this.2
  refine AC.lbody hT hm Tryz.func18 f18_nm f18_lc f18_res f18_nt ?_
  simp only [go_sem]
  by_cases h1 : k = k'
  case neg =>
    simp only [go_sem, bne_true h1]
    refine Fin.v ?_
    simp [Re.same, h1]
  subst h1
  simp only [go_sem, intsEq]
  by_cases h2 : a = a' ∧ b = b' ∧ c = c' ∧ d = d'
  case neg =>
    have e : (a == a' && (b == b' && (c == c' && (d == d' && true)))) = false := by
      rw [Bool.eq_false_iff]
      simpa using h2
    simp only [go_sem, e, Bool.not_false]
    refine Fin.v ?_
    rw [Re.same]
    simp [h2]
  obtain ⟨rfl, rfl, rfl, rfl⟩ := h2
  simp only [go_sem, Bool.and_self, Bool.not_true]
  have es : (Re.mk k a b c d ks).same (Re.mk k a b c d ks') = Re.sames ks ks' := by simp [Re.same]
  rw [es]
  by_cases h3 : (ks.length : Int) = ks'.length
  case neg =>
    simp only [go_sem, bne_true h3]
    refine Fin.v ?_
    rw [Re.sames_len _ _ (by omega)]
  simp only [go_sem, h3]
  refine xl_loopM hT hm (fun i : Nat => ⟨f18_i9 (.pel (Re.mk k a b c d ks).c) (.pel (Re.mk k a b c d ks').c) (.i ks'.length) (.i i), []⟩)
    (fun i : Nat => i ≤ ks.length ∧ Re.sames ks ks' = Re.sames (ks.drop i) (ks'.drop i)) (fun i => ks.length - i) 0 ⟨Nat.zero_le _, rfl⟩ (Mv.none (by simp [f18_i9, Re.c_mk, Re.cs_eq])) ?_
  rintro i ⟨q1, q3⟩
  simp only [go_sem]
  by_cases hi : i < ks'.length
  · obtain ⟨x, hxi⟩ := get_ex (l := ks) (show i < ks.length by omega)
    obtain ⟨y, hyi⟩ := get_ex hi
    simp only [go_sem, hi, hxi, hyi]
    refine (ih x (List.mem_of_getElem? hxi) y).pv (by simp) ?_
    simp only [go_sem]
    cases hs : x.same y with
    | true =>
      simp only [go_sem, Bool.not_true]
      refine ⟨i + 1, ⟨by omega, ?_⟩, by omega, ?_⟩
      · rw [q3, drop_get hxi, drop_get hyi, Re.sames, hs, Bool.true_and]
      · rw [wrap_succ i (by omega)]
        exact Mv.none (by simp)
    | false =>
      simp only [go_sem, Bool.not_false]
      refine Fin.v ?_
      rw [q3, drop_get hxi, drop_get hyi, Re.sames, hs, Bool.false_and]
  · simp only [go_sem, hi]
    refine Fin.v ?_
    rw [q3, drop_end hi, drop_end (show ¬ i < ks.length by omega), Re.sames]
end Go.Proofs.YtdliolbjngcgcaaGreatDoor.W
set_option maxRecDepth 100000
/- Where a byte first stands in a text. -/
namespace Go.Proofs.YtdliolbjngcgcaaGreatDoor.W
open Go Go.Proofs Go.Proofs.YtdliolbjngcgcaaGreatDoor.AWP
theorem ixX (s : ByteArray) (c : Int) (w : World) : (callFunc 54 #[.string s, .int .u8 c]).run Tryz.prog w = .ok (.value (.int .i64 (firstIdx s c.toNat.toUInt8))) w := by
  rw [run_callFunc_indexByte Tryz.func54 (by kernel_rfl) (by kernel_rfl) (by kernel_rfl) (by kernel_rfl)]
  rw [run_indexByte_string]
  rfl
theorem ix0 (s : ByteArray) (c : Int) (w : World) : Calls Tryz.prog 37 #[.string s, .int .u8 c] w fun e w' => e = .returned (.int .i64 (firstIdx s c.toNat.toUInt8)) ∧ w' = w := by
  refine calls_of_wp Tryz.func37 rfl ?_
  refine wp_seq (wp_region ?_)
  simp [wpOps, Region.wanted, Oper.wp, execOp, Oper.upon, Tryz.ntmps37, Act.eval, Act.put, Exit.then]
  refine .inl (wp_seq (wp_region ?_))
  simp [wpOps, Region.wanted, Oper.wp, execOp, Oper.upon, Act.eval, Act.put, Exit.then, resolve, Deferred.ofValue, invoke, ixX, List.range_succ, Array.replicate_succ]
  exact .inl (.inl (.inl (.inl (wp_ret ⟨rfl, _, results_tmp rfl _ _ _, rfl, rfl⟩))))
theorem _root_.Go.Proofs.YtdliolbjngcgcaaGreatDoor.AWP.AO.of_calls {P : Program} {f : FuncId} {vs : List Value} {x : Value} (hok : callOk P f = true) (h : ∀ w, Calls P f vs.toArray w fun e w' => e = .returned x ∧ w' = w) : AP P f (vs.map .v) (.v x) := by
  refine ⟨hok, fun E us hR hA => ?_⟩
  have e : us = vs.toArray := by
    refine Array.ext (by simpa using hA.1) fun j h1 h2 => ?_
    have hj : j < vs.length := by simpa using h2
    have := (hA.2 j (.v vs[j]) (by simp [hj])).v_inv
    simpa [Array.getD, h1] using this
  subst e
  refine (h E.w).mono ?_
  rintro e w' ⟨rfl, rfl⟩
  exact ⟨E, _, _, ⟨rfl, rfl⟩, rfl, Ext.refl _ _, hR, .v _⟩
theorem ix1 (s : ByteArray) (c : UInt8) : AP Tryz.prog 37 [.v (.string s), .v (.int .u8 c.toNat)] (.i (firstIdx s c)) := by
  have := AO.of_calls (P := Tryz.prog) (f := 37) (vs := [.string s, .int .u8 c.toNat]) rfl (fun w => ix0 s c.toNat w)
  have e : (c.toNat : Int).toNat.toUInt8 = c := by simp
  rw [e] at this
  exact this
theorem ix (s : ByteArray) (c : UInt8) : AP Tryz.prog 25 [.v (.string s), .v (.int .u8 c.toNat)] (.i (firstIdx s c)) := by
  refine AC.lbody hT hm Tryz.func25 f25_nm f25_lc f25_res f25_nt ?_
  simp only [go_sem]
  refine (ix1 s c).pv (by simp) ?_
  simp only [go_sem]
  exact Fin.v rfl
end Go.Proofs.YtdliolbjngcgcaaGreatDoor.W
set_option maxRecDepth 100000
/- Hexadecimal digits; a byte's sign. -/
namespace Go.Proofs.YtdliolbjngcgcaaGreatDoor.W
open Go Go.Proofs Go.Proofs.YtdliolbjngcgcaaGreatDoor.AWP
theorem digitN (b : UInt8) : AP Tryz.prog 96 [.y b] (.y (hexD b.toNat)) := by
  refine AC.lbody hT hm Tryz.func96 f96_nm f96_lc f96_res f96_nt ?_
  simp only [go_sem, and15]
  have e : hexS.data[b.toNat % 16]? = some (hexD b.toNat) := hexD_get _
  unfold hexS at e
  simp only [go_sem, e]
  exact Fin.v rfl
abbrev byOb (l : List UInt8) : Ob := .slc 5 1 (byteRows l)
theorem mvB {l : List UInt8} {k : Nat} {om : List Ob} {F : Nat → Bool} (h : om[k]? = some (byOb l)) : MvL om F [some k] [some k] [byOb l] := ⟨.slcS h (by simp), trivial⟩
theorem hexN (l : List UInt8) (hl : l.length ≤ 1000) : AP Tryz.prog 85 [Bys l] (.s ⟨(hexL l).toArray⟩) := by
  refine AC.lbody hT hm Tryz.func85 f85_nm f85_lc f85_res f85_nt ?_
  simp only [go_sem]
  have e1 : IntKind.i64.wrap (2 * (l.length : Int)) = ((2 * l.length : Nat) : Int) := by rw [wrap_int _ (by omega) (by omega)]; simp
  simp only [go_sem, e1]
  refine ⟨by omega, by omega, by omega, ?_⟩
  refine xl_loopM hT hm (fun i : Nat => ⟨f85_i7 (.own 0) (Bys l) (.i l.length) (.i i), [byOb (hexL (l.take i))]⟩)
    (fun i => i ≤ l.length) (fun i => l.length - i) 0 (Nat.zero_le _) (Mv.of [some 0] rfl (mvB rfl) (by simp [f85_i7])) ?_
  intro i hi
  have hlen := hexL_len (l.take i)
  simp at hlen
  simp only [go_sem]
  by_cases h : i < l.length
  case neg =>
    simp only [go_sem, h, bytesOfRows_of]
    rw [List.take_of_length_le (by omega)]
    exact Fin.v rfl
  obtain ⟨b, hb⟩ := get_ex h
  simp only [go_sem, h, byteRows_get hb, Int.reduceLE, pow4, shr4]
  refine (digitN (UInt8.ofNat (b.toNat / 16))).pv (by simp) ?_
  simp only [go_sem]
  refine (digitN b).pv (by simp) ?_
  simp only [go_sem]
  refine ⟨by omega, i + 1, h, by omega, ?_⟩
  rw [wrap_succ i (by omega), hexL_take hb]
  have e : (UInt8.ofNat (b.toNat / 16)).toNat = b.toNat / 16 := by rw [UInt8.toNat_ofNat']; have := b.toNat_lt; omega
  exact Mv.of [some 1] rfl (mvB (by simp [byteRows, hexB, e])) (by simp)
theorem signN (b : UInt8) : AP Tryz.prog 70 [.y b] (.s ⟨(signB b).toArray⟩) := by
  refine AC.lbody hT hm Tryz.func70 f70_nm f70_lc f70_res f70_nt ?_
  simp only [go_sem]
  have bare : (b.toNat : Int) < 33 ∨ 126 < (b.toNat : Int) ∨ 0 ≤ firstIdx spec1 b → signB b = 92 :: hexB b := by
    intro h
    unfold signB plain
    rw [if_neg]
    simp only [Bool.not_eq_true', Bool.or_eq_false_iff, decide_eq_false_iff_not, not_and]
    omega
  have e92 : (⟨#[92]⟩ : ByteArray) = ⟨([92] : List UInt8).toArray⟩ := rfl
  have hs : (⟨([92] : List UInt8).toArray⟩ : ByteArray).size + (⟨(hexL [b]).toArray⟩ : ByteArray).size ≤ 9223372036854775807 := by rw [ba_size, ba_size, hexL_len]; simp
  have hb : hexL [b] = hexB b := by simp [hexL]
  have fin : signB b = 92 :: hexB b → (⟨([92] : List UInt8).toArray⟩ : ByteArray) ++ ⟨(hexL [b]).toArray⟩ = ⟨(signB b).toArray⟩ := by
    intro h
    rw [ba_app, h, hb]; rfl
  by_cases h1 : (b.toNat : Int) < 33
  · simp only [go_sem, h1]
    refine (hexN [b] (by simp)).pv ⟨.eq rfl (by simp), trivial⟩ ?_
    simp only [go_sem, e92, hs]
    exact Fin.v (by rw [fin (bare (.inl h1))])
  by_cases h2 : 126 < (b.toNat : Int)
  · simp only [go_sem, h1, h2]
    refine (hexN [b] (by simp)).pv ⟨.eq rfl (by simp), trivial⟩ ?_
    simp only [go_sem, e92, hs]
    exact Fin.v (by rw [fin (bare (.inr (.inl h2)))])
  simp only [go_sem, h1, h2]
  refine (ix spec1 b).pv ⟨.eq rfl (by simp), .v, trivial⟩ ?_
  by_cases h3 : 0 ≤ firstIdx spec1 b
  · simp only [go_sem, h3]
    refine (hexN [b] (by simp)).pv ⟨.eq rfl (by simp), trivial⟩ ?_
    simp only [go_sem, e92, hs]
    exact Fin.v (by rw [fin (bare (.inr (.inr h3)))])
  · have e1 : bytesOfRows [[.v (.int .u8 b.toNat)]] = some [b] := bytesOfRows_of [b]
    simp only [go_sem, h3, e1]
    refine Fin.v ?_
    have : plain b = true := by
      unfold plain
      simp only [Bool.not_eq_true', Bool.or_eq_false_iff, decide_eq_false_iff_not]
      omega
    rw [signB, if_pos this]
end Go.Proofs.YtdliolbjngcgcaaGreatDoor.W
set_option maxRecDepth 100000
/- Sets of bytes. -/
namespace Go.Proofs.YtdliolbjngcgcaaGreatDoor.W
open Go Go.Proofs Go.Proofs.YtdliolbjngcgcaaGreatDoor.AWP
abbrev wOb (ws : List Int) : Ob := .var 49 (ws.map wD)
theorem mvW {a b : List Int} {om : List Ob} {F : Nat → Bool} (h : om[0]? = some (wOb a)) (h' : om[1]? = some (wOb b)) : MvL om F [some 0, some 1] [some 0, some 1] [wOb a, wOb b] :=
  ⟨.varS h (by intro d hd; simp [wD] at hd; obtain ⟨_, _, rfl⟩ := hd; exact .v _), .varS h' (by intro d hd; simp [wD] at hd; obtain ⟨_, _, rfl⟩ := hd; exact .v _), trivial⟩
theorem W_bl (ws : List Int) : ∀ d ∈ ws.map wD, Bl 0 d := by intro d hd; simp [wD] at hd; obtain ⟨_, _, rfl⟩ := hd; exact .v _
theorem setOf (l : List UInt8) (hl : l.length ≤ 1000) : AP Tryz.prog 106 [Bys l] (Ws (ofS l)) := by
  refine AC.lbody hT hm Tryz.func106 f106_nm f106_lc f106_res f106_nt ?_
  simp only [go_sem]
  refine xl_loopM hT hm (fun i : Nat => ⟨f106_i7 (.ref 0 0) (.ref 1 0) (Bys l) (.i l.length) (.i i), [wOb noneS, wOb (ofS (l.take i))]⟩)
    (fun i => i ≤ l.length) (fun i => l.length - i) 0 (Nat.zero_le _) (Mv.of [some 0, some 1] rfl (mvW rfl rfl) (by simp [f106_i7])) ?_
  intro i hi
  simp only [go_sem]
  by_cases h : i < l.length
  case neg =>
    simp only [go_sem, h]
    rw [List.take_of_length_le (by omega)]
    have h4 := ofS_len l
    have p0 := W_put (ty := 49) (a := noneS) rfl h4
    simp only [go_sem, Int.reduceEq, Int.reduceLE, Int.reduceLT, Int.reduceToNat, h4, W_take h4, p0, W_drop0]
    exact Fin.ret (Cv.same (.agg (W_bl _)))
  obtain ⟨b, hb⟩ := get_ex h
  have h4 := ofS_len (l.take i)
  have e := ofS_take hb
  generalize ofS (l.take i) = ws at h4 e
  simp only [go_sem, Int.reduceEq, Int.reduceLE, Int.reduceLT, Int.reduceToNat, h, byteRows_get hb, q64, r64, lt4]
  have hq : b.toNat / 64 < ws.length := by rw [h4]; exact lt4 b
  have hw := ws_get hq
  simp only [go_sem, Int.reduceEq, Int.reduceLE, Int.reduceLT, Int.reduceToNat, hw, hq, wD_eq, q64, r64, lt4]
  rw [wrap_succ i (by omega)]
  refine ⟨i + 1, h, by omega, ?_⟩
  rw [e]
  exact Mv.of [some 0, some 1] rfl (mvW rfl (by simp [setBit, bit, wD])) (by simp)
theorem byteNat {n : Nat} (h : n < 256) : ((UInt8.ofNat n).toNat : Nat) = n := by rw [UInt8.toNat_ofNat']; omega
theorem setRange (lo hi : UInt8) : AP Tryz.prog 103 [.y lo, .y hi] (Ws (rangeS lo.toNat (hi.toNat + 1 - lo.toNat))) := by
  have hlo := lo.toNat_lt
  have hhi := hi.toNat_lt
  refine AC.lbody hT hm Tryz.func103 f103_nm f103_lc f103_res f103_nt ?_
  simp only [go_sem, Int.reduceEq, Int.reduceLE, Int.reduceLT, Int.reduceToNat]
  refine xl_loopM hT hm (fun i : Nat => ⟨f103_i6 (.y hi) (.ref 0 0) (.ref 1 0) (.i (lo.toNat + i : Nat)), [wOb noneS, wOb (rangeS lo.toNat i)]⟩)
    (fun i => i ≤ hi.toNat + 1 - lo.toNat) (fun i => 256 - i) 0 (Nat.zero_le _) ?_ ?_
  · rw [wrap_nat _ (by omega)]
    exact Mv.of [some 0, some 1] rfl (mvW rfl rfl) (by simp [f103_i6])
  intro i hle
  simp only [go_sem, Int.reduceEq, Int.reduceLE, Int.reduceLT, Int.reduceToNat]
  rw [wrap_nat _ (by omega)]
  by_cases h : lo.toNat + i ≤ hi.toNat
  case neg =>
    have hn : hi.toNat + 1 - lo.toNat = i := by omega
    have h4 := rangeS_len lo.toNat i
    have p0 := W_put (ty := 49) (a := noneS) rfl h4
    simp only [go_sem, Int.reduceEq, Int.reduceLE, Int.reduceLT, Int.reduceToNat, h, h4, W_take h4, p0, W_drop0]
    rw [hn]
    exact Fin.ret (Cv.same (.agg (W_bl _)))
  have h4 := rangeS_len lo.toNat i
  have e : rangeS lo.toNat (i + 1) = setBit (rangeS lo.toNat i) (lo.toNat + i) := rfl
  generalize rangeS lo.toNat i = ws at h4 e
  have hb : lo.toNat + i = (UInt8.ofNat (lo.toNat + i)).toNat := (byteNat (by omega)).symm
  generalize UInt8.ofNat (lo.toNat + i) = b at hb
  rw [hb] at h e ⊢
  have hq : b.toNat / 64 < ws.length := by rw [h4]; exact lt4 b
  have hw := ws_get hq
  simp only [go_sem, Int.reduceEq, Int.reduceLE, Int.reduceLT, Int.reduceToNat, h, hw, hq, wD_eq, q64i, r64, lt4]
  rw [wrap_succ _ (by omega)]
  refine ⟨i + 1, by omega, by omega, ?_⟩
  rw [e, ← Nat.add_assoc, hb]
  exact Mv.of [some 0, some 1] rfl (mvW rfl (by simp [setBit, bit, wD])) (by simp)
end Go.Proofs.YtdliolbjngcgcaaGreatDoor.W
set_option maxRecDepth 100000
/- Sets joined; expressions of sets. -/
namespace Go.Proofs.YtdliolbjngcgcaaGreatDoor.W
open Go Go.Proofs Go.Proofs.YtdliolbjngcgcaaGreatDoor.AWP
theorem mvW3 {a b c : List Int} {om : List Ob} {F : Nat → Bool} (h : om[0]? = some (wOb a)) (h' : om[1]? = some (wOb b)) {k : Nat} (h2 : om[k]? = some (wOb c)) : MvL om F [some 0, some 1, some k] [some 0, some 1, some k] [wOb a, wOb b, wOb c] :=
  ⟨.varS h (W_bl _), .varS h' (W_bl _), .varS h2 (W_bl _), trivial⟩
theorem setJoin (l : List (List Int)) (hl : l.length ≤ 1000) (hw : ∀ x ∈ l, x.length = 4) : AP Tryz.prog 109 [Wss l] (Ws (joinAll l)) := by
  refine AC.lbody hT hm Tryz.func109 f109_nm f109_lc f109_res f109_nt ?_
  simp only [go_sem, Int.reduceEq, Int.reduceLE, Int.reduceLT, Int.reduceToNat]
  refine xl_loopM hT hm (fun i : Nat => ⟨f109_i12 (.ref 0 0) (.ref 1 0) (Wss l) (.i l.length) (.i i), [wOb noneS, wOb (joinAll (l.take i))]⟩)
    (fun i => i ≤ l.length) (fun i => l.length - i) 0 (Nat.zero_le _) (Mv.of [some 0, some 1] rfl (mvW rfl rfl) (by simp [f109_i12, wD])) ?_
  intro i hi
  simp only [go_sem, Int.reduceEq, Int.reduceLE, Int.reduceLT, Int.reduceToNat]
  have h4 : (joinAll (l.take i)).length = 4 := joinAll_len fun x hx => hw x (List.mem_of_mem_take hx)
  by_cases h : i < l.length
  case neg =>
    have ht : l.take i = l := List.take_of_length_le (by omega)
    rw [ht] at h4
    have p0 := W_put (ty := 49) (a := noneS) rfl h4
    simp only [go_sem, Int.reduceEq, Int.reduceLE, Int.reduceLT, Int.reduceToNat, h, ht, h4, W_take h4, p0, W_drop0]
    exact Fin.ret (Cv.same (.agg (W_bl _)))
  obtain ⟨x, hx⟩ := get_ex h
  have hx4 := hw x (List.mem_of_getElem? hx)
  have e := joinAll_take hx
  generalize joinAll (l.take i) = ws at h4 e
  have p1 := W_put (ty := 49) (a := noneS) rfl hx4
  simp only [go_sem, Int.reduceEq, Int.reduceLE, Int.reduceLT, Int.reduceToNat, h, hx, hx4, W_take hx4, p1, W_drop0]
  refine xl_loopM hT hm (fun k : Nat => ⟨f109_i10 (.ref 0 0) (.ref 1 0) (.ref 2 0) (Wss l) (.i l.length) (.i i) (.i k), [wOb noneS, wOb (jn ws x k), wOb x]⟩)
    (fun k => k ≤ 4) (fun k => 4 - k) 0 (Nat.zero_le _) (Mv.of [some 0, some 1, some 2] rfl (mvW3 rfl (by simp [jn]) rfl) (by simp [f109_i10])) ?_
  intro k hk
  have hj := jn_len h4 hx4 hk
  by_cases hk4 : k < 4
  case neg =>
    have ek : k = 4 := by omega
    subst ek
    have ej := jn_end h4 hx4
    have hf : decide (((4 : Nat) : Int) < 4) = false := rfl
    simp only [go_sem, Int.reduceEq, Int.reduceLE, Int.reduceLT, Int.reduceToNat]
    simp only [go_sem, Int.reduceEq, Int.reduceLE, Int.reduceLT, Int.reduceToNat, hf]
    rw [wrap_succ i (by omega)]
    refine ⟨i + 1, h, by omega, ?_⟩
    rw [e, ← ej]
    exact Mv.of [some 0, some 1] rfl (mvW rfl rfl) (by simp)
  have ht : decide ((k : Int) < 4) = true := by simp; omega
  have hs := jn_step h4 hx4 hk4
  generalize jn ws x k = cur at hj hs
  have hc : k < cur.length := by omega
  have hw1 := ws_get hc
  have hw2 := ws_get (ws := x) (i := k) (by omega)
  simp only [go_sem, Int.reduceEq, Int.reduceLE, Int.reduceLT, Int.reduceToNat]
  simp only [go_sem, Int.reduceEq, Int.reduceLE, Int.reduceLT, Int.reduceToNat, ht, hw1, hw2, hk4, hc, wD_eq]
  rw [wrap_succ k (by omega)]
  refine ⟨k + 1, by omega, by omega, ?_⟩
  rw [← hs]
  exact Mv.of [some 0, some 1, some 2] rfl (mvW3 rfl (by simp [wD]) rfl) (by simp)
theorem rexOf (ws : List Int) (h4 : ws.length = 4) : AP Tryz.prog 102 [Ws ws] (.agg (reS ws).c) := by
  obtain ⟨a, b, c, d, rfl⟩ := four h4
  refine AC.lbody hT hm Tryz.func102 f102_nm f102_lc f102_res f102_nt ?_
  simp only [go_sem, Int.reduceEq, Int.reduceLE, Int.reduceLT, Int.reduceToNat, wD_eq, intsEq]
  by_cases h : a = 0 ∧ b = 0 ∧ c = 0 ∧ d = 0
  · have e : (a == 0 && (b == 0 && (c == 0 && (d == 0 && true)))) = true := by simpa using h
    simp only [go_sem, Int.reduceEq, Int.reduceLE, Int.reduceLT, Int.reduceToNat, e]
    obtain ⟨rfl, rfl, rfl, rfl⟩ := h
    refine Fin.ret ?_
    have e3 : reS [0, 0, 0, 0] = .mk 1 0 0 0 0 [] := if_pos rfl
    rw [e3]
    exact .aggL (by simp [CvL, Re.c_mk, Re.cs_eq])
  · have e : (a == 0 && (b == 0 && (c == 0 && (d == 0 && true)))) = false := by
      rw [Bool.eq_false_iff]; simpa using h
    simp only [go_sem, Int.reduceEq, Int.reduceLE, Int.reduceLT, Int.reduceToNat, e]
    refine Fin.ret ?_
    have e3 : reS [a, b, c, d] = .mk 3 a b c d [] := if_neg (by unfold noneS; simpa using h)
    rw [e3]
    exact .aggL (by simp [CvL, Re.c_mk, Re.cs_eq])
theorem rexMany (x : Re) : AP Tryz.prog 98 [.agg x.c] (.agg (Re.mk 6 0 0 0 0 [x]).c) := by
  refine AC.lbody hT hm Tryz.func98 f98_nm f98_lc f98_res f98_nt ?_
  simp only [go_sem, Int.reduceEq, Int.reduceLE, Int.reduceLT, Int.reduceToNat]
  refine Fin.ret (.aggL ?_)
  simp [CvL, Re.c_mk, Re.cs_eq]
end Go.Proofs.YtdliolbjngcgcaaGreatDoor.W
set_option maxRecDepth 100000
/- Some expressions made one. -/
namespace Go.Proofs.YtdliolbjngcgcaaGreatDoor.W
open Go Go.Proofs Go.Proofs.YtdliolbjngcgcaaGreatDoor.AWP
abbrev BWD : Nat := 108
theorem backward (l : List Re) : AP Tryz.prog 99 [Res l] (.fn BWD [.pel [Res l]]) := by
  refine AC.lbody hT hm Tryz.func99 f99_nm f99_lc f99_res f99_nt ?_
  simp only [go_sem]
  exact Fin.ret (Cv.same (by simp))
/-- The slots of fold where its loop begins. -/
abbrev foldE (kind none : Int) (m : List Re) (x : Re) : List D :=
  [.v (.int .u8 kind), .v (.int .u8 none), Res (m ++ [x]), .pel [.v (.int .u8 kind)], .any, .any, .ref 0 0, .ref 1 0, .any, .any, Res (m ++ [x]),
    .i ((m.length + 1 : Nat) : Int), .b false, .any, .any, Res (m ++ [x]), Res (m ++ [x]), .i ((m.length + 1 : Nat) : Int), .i m.length, .pel x.c,
    .agg x.c, Res (m ++ [x]), Res (m ++ [x]), .i ((m.length + 1 : Nat) : Int), .i m.length, .sl 6 (m.map Re.c), .fn BWD [.pel [Res m]], .any, .any, .any, .any, .any, .any, .any, .any]
abbrev reVar (r : Re) : Ob := .var 52 r.c
theorem Re.put (ty : Nat) (a b : Re) : obPut (.var ty a.c) 0 b.c = some (.var ty b.c) := by
  rw [obPut_var (by simp), splc_all (by simp)]
theorem Re.put0 (ty : Nat) (a : List D) (ha : a.length = 6) (b : Re) : obPut (.var ty a) 0 b.c = some (.var ty b.c) := by
  rw [obPut_var (by simp [ha]), splc_all (by simp [ha])]
theorem foldRound {ca cb : Code} (ha : lc ca = (f90_a7).st) (hb : lc cb = (f90_b7).st) (kind none : Int) (m : List Re) (x : Re) (z : List D) (hz : ∀ d ∈ z, Bl 0 d) (j : Int) (y acc : Re) :
    AY Tryz.prog 2 [.i j, .agg y.c] [.var 52 z, reVar acc, .lp #[27, 28] ca cb .ready Option.none (foldE kind none m x)]
      (fun o om' => o = .ret (.b true) ∧ om' = [.var 52 z, reVar (.mk kind 0 0 0 0 [y, acc]), .lp #[27, 28] ca cb .ready Option.none (foldE kind none m x)]) := by
  refine AY.walk hT hm ha hb rfl rfl rfl ?_
  simp only [go_sem, Int.reduceEq, Int.reduceLE, Int.reduceLT, Int.reduceToNat]
  have e : ((((((acc.c.set 0 (.v (.int .u8 kind))).set 1 (.v (.int .u64 0))).set 2 (.v (.int .u64 0))).set 3 (.v (.int .u64 0))).set 4 (.v (.int .u64 0))).set 5 (.sl 6 [y.c, acc.c])) = (Re.mk kind 0 0 0 0 [y, acc]).c := by
    obtain ⟨k, a, b, c, d, ks⟩ := acc
    rw [Re.c_mk kind, Re.c_mk k, Re.cs_eq]
    simp [Re.c_mk, Re.cs_eq]
  rw [e]
  exact Fin.mv (om' := [.var 52 z, reVar (.mk kind 0 0 0 0 [y, acc]), .lp #[27, 28] ca cb .ready Option.none (foldE kind none m x)]) [some 0, some 1, some 2] rfl
    ⟨.varS rfl hz, .varS rfl (Re.c_bl _), .lpL rfl (by simp), trivial⟩ .v ⟨rfl, rfl⟩
theorem backward1 {ca cb : Code} (ha : lc ca = (f90_a7).st) (hb : lc cb = (f90_b7).st) (kind none : Int) (m : List Re) (hm' : m.length ≤ 100000) (x : Re) (z : List D) (hz : ∀ d ∈ z, Bl 0 d) :
    AC Tryz.prog BWD [.yld 2, .pel [Res m]] [.var 52 z, reVar x, .lp #[27, 28] ca cb .ready Option.none (foldE kind none m x)]
      (fun o om' => o = .ret (.tup []) ∧ om' = [.var 52 z, reVar (foldR kind m x), .lp #[27, 28] ca cb .ready Option.none (foldE kind none m x)]) := by
  have mv3 : ∀ {om : List Ob} {F : Nat → Bool} (a : Re), om[0]? = some (.var 52 z) → om[1]? = some (reVar a) → om[2]? = some (.lp #[27, 28] ca cb .ready Option.none (foldE kind none m x)) →
      MvL om F [some 0, some 1, some 2] [some 0, some 1, some 2] [.var 52 z, reVar a, .lp #[27, 28] ca cb .ready Option.none (foldE kind none m x)] :=
    fun a h0 h1 h2 => ⟨.varS h0 hz, .varS h1 (Re.c_bl _), .lpL h2 (by simp), trivial⟩
  refine AC.lbody hT hm Tryz.func108 f108_nm f108_lc f108_res f108_nt ?_
  simp only [go_sem, Int.reduceEq, Int.reduceLE, Int.reduceLT, Int.reduceToNat]
  refine xl_loopM hT hm (fun i : Nat => ⟨f108_i4 (.yld 2) (.pel [Res m]) (.i ((i : Int) - 1)), [.var 52 z, reVar (foldR kind (m.drop i) x), .lp #[27, 28] ca cb .ready Option.none (foldE kind none m x)]⟩)
    (fun i => i ≤ m.length) (fun i => i) m.length (Nat.le_refl _) ?_ ?_
  · rw [wrap_int _ (by omega) (by omega), List.drop_length]
    exact Mv.of [some 0, some 1, some 2] rfl (mv3 _ rfl rfl rfl) (by simp [f108_i4])
  intro i hi
  cases i with
  | zero =>
    have hf : decide ((0 : Int) ≤ ((0 : Nat) : Int) - 1) = false := rfl
    simp only [go_sem, Int.reduceEq, Int.reduceLE, Int.reduceLT, Int.reduceToNat]
    simp only [go_sem, Int.reduceEq, Int.reduceLE, Int.reduceLT, Int.reduceToNat, hf]
    exact Fin.mv (om' := [.var 52 z, reVar (foldR kind m x), .lp #[27, 28] ca cb .ready Option.none (foldE kind none m x)]) [some 0, some 1, some 2] rfl (mv3 _ rfl rfl rfl) (by simp) ⟨rfl, rfl⟩
  | succ i =>
    have e1 : (((i + 1 : Nat) : Int) - 1) = (i : Int) := by omega
    obtain ⟨y, hy⟩ := get_ex (l := m) (show i < m.length by omega)
    rw [e1]
    simp only [go_sem, Int.reduceEq, Int.reduceLE, Int.reduceLT, Int.reduceToNat, hy]
    refine ⟨_, foldRound ha hb kind none m x z hz i y (foldR kind (m.drop (i + 1)) x), ?_⟩
    rintro _ _ ⟨rfl, rfl⟩
    simp only [go_sem, Int.reduceEq, Int.reduceLE, Int.reduceLT, Int.reduceToNat]
    refine ⟨i, by omega, by omega, ?_⟩
    rw [wrap_int _ (by omega) (by omega)]
    have e2 : foldR kind (m.drop i) x = .mk kind 0 0 0 0 [y, foldR kind (m.drop (i + 1)) x] := by rw [drop_get hy]; rfl
    rw [e2]
    exact Mv.of [some 0, some 1, some 2] rfl (mv3 _ rfl rfl rfl) (by simp)
theorem fold (kind none : Int) (l : List Re) (hl : l.length ≤ 100000) : AP Tryz.prog 90 [.v (.int .u8 kind), .v (.int .u8 none), Res l] (.agg (foldL kind none l).c) := by
  have hA : l = [] ∨ ∃ m x, l = m ++ [x] := by
    rcases List.eq_nil_or_concat l with h | ⟨A', y, h⟩
    · exact .inl h
    · exact .inr ⟨A', y, by rw [h, List.concat_eq_append]⟩
  rcases hA with rfl | ⟨m, x, rfl⟩
  · refine AC.lbody hT hm Tryz.func90 f90_nm f90_lc f90_res f90_nt ?_
    simp only [go_sem, Int.reduceEq, Int.reduceLE, Int.reduceLT, Int.reduceToNat]
    have e0 : (((0 : Nat) : Int) == 0) = true := rfl
    simp only [go_sem, Int.reduceEq, Int.reduceLE, Int.reduceLT, Int.reduceToNat, List.length_nil, e0]
    refine Fin.ret ?_
    exact .aggL (by simp [CvL, Re.c_mk, Re.cs_eq, foldL])
  have hlen : (m ++ [x]).length = m.length + 1 := by simp
  have hn0 : ¬ ((m.length + 1 : Nat) : Int) = 0 := by omega
  have hsub : IntKind.i64.wrap (((m.length + 1 : Nat) : Int) - 1) = (m.length : Int) := by rw [wrap_int _ (by omega) (by omega)]; omega
  have hget : (m ++ [x])[m.length]? = some x := by simp
  have hle : m.length ≤ (m ++ [x]).length := by simp
  have htk : ((m ++ [x]).map Re.c).take m.length = m.map Re.c := by simp
  refine AC.lbody hT hm Tryz.func90 f90_nm f90_lc f90_res f90_nt ?_
  simp only [go_sem, Int.reduceEq, Int.reduceLE, Int.reduceLT, Int.reduceToNat, hlen]
  simp only [go_sem, Int.reduceEq, Int.reduceLE, Int.reduceLT, Int.reduceToNat, beq_false hn0, hsub, hget, hlen, Nat.le_succ, Nat.zero_le, htk]
  refine (backward m).pd ⟨.eq (by rw [← Re.cs_eq]) (by simp), trivial⟩ (by simp) ?_
  simp only [go_sem, Int.reduceEq, Int.reduceLE, Int.reduceLT, Int.reduceToNat, W_rfun]
  intro ca cb ha hb
  refine ⟨_, backward1 ha hb kind none m (by omega) x (z := [.v (.int .u8 0), .v (.int .u64 0), .v (.int .u64 0), .v (.int .u64 0), .v (.int .u64 0), .v (.slice Option.none 0 0)]) (by simp), ?_⟩
  rintro _ _ ⟨rfl, rfl⟩
  simp only [go_sem, Int.reduceEq, Int.reduceLE, Int.reduceLT, Int.reduceToNat]
  refine ⟨by simp, ?_⟩
  refine Fin.ret ?_
  have e : foldL kind none (m ++ [x]) = foldR kind m x := by simp [foldL]
  rw [e]
  exact .same (Re.d_bl _)
theorem rexThen (l : List Re) (hl : l.length ≤ 100000) : AP Tryz.prog 89 [Res l] (.agg (foldL 4 2 l).c) := by
  refine AC.lbody hT hm Tryz.func89 f89_nm f89_lc f89_res f89_nt ?_
  simp only [go_sem, Int.reduceEq, Int.reduceLE, Int.reduceLT, Int.reduceToNat]
  refine (fold 4 2 l hl).pd (by simp) (by simp) ?_
  simp only [go_sem, Int.reduceEq, Int.reduceLE, Int.reduceLT, Int.reduceToNat]
  exact Fin.ret (.same (Re.d_bl _))
theorem rexOr (l : List Re) (hl : l.length ≤ 100000) : AP Tryz.prog 76 [Res l] (.agg (foldL 5 1 l).c) := by
  refine AC.lbody hT hm Tryz.func76 f76_nm f76_lc f76_res f76_nt ?_
  simp only [go_sem, Int.reduceEq, Int.reduceLE, Int.reduceLT, Int.reduceToNat]
  refine (fold 5 1 l hl).pd (by simp) (by simp) ?_
  simp only [go_sem, Int.reduceEq, Int.reduceLE, Int.reduceLT, Int.reduceToNat]
  exact Fin.ret (.same (Re.d_bl _))
end Go.Proofs.YtdliolbjngcgcaaGreatDoor.W
set_option maxRecDepth 100000
/- The reader: its bytes, its signs. -/
namespace Go.Proofs.YtdliolbjngcgcaaGreatDoor.W
open Go Go.Proofs Go.Proofs.YtdliolbjngcgcaaGreatDoor.AWP
abbrev rdOb (s : ByteArray) (p : Nat) : Ob := .var 94 [.s s, .i p]
abbrev wrongD (p : Nat) : D := .ifc 108 (.agg [.i p])
theorem mvR {s : ByteArray} {p : Nat} {om : List Ob} {F : Nat → Bool} (h : om[0]? = some (rdOb s p)) : MvL om F [some 0] [some 0] [rdOb s p] := ⟨.varS h (by simp), trivial⟩
theorem FinR {s : ByteArray} {p : Nat} {om : List Ob} {d d' : D} {R : Out → List Ob → Prop} {om0 : List Ob} (h0 : om0.length = 1) (h : om[0]? = some (rdOb s p)) (hd : Cv om (kF [some 0]) [some 0] d d') (hr : R (.ret d') [rdOb s p]) : Fin om0 om (.ret d) R :=
  Fin.mv [some 0] (by rw [h0]; rfl) (mvR h) hd hr
theorem FinP {s : ByteArray} {p e : Nat} {om : List Ob} {R : Out → List Ob → Prop} {om0 : List Ob} (h0 : om0.length = 1) (h : om[0]? = some (rdOb s p)) (hr : R (.panic (wrongD e)) [rdOb s p]) : Fin om0 om (.panic (wrongD e)) R :=
  Fin.mvp [some 0] (by rw [h0]; rfl) (mvR h) (.same (by simp)) hr
theorem isC (s l : ByteArray) (p : Nat) : AC Tryz.prog 75 [.ref 0 0, .v (.string l)] [rdOb s p] (retP (.b (isB s p l)) [rdOb s p]) := by
  refine AC.lbody hT hm Tryz.func75 f75_nm f75_lc f75_res f75_nt ?_
  simp only [go_sem, Int.reduceEq, Int.reduceLE, Int.reduceLT, Int.reduceToNat]
  by_cases h : p < s.size
  case neg =>
    have e : isB s p l = false := by unfold isB; rw [Array.getElem?_eq_none (by exact Nat.le_of_not_lt h)]
    simp only [go_sem, Int.reduceEq, Int.reduceLE, Int.reduceLT, Int.reduceToNat, h]
    rw [e]
    exact FinR rfl rfl .v ⟨rfl, rfl⟩
  obtain ⟨b, hb⟩ : ∃ b, s.data[p]? = some b := ⟨_, Array.getElem?_eq_getElem h⟩
  have e : isB s p l = decide (0 ≤ firstIdx l b) := by unfold isB; rw [hb]
  simp only [go_sem, Int.reduceEq, Int.reduceLE, Int.reduceLT, Int.reduceToNat, h, hb]
  refine (ix l b).qv (by simp) ?_
  simp only [go_sem, Int.reduceEq, Int.reduceLE, Int.reduceLT, Int.reduceToNat]
  rw [e]
  exact FinR rfl rfl .v ⟨rfl, rfl⟩
/-- Nothing is handed back; the reader stands elsewhere. -/
def toP (s : ByteArray) (q : Nat) (fr : List Ob) : Out → List Ob → Prop := fun o om => o = .ret (.tup []) ∧ om = rdOb s q :: fr
/-- It threw that the text is wrong. -/
def badP (s : ByteArray) (e : Nat) (fr : List Ob) : Out → List Ob → Prop := fun o om => o = .panic (wrongD e) ∧ ∃ k, om = rdOb s k :: fr
theorem eatC (s l : ByteArray) (p : Nat) (hs : s.size ≤ 65536) : AC Tryz.prog 105 [.ref 0 0, .v (.string l)] [rdOb s p] (fun o om => (isB s p l = true ∧ toP s (p + 1) [] o om) ∨ (isB s p l = false ∧ badP s p [] o om)) := by
  refine AC.lbody hT hm Tryz.func105 f105_nm f105_lc f105_res f105_nt ?_
  simp only [go_sem, Int.reduceEq, Int.reduceLE, Int.reduceLT, Int.reduceToNat]
  refine ⟨_, isC s l p, ?_⟩
  rintro _ _ ⟨rfl, rfl⟩
  cases h : isB s p l
  · simp only [go_sem, Int.reduceEq, Int.reduceLE, Int.reduceLT, Int.reduceToNat]
    exact ⟨rfl, FinP rfl rfl (Or.inr ⟨rfl, _, rfl⟩)⟩
  · have hp := isB_lt h
    simp only [go_sem, Int.reduceEq, Int.reduceLE, Int.reduceLT, Int.reduceToNat]
    rw [wrap_succ p (by omega)]
    exact FinR rfl rfl (by simp) (Or.inl ⟨rfl, rfl⟩)
theorem begC (s : ByteArray) (p : Nat) (hs : s.size ≤ 65536) : AC Tryz.prog 88 [.ref 0 0] [rdOb s p] (retP (.b (begB s p)) [rdOb s p]) := by
  refine AC.lbody hT hm Tryz.func88 f88_nm f88_lc f88_res f88_nt ?_
  simp only [go_sem, Int.reduceEq, Int.reduceLE, Int.reduceLT, Int.reduceToNat]
  refine ⟨_, isC s ⟨#[92]⟩ p, ?_⟩
  cases h0 : isB s p ⟨#[92]⟩
  case true =>
    have e : begB s p = true := by unfold begB; rw [h0]; rfl
    simp only [go_sem, Int.reduceEq, Int.reduceLE, Int.reduceLT, Int.reduceToNat]
    rw [e]
    exact FinR rfl rfl .v ⟨rfl, rfl⟩
  simp only [go_sem, Int.reduceEq, Int.reduceLE, Int.reduceLT, Int.reduceToNat]
  by_cases h : p < s.size
  case neg =>
    simp only [go_sem, Int.reduceEq, Int.reduceLE, Int.reduceLT, Int.reduceToNat, h]
    rw [begB_end h]
    exact FinR rfl rfl .v ⟨rfl, rfl⟩
  obtain ⟨b, hb⟩ := get_lt h
  have e : begB s p = plain b := by unfold begB; rw [h0, hb]; rfl
  simp only [go_sem, Int.reduceEq, Int.reduceLE, Int.reduceLT, Int.reduceToNat, h, hb]
  refine (signN b).qv (by simp) ?_
  have h1 : p + 1 ≤ s.size := h
  have h2 := wrap_succ p (by omega)
  simp only [go_sem, Int.reduceEq, Int.reduceLE, Int.reduceLT, Int.reduceToNat, h1, h2, Nat.le_succ]
  refine FinR rfl rfl .v ⟨?_, rfl⟩
  rw [e, ext1 hb]
  cases hp : plain b <;> simp [signB, hp, hexB]
theorem digC (s : ByteArray) (p : Nat) (hs : s.size ≤ 65536) : AC Tryz.prog 110 [.ref 0 0] [rdOb s p] (fun o om => (isB s p hexS = true ∧ toP s (p + 1) [] o om) ∨ (isB s p hexS = false ∧ badP s p [] o om)) := by
  refine AC.lbody hT hm Tryz.func110 f110_nm f110_lc f110_res f110_nt ?_
  simp only [go_sem, Int.reduceEq, Int.reduceLE, Int.reduceLT, Int.reduceToNat]
  refine ⟨_, isC s hexS p, ?_⟩
  rintro _ _ ⟨rfl, rfl⟩
  cases h : isB s p hexS
  · simp only [go_sem, Int.reduceEq, Int.reduceLE, Int.reduceLT, Int.reduceToNat]
    exact ⟨rfl, FinP rfl rfl (Or.inr ⟨rfl, _, rfl⟩)⟩
  · have hp := isB_lt h
    simp only [go_sem, Int.reduceEq, Int.reduceLE, Int.reduceLT, Int.reduceToNat]
    rw [wrap_succ p (by omega)]
    exact FinR rfl rfl (by simp) (Or.inl ⟨rfl, rfl⟩)
theorem readHex2 (a b : UInt8) (ha : 0 ≤ firstIdx hexS a) (hb : 0 ≤ firstIdx hexS b) :
    AP Tryz.prog 111 [.s ⟨#[a, b]⟩] (.tup [Bys [UInt8.ofNat (16 * (firstIdx hexS a).toNat + (firstIdx hexS b).toNat)], .i 0]) := by
  have la := hexS_le a
  have lb := hexS_le b
  obtain ⟨m, em⟩ : ∃ m : _root_.Fin 16, firstIdx hexS a = m.val := ⟨⟨(firstIdx hexS a).toNat, by omega⟩, by simp; omega⟩
  obtain ⟨n, en⟩ : ∃ n : _root_.Fin 16, firstIdx hexS b = n.val := ⟨⟨(firstIdx hexS b).toNat, by omega⟩, by simp; omega⟩
  have ixa := ix hexS a
  have ixb := ix hexS b
  rw [em] at ixa
  rw [en] at ixb
  have h16 := hex16 m n
  rw [em, en]
  have z : ∀ {l : List UInt8} {om : List Ob} {F : Nat → Bool}, om[0]? = some (byOb l) → MvL om F [some 0] [some 0] [byOb l] := fun h => mvB h
  refine AC.lbody hT hm Tryz.func111 f111_nm f111_lc f111_res f111_nt ?_
  simp only [go_sem, Int.reduceEq, Int.reduceLE, Int.reduceLT, Int.reduceToNat]
  refine xl_loopM hT hm (fun i : Nat => ⟨f111_i10 (.s ⟨#[a, b]⟩) (.own 0) (.i (if i = 0 then 0 else 2)), [byOb (if i = 0 then [] else [UInt8.ofNat (16 * m.val + n.val)])]⟩)
    (fun i => i ≤ 1) (fun i => 1 - i) 0 (by omega) (Mv.of [none] rfl ⟨.nil (by decide), trivial⟩ (by simp [f111_i10])) ?_
  intro i hi
  simp only [go_sem, Int.reduceEq, Int.reduceLE, Int.reduceLT, Int.reduceToNat]
  have w1 : IntKind.i64.wrap 1 = 1 := by decide
  have w2 : IntKind.i64.wrap 2 = 2 := by decide
  have w3 : IntKind.i64.wrap 3 = 3 := by decide
  have g1 : (#[a, b] : Array UInt8)[0]? = some a := rfl
  have g2 : (#[a, b] : Array UInt8)[1]? = some b := rfl
  cases i with
  | zero =>
    have t1 : decide ((1 : Int) < 2) = true := by decide
    simp only [go_sem, Int.reduceEq, Int.reduceLE, Int.reduceLT, Int.reduceToNat, eq_self, Int.reduceAdd, Int.cast_ofNat_Int, w1, t1, g1, g2, Int.toNat_zero, Int.toNat_one]
    refine ixa.pv ⟨.eq rfl (by simp), by simp, trivial⟩ ?_
    simp only [go_sem, Int.reduceEq, Int.reduceLE, Int.reduceLT, Int.reduceToNat, Int.reduceAdd, w1, g1, g2, Int.toNat_zero, Int.toNat_one]
    refine ixb.pv ⟨.eq rfl (by simp), by simp, trivial⟩ ?_
    have n1 : decide ((m.val : Int) < 0) = false := by simp
    have n2 : decide ((n.val : Int) < 0) = false := by simp
    simp only [go_sem, Int.reduceEq, Int.reduceLE, Int.reduceLT, Int.reduceToNat, Int.reduceAdd, n1, n2, h16, w2]
    exact ⟨1, by omega, by omega, Mv.of [some 1] rfl (mvB rfl) (by simp [f111_i10])⟩
  | succ i =>
    have : i = 0 := by omega
    subst this
    have t1 : decide ((3 : Int) < 2) = false := by decide
    have e1 : ((2 : Int).tmod 2 == 1) = false := by decide
    simp only [go_sem, Int.reduceEq, Int.reduceLE, Int.reduceLT, Int.reduceToNat, Nat.succ_ne_zero, Int.reduceAdd, Int.cast_ofNat_Int, w3, t1, e1]
    exact Fin.ret (.tupL ⟨by simp, .v, trivial⟩)
/-- What a reader's call that takes a byte comes to. -/
def sgR (s : ByteArray) (x : PB) (fr : List Ob) : Out → List Ob → Prop := fun o om =>
  match x with
  | .ok b q => o = .ret (.y b) ∧ om = rdOb s q :: fr
  | .bad e => badP s e fr o om
theorem sgC (s : ByteArray) (p : Nat) (hs : s.size ≤ 65536) : AC Tryz.prog 107 [.ref 0 0] [rdOb s p] (sgR s (pSign s p) []) := by
  refine AC.lbody hT hm Tryz.func107 f107_nm f107_lc f107_res f107_nt ?_
  simp only [go_sem, Int.reduceEq, Int.reduceLE, Int.reduceLT, Int.reduceToNat]
  refine ⟨_, begC s p hs, ?_⟩
  rintro _ _ ⟨rfl, rfl⟩
  cases h : begB s p
  · have e : pSign s p = .bad p := by unfold pSign; rw [h]; rfl
    simp only [go_sem, Int.reduceEq, Int.reduceLE, Int.reduceLT, Int.reduceToNat]
    rw [e]
    exact ⟨rfl, FinP rfl rfl ⟨rfl, _, rfl⟩⟩
  have hp := begB_lt h
  obtain ⟨b, hb⟩ := get_lt hp
  have h2 := wrap_succ p (by omega)
  simp only [go_sem, Int.reduceEq, Int.reduceLE, Int.reduceLT, Int.reduceToNat, hb, h2]
  by_cases h92 : b.toNat = 92
  case neg =>
    have e : pSign s p = .ok b (p + 1) := by unfold pSign; rw [if_pos h, at_of hb, if_neg h92]
    have n1 : ((b.toNat : Int) != 92) = true := by simp; omega
    simp only [go_sem, Int.reduceEq, Int.reduceLE, Int.reduceLT, Int.reduceToNat, n1]
    rw [e]
    exact FinR rfl rfl .v ⟨rfl, rfl⟩
  have n1 : ((b.toNat : Int) != 92) = false := by simp; omega
  simp only [go_sem, Int.reduceEq, Int.reduceLE, Int.reduceLT, Int.reduceToNat, n1]
  refine ⟨_, digC s (p + 1) hs, ?_⟩
  rintro _ _ (⟨h1, rfl, rfl⟩ | ⟨h1, rfl, k, rfl⟩)
  case inr =>
    simp only [go_sem, Int.reduceEq, Int.reduceLE, Int.reduceLT, Int.reduceToNat]
    have e : pSign s p = .bad (p + 1) := by unfold pSign; rw [if_pos h, at_of hb, if_pos h92, if_neg (by rw [h1]; simp)]
    rw [e]
    exact FinP rfl rfl ⟨rfl, _, rfl⟩
  simp only [go_sem, Int.reduceEq, Int.reduceLE, Int.reduceLT, Int.reduceToNat]
  refine ⟨_, digC s (p + 1 + 1) hs, ?_⟩
  rintro _ _ (⟨h2, rfl, rfl⟩ | ⟨h2, rfl, k, rfl⟩)
  case inr =>
    simp only [go_sem, Int.reduceEq, Int.reduceLE, Int.reduceLT, Int.reduceToNat]
    have e : pSign s p = .bad (p + 1 + 1) := by unfold pSign; rw [if_pos h, at_of hb, if_pos h92, if_pos h1, if_neg (by rw [h2]; simp)]
    rw [e]
    exact FinP rfl rfl ⟨rfl, _, rfl⟩
  simp only [go_sem, Int.reduceEq, Int.reduceLE, Int.reduceLT, Int.reduceToNat]
  have l1 := isB_lt h1
  have l2 := isB_lt h2
  obtain ⟨c, hc⟩ := get_lt l1
  obtain ⟨d, hd⟩ := get_lt l2
  have e : pSign s p = .ok (UInt8.ofNat (16 * (firstIdx hexS c).toNat + (firstIdx hexS d).toNat)) (p + 3) := by
    unfold pSign
    rw [if_pos h, at_of hb, if_pos h92, if_pos h1, if_pos h2]
    unfold hexAt
    rw [at_of hc, at_of hd]
  rw [isB_at hc] at h1
  rw [isB_at hd] at h2
  have le1 : p ≤ p + 2 := by omega
  have le2 : p + 3 ≤ s.size := by omega
  have ee := ext2 hc (show s.data[p + 1 + 1]? = some d from hd)
  simp only [go_sem, Int.reduceEq, Int.reduceLE, Int.reduceLT, Int.reduceToNat, le1, le2]
  rw [show p + 3 = p + 1 + 2 from rfl, ee]
  refine (readHex2 c d (by simpa using h1) (by simpa using h2)).qd ⟨.eq rfl (by simp), trivial⟩ (by simp) ?_
  simp only [go_sem, Int.reduceEq, Int.reduceLE, Int.reduceLT, Int.reduceToNat]
  rw [e]
  generalize UInt8.ofNat (16 * (firstIdx hexS c).toNat + (firstIdx hexS d).toNat) = x
  have er : (byteRows [x])[0]? = some [.y x] := rfl
  simp only [go_sem, Int.reduceEq, Int.reduceLE, Int.reduceLT, Int.reduceToNat, er]
  first | exact FinR rfl rfl .v ⟨rfl, rfl⟩ | (refine ⟨⟨?_, ?_⟩, ?_⟩ <;> exact FinR rfl rfl .v ⟨rfl, rfl⟩)
/-! ### With other objects around -/
theorem _root_.Go.Proofs.YtdliolbjngcgcaaGreatDoor.AWP.AC.rd {f : FuncId} {ds : List D} {s : ByteArray} {p : Nat} {fr : List Ob} {R R' : Out → List Ob → Prop} (h : AC Tryz.prog f ds [rdOb s p] R) (hds : ∀ d ∈ ds, Bl 1 d)
    (hR : ∀ o om, R o om → om.length = 1 ∧ R' o (om ++ fr)) : AC Tryz.prog f ds (rdOb s p :: fr) R' := by
  refine (AC.frame (fr := fr) h (fun o ho => ?_) hds fun o om' hr => (hR o om' hr).1).mono ?_
  · cases List.mem_singleton.1 ho
    simp [ObAll]
  · rintro o om ⟨om', hr, rfl⟩
    exact (hR o om' hr).2
theorem isF (s l : ByteArray) (p : Nat) (fr : List Ob) : AC Tryz.prog 75 [.ref 0 0, .v (.string l)] (rdOb s p :: fr) (retP (.b (isB s p l)) (rdOb s p :: fr)) :=
  (isC s l p).rd (by simp) (by rintro _ _ ⟨rfl, rfl⟩; exact ⟨rfl, rfl, rfl⟩)
theorem begF (s : ByteArray) (p : Nat) (hs : s.size ≤ 65536) (fr : List Ob) : AC Tryz.prog 88 [.ref 0 0] (rdOb s p :: fr) (retP (.b (begB s p)) (rdOb s p :: fr)) :=
  (begC s p hs).rd (by simp) (by rintro _ _ ⟨rfl, rfl⟩; exact ⟨rfl, rfl, rfl⟩)
theorem badP_fr {s : ByteArray} {e : Nat} {fr : List Ob} {o : Out} {om : List Ob} (h : badP s e [] o om) : om.length = 1 ∧ badP s e fr o (om ++ fr) := by
  obtain ⟨rfl, k, rfl⟩ := h
  exact ⟨rfl, rfl, k, rfl⟩
theorem eatF (s l : ByteArray) (p : Nat) (hs : s.size ≤ 65536) (fr : List Ob) : AC Tryz.prog 105 [.ref 0 0, .v (.string l)] (rdOb s p :: fr) (fun o om => (isB s p l = true ∧ toP s (p + 1) fr o om) ∨ (isB s p l = false ∧ badP s p fr o om)) :=
  (eatC s l p hs).rd (by simp) (by
    rintro o om (⟨h, rfl, rfl⟩ | ⟨h, hb⟩)
    · exact ⟨rfl, .inl ⟨h, rfl, rfl⟩⟩
    · exact ⟨(badP_fr (fr := fr) hb).1, .inr ⟨h, (badP_fr hb).2⟩⟩)
theorem sgF (s : ByteArray) (p : Nat) (hs : s.size ≤ 65536) (fr : List Ob) : AC Tryz.prog 107 [.ref 0 0] (rdOb s p :: fr) (sgR s (pSign s p) fr) :=
  (sgC s p hs).rd (by simp) (by
    intro o om h
    unfold sgR at h ⊢
    split at h
    · obtain ⟨rfl, rfl⟩ := h; exact ⟨rfl, rfl, rfl⟩
    · exact badP_fr h)
/-- What a reader's call that takes an expression comes to. -/
def prR (s : ByteArray) (x : PR) (fr : List Ob) : Out → List Ob → Prop := fun o om =>
  match x with
  | .ok r q => o = .ret (.agg r.c) ∧ om = rdOb s q :: fr
  | .bad e => badP s e fr o om
theorem _root_.Go.Proofs.YtdliolbjngcgcaaGreatDoor.AWP.AC.pr {f : FuncId} {s : ByteArray} {p : Nat} {x : PR} (fr : List Ob) (h : AC Tryz.prog f [.ref 0 0] [rdOb s p] (prR s x [])) : AC Tryz.prog f [.ref 0 0] (rdOb s p :: fr) (prR s x fr) :=
  h.rd (by simp) (by
    intro o om h
    unfold prR at h ⊢
    split at h
    · obtain ⟨rfl, rfl⟩ := h; exact ⟨rfl, rfl, rfl⟩
    · exact badP_fr h)
theorem FinPR {s : ByteArray} {r : Re} {q : Nat} {om : List Ob} {d : D} {om0 : List Ob} (h0 : om0.length = 1) (h : om[0]? = some (rdOb s q)) (hd : d = .agg r.c) : Fin om0 om (.ret d) (prR s (.ok r q) []) :=
  FinR h0 h (.eq hd (by rw [hd]; exact Re.d_bl _)) ⟨rfl, rfl⟩
theorem FinPB {s : ByteArray} {e k : Nat} {om : List Ob} {om0 : List Ob} (h0 : om0.length = 1) (h : om[0]? = some (rdOb s k)) : Fin om0 om (.panic (wrongD e)) (prR s (.bad e) []) :=
  FinP h0 h ⟨rfl, _, rfl⟩
abbrev zRe : List D := [.v (.int .u8 0), .v (.int .u64 0), .v (.int .u64 0), .v (.int .u64 0), .v (.int .u64 0), .v (.slice Option.none 0 0)]
abbrev zOb : Ob := .var 52 zRe
theorem Re.put1 (b : Re) : obPut zOb 0 b.c = some (.var 52 b.c) := Re.put0 _ _ rfl b
end Go.Proofs.YtdliolbjngcgcaaGreatDoor.W
set_option maxRecDepth 100000
/- The reader: a class. -/
namespace Go.Proofs.YtdliolbjngcgcaaGreatDoor.W
open Go Go.Proofs Go.Proofs.YtdliolbjngcgcaaGreatDoor.AWP
theorem mvR3 {s : ByteArray} {p : Nat} {ws : List Int} {om : List Ob} {F : Nat → Bool} (h0 : om[0]? = some (rdOb s p)) (h1 : om[1]? = some zOb) (h2 : om[2]? = some (wOb ws)) : MvL om F [some 0, some 1, some 2] [some 0, some 1, some 2] [rdOb s p, zOb, wOb ws] :=
  ⟨.varS h0 (by simp), .varS h1 (by simp), .varS h2 (W_bl _), trivial⟩
theorem clsC (s : ByteArray) (p0 : Nat) (hs : s.size ≤ 65536) (hp0 : p0 ≤ s.size) : AC Tryz.prog 104 [.ref 0 0] [rdOb s p0] (prR s (clsGo s noneS p0) []) := by
  refine AC.lbody hT hm Tryz.func104 f104_nm f104_lc f104_res f104_nt ?_
  simp only [go_sem, Int.reduceEq, Int.reduceLE, Int.reduceLT, Int.reduceToNat]
  refine xl_loopM hT hm (fun i : List Int × Nat => ⟨f104_i12 (.ref 0 0) (.ref 1 0) (.ref 2 0), [rdOb s i.2, zOb, wOb i.1]⟩)
    (fun i => i.1.length = 4 ∧ i.2 ≤ s.size ∧ clsGo s i.1 i.2 = clsGo s noneS p0) (fun i => s.size - i.2) (noneS, p0) ⟨rfl, hp0, rfl⟩ (Mv.of [some 0, some 1, some 2] rfl (mvR3 rfl rfl rfl) (by simp [f104_i12])) ?_
  rintro ⟨ws, p⟩ ⟨h4, hp, hc⟩
  simp only [go_sem, Int.reduceEq, Int.reduceLE, Int.reduceLT, Int.reduceToNat]
  refine ⟨_, isF s cRb p _, ?_⟩
  rintro _ _ ⟨rfl, rfl⟩
  simp only [go_sem, Int.reduceEq, Int.reduceLE, Int.reduceLT, Int.reduceToNat]
  cases hb : isB s p cRb
  case true =>
    have lt := isB_lt hb
    rw [clsGo, if_pos hb] at hc
    have h2 := wrap_succ p (by omega)
    simp only [go_sem, Int.reduceEq, Int.reduceLE, Int.reduceLT, Int.reduceToNat, h2, h4, W_take h4, W_drop0]
    refine (rexOf ws h4).pd ⟨.same (.agg (W_bl _)), trivial⟩ (Re.d_bl _) ?_
    simp only [go_sem, Int.reduceEq, Int.reduceLE, Int.reduceLT, Int.reduceToNat, Re.put1]
    rw [← hc]
    exact FinPR rfl rfl rfl
  rw [clsGo, if_neg (by rw [hb]; simp)] at hc
  simp only [go_sem, Int.reduceEq, Int.reduceLE, Int.reduceLT, Int.reduceToNat]
  refine ⟨_, sgF s p hs _, ?_⟩
  cases hsg : pSign s p
  case bad e =>
    rintro _ _ ⟨rfl, k, rfl⟩
    simp only [go_sem, Int.reduceEq, Int.reduceLE, Int.reduceLT, Int.reduceToNat]
    rw [hsg] at hc
    rw [← hc]
    exact FinPB rfl rfl
  rintro _ _ ⟨rfl, rfl⟩
  simp only [go_sem, Int.reduceEq, Int.reduceLE, Int.reduceLT, Int.reduceToNat]
  rename_i lo q
  have hq := pSign_lt hsg
  rw [hsg] at hc
  simp only [hq, and_self, dif_pos] at hc
  refine ⟨_, isF s cDash q _, ?_⟩
  rintro _ _ ⟨rfl, rfl⟩
  simp only [go_sem, Int.reduceEq, Int.reduceLE, Int.reduceLT, Int.reduceToNat]
  cases hd : isB s q cDash
  case false =>
    rw [if_neg (by rw [hd]; simp)] at hc
    simp only [go_sem, Int.reduceEq, Int.reduceLE, Int.reduceLT, Int.reduceToNat, h4, W_take h4, W_drop0]
    refine (setRange lo lo).qd ⟨.v, .v, trivial⟩ (.agg (W_bl _)) ?_
    have hr := rangeS_len lo.toNat (lo.toNat + 1 - lo.toNat)
    generalize rangeS lo.toNat (lo.toNat + 1 - lo.toNat) = rs at hr hc
    simp only [go_sem, Int.reduceEq, Int.reduceLE, Int.reduceLT, Int.reduceToNat, hr, h4]
    have hj : ∀ x ∈ [ws, rs], x.length = 4 := by intro x hx; simp at hx; rcases hx with rfl | rfl <;> assumption
    refine (setJoin [ws, rs] (by simp) hj).pd ⟨.same (by simp [Wss_bl]), trivial⟩ (.agg (W_bl _)) ?_
    have hjl := joinAll_len hj
    have hpt := W_put (ty := 49) h4 hjl
    simp only [go_sem, Int.reduceEq, Int.reduceLE, Int.reduceLT, Int.reduceToNat, hjl, hpt]
    exact ⟨(joinAll [ws, rs], q), ⟨hjl, by omega, hc⟩, by omega, Mv.of [some 0, some 1, some 2] rfl (mvR3 rfl rfl rfl) (by simp [f104_i12])⟩
  have ltq := isB_lt hd
  have hw := wrap_succ q (by omega)
  rw [if_pos hd] at hc
  simp only [go_sem, Int.reduceEq, Int.reduceLE, Int.reduceLT, Int.reduceToNat, hw]
  refine ⟨_, sgF s (q + 1) hs _, ?_⟩
  cases hsg' : pSign s (q + 1)
  case bad e =>
    rintro _ _ ⟨rfl, k, rfl⟩
    simp only [go_sem, Int.reduceEq, Int.reduceLE, Int.reduceLT, Int.reduceToNat]
    rw [hsg'] at hc
    rw [← hc]
    exact FinPB rfl rfl
  rintro _ _ ⟨rfl, rfl⟩
  simp only [go_sem, Int.reduceEq, Int.reduceLE, Int.reduceLT, Int.reduceToNat]
  rename_i hi q'
  have hq' := pSign_lt hsg'
  rw [hsg'] at hc
  have lt' : p < q' ∧ q' ≤ s.size := by omega
  simp only [lt', and_self, dif_pos] at hc
  by_cases hlo : hi.toNat < lo.toNat
  · rw [if_pos hlo] at hc
    simp only [go_sem, Int.reduceEq, Int.reduceLE, Int.reduceLT, Int.reduceToNat, hlo]
    rw [← hc]
    exact ⟨rfl, FinPB rfl rfl⟩
  rw [if_neg hlo] at hc
  simp only [go_sem, Int.reduceEq, Int.reduceLE, Int.reduceLT, Int.reduceToNat, hlo, h4, W_take h4, W_drop0]
  refine (setRange lo hi).qd ⟨.v, .v, trivial⟩ (.agg (W_bl _)) ?_
  have hr := rangeS_len lo.toNat (hi.toNat + 1 - lo.toNat)
  generalize rangeS lo.toNat (hi.toNat + 1 - lo.toNat) = rs at hr hc
  simp only [go_sem, Int.reduceEq, Int.reduceLE, Int.reduceLT, Int.reduceToNat, hr, h4]
  have hj : ∀ x ∈ [ws, rs], x.length = 4 := by intro x hx; simp at hx; rcases hx with rfl | rfl <;> assumption
  refine (setJoin [ws, rs] (by simp) hj).pd ⟨.same (by simp [Wss_bl]), trivial⟩ (.agg (W_bl _)) ?_
  have hjl := joinAll_len hj
  have hpt := W_put (ty := 49) h4 hjl
  simp only [go_sem, Int.reduceEq, Int.reduceLE, Int.reduceLT, Int.reduceToNat, hjl, hpt]
  exact ⟨(joinAll [ws, rs], q'), ⟨hjl, by omega, hc⟩, by omega, Mv.of [some 0, some 1, some 2] rfl (mvR3 rfl rfl rfl) (by simp [f104_i12])⟩
end Go.Proofs.YtdliolbjngcgcaaGreatDoor.W
set_option maxRecDepth 100000
/- The reader: an atom. -/
namespace Go.Proofs.YtdliolbjngcgcaaGreatDoor.W
open Go Go.Proofs Go.Proofs.YtdliolbjngcgcaaGreatDoor.AWP
theorem setAll : AP Tryz.prog 103 [.v (.int .u8 0), .v (.int .u8 255)] (Ws (rangeS 0 256)) := setRange 0 255
theorem atomC (A : Nat → PR) (s : ByteArray) (p : Nat) (hs : s.size ≤ 65536) (hp : p ≤ s.size) (HA : ∀ q, p < q → q ≤ s.size → AC Tryz.prog 58 [.ref 0 0] [rdOb s q] (prR s (A q) [])) :
    AC Tryz.prog 97 [.ref 0 0] [rdOb s p] (prR s (pAtom A s p) []) := by
  unfold pAtom
  refine AC.lbody hT hm Tryz.func97 f97_nm f97_lc f97_res f97_nt ?_
  simp only [go_sem, Int.reduceEq, Int.reduceLE, Int.reduceLT, Int.reduceToNat]
  refine ⟨_, isF s cDot p _, ?_⟩
  rintro _ _ ⟨rfl, rfl⟩
  simp only [go_sem, Int.reduceEq, Int.reduceLE, Int.reduceLT, Int.reduceToNat]
  cases h1 : isB s p cDot
  case true =>
    have lt := isB_lt h1
    have hw := wrap_succ p (by omega)
    have hl := rangeS_len 0 256
    simp only [go_sem, Int.reduceEq, Int.reduceLE, Int.reduceLT, Int.reduceToNat, hw]
    refine setAll.pd (by simp) (.agg (W_bl _)) ?_
    generalize rangeS 0 256 = ws at hl
    simp only [go_sem, Int.reduceEq, Int.reduceLE, Int.reduceLT, Int.reduceToNat]
    refine (rexOf ws hl).pd ⟨.same (.agg (W_bl _)), trivial⟩ (Re.d_bl _) ?_
    simp only [go_sem, Int.reduceEq, Int.reduceLE, Int.reduceLT, Int.reduceToNat, Re.put1]
    exact FinPR rfl rfl rfl
  simp only [go_sem, Int.reduceEq, Int.reduceLE, Int.reduceLT, Int.reduceToNat]
  refine ⟨_, isF s cLb p _, ?_⟩
  rintro _ _ ⟨rfl, rfl⟩
  simp only [go_sem, Int.reduceEq, Int.reduceLE, Int.reduceLT, Int.reduceToNat]
  cases h2 : isB s p cLb
  case true =>
    have lt := isB_lt h2
    have hw := wrap_succ p (by omega)
    simp only [go_sem, Int.reduceEq, Int.reduceLE, Int.reduceLT, Int.reduceToNat, hw]
    refine ⟨_, (clsC s (p + 1) hs (by omega)).pr _, ?_⟩
    cases hc : clsGo s noneS (p + 1)
    case bad e =>
      rintro _ _ ⟨rfl, k, rfl⟩
      simp only [go_sem, Int.reduceEq, Int.reduceLE, Int.reduceLT, Int.reduceToNat]
      exact FinPB rfl rfl
    rintro _ _ ⟨rfl, rfl⟩
    simp only [go_sem, Int.reduceEq, Int.reduceLE, Int.reduceLT, Int.reduceToNat, Re.put1]
    exact FinPR rfl rfl rfl
  simp only [go_sem, Int.reduceEq, Int.reduceLE, Int.reduceLT, Int.reduceToNat]
  refine ⟨_, isF s cLp p _, ?_⟩
  rintro _ _ ⟨rfl, rfl⟩
  simp only [go_sem, Int.reduceEq, Int.reduceLE, Int.reduceLT, Int.reduceToNat]
  cases h3 : isB s p cLp
  case true =>
    have lt := isB_lt h3
    have hw := wrap_succ p (by omega)
    simp only [go_sem, Int.reduceEq, Int.reduceLE, Int.reduceLT, Int.reduceToNat, hw]
    refine ⟨_, isF s cRp (p + 1) _, ?_⟩
    rintro _ _ ⟨rfl, rfl⟩
    simp only [go_sem, Int.reduceEq, Int.reduceLE, Int.reduceLT, Int.reduceToNat]
    cases h4 : isB s (p + 1) cRp
    case true =>
      have lt := isB_lt h4
      have hw := wrap_succ (p + 1) (by omega)
      simp only [go_sem, Int.reduceEq, Int.reduceLE, Int.reduceLT, Int.reduceToNat, hw]
      refine (rexThen [] (by simp)).pd ⟨.nil, trivial⟩ (Re.d_bl _) ?_
      simp only [go_sem, Int.reduceEq, Int.reduceLE, Int.reduceLT, Int.reduceToNat, Re.put1]
      exact FinPR rfl rfl rfl
    simp only [go_sem, Int.reduceEq, Int.reduceLE, Int.reduceLT, Int.reduceToNat]
    refine ⟨_, (HA (p + 1) (by omega) (by omega)).pr _, ?_⟩
    cases hc : A (p + 1)
    case bad e =>
      rintro _ _ ⟨rfl, k, rfl⟩
      simp only [go_sem, Int.reduceEq, Int.reduceLE, Int.reduceLT, Int.reduceToNat]
      exact FinPB rfl rfl
    rename_i r q
    rintro _ _ ⟨rfl, rfl⟩
    simp only [go_sem, Int.reduceEq, Int.reduceLE, Int.reduceLT, Int.reduceToNat, Re.put1]
    refine ⟨_, eatF s cRp q hs _, ?_⟩
    rintro _ _ (⟨h5, rfl, rfl⟩ | ⟨h5, rfl, k, rfl⟩)
    case inr =>
      simp only [go_sem, Int.reduceEq, Int.reduceLE, Int.reduceLT, Int.reduceToNat, h5]
      exact FinPB rfl rfl
    simp only [go_sem, Int.reduceEq, Int.reduceLE, Int.reduceLT, Int.reduceToNat, h5, Re.put1]
    exact FinPR rfl rfl rfl
  simp only [go_sem, Int.reduceEq, Int.reduceLE, Int.reduceLT, Int.reduceToNat]
  refine ⟨_, sgF s p hs _, ?_⟩
  cases hsg : pSign s p
  case bad e =>
    rintro _ _ ⟨rfl, k, rfl⟩
    simp only [go_sem, Int.reduceEq, Int.reduceLE, Int.reduceLT, Int.reduceToNat]
    exact FinPB rfl rfl
  rename_i b q
  rintro _ _ ⟨rfl, rfl⟩
  simp only [go_sem, Int.reduceEq, Int.reduceLE, Int.reduceLT, Int.reduceToNat]
  have hl := ofS_len [b]
  refine (setOf [b] (by simp)).pd ⟨.eq rfl (by simp), trivial⟩ (.agg (W_bl _)) ?_
  generalize ofS [b] = ws at hl
  simp only [go_sem, Int.reduceEq, Int.reduceLE, Int.reduceLT, Int.reduceToNat]
  refine (rexOf ws hl).pd ⟨.same (.agg (W_bl _)), trivial⟩ (Re.d_bl _) ?_
  simp only [go_sem, Int.reduceEq, Int.reduceLE, Int.reduceLT, Int.reduceToNat, Re.put1]
  exact FinPR rfl rfl rfl
end Go.Proofs.YtdliolbjngcgcaaGreatDoor.W
set_option maxRecDepth 100000
/- The reader: parts, rows, alternatives. -/
namespace Go.Proofs.YtdliolbjngcgcaaGreatDoor.W
open Go Go.Proofs Go.Proofs.YtdliolbjngcgcaaGreatDoor.AWP
theorem mvP {s : ByteArray} {p : Nat} {r : Re} {om : List Ob} {F : Nat → Bool} (h0 : om[0]? = some (rdOb s p)) (h1 : om[1]? = some zOb) (h2 : om[2]? = some (reVar r)) : MvL om F [some 0, some 1, some 2] [some 0, some 1, some 2] [rdOb s p, zOb, reVar r] :=
  ⟨.varS h0 (by simp), .varS h1 (by simp), .varS h2 (Re.c_bl _), trivial⟩
theorem partC (A : Nat → PR) (s : ByteArray) (p : Nat) (hs : s.size ≤ 65536) (hp : p ≤ s.size) (hA : Fwd A s) (HA : ∀ q, p < q → q ≤ s.size → AC Tryz.prog 58 [.ref 0 0] [rdOb s q] (prR s (A q) [])) :
    AC Tryz.prog 87 [.ref 0 0] [rdOb s p] (prR s (pPart A s p) []) := by
  unfold pPart
  refine AC.lbody hT hm Tryz.func87 f87_nm f87_lc f87_res f87_nt ?_
  simp only [go_sem, Int.reduceEq, Int.reduceLE, Int.reduceLT, Int.reduceToNat]
  refine ⟨_, (atomC A s p hs hp HA).pr _, ?_⟩
  cases hc : pAtom A s p
  case bad e =>
    rintro _ _ ⟨rfl, k, rfl⟩
    simp only [go_sem, Int.reduceEq, Int.reduceLE, Int.reduceLT, Int.reduceToNat]
    exact FinPB rfl rfl
  rename_i r0 q0
  rintro _ _ ⟨rfl, rfl⟩
  simp only [go_sem, Int.reduceEq, Int.reduceLE, Int.reduceLT, Int.reduceToNat, Re.put1]
  have hq0 := pAtom_lt hA hc
  refine xl_loopM hT hm (fun i : Re × Nat => ⟨f87_i5 (.ref 0 0) (.ref 1 0) (.ref 2 0), [rdOb s i.2, zOb, reVar i.1]⟩)
    (fun i => i.2 ≤ s.size ∧ starGo s i.1 i.2 = starGo s r0 q0) (fun i => s.size - i.2) (r0, q0) ⟨hq0.2, rfl⟩ (Mv.of [some 0, some 1, some 2] rfl (mvP rfl rfl rfl) (by simp [f87_i5])) ?_
  rintro ⟨r, q⟩ ⟨hq, hst⟩
  simp only [go_sem, Int.reduceEq, Int.reduceLE, Int.reduceLT, Int.reduceToNat]
  refine ⟨_, isF s cStar q _, ?_⟩
  rintro _ _ ⟨rfl, rfl⟩
  simp only [go_sem, Int.reduceEq, Int.reduceLE, Int.reduceLT, Int.reduceToNat]
  cases h1 : isB s q cStar
  case false =>
    rw [starGo, dif_neg (by rw [h1]; simp)] at hst
    rw [← hst]
    simp only [go_sem, Int.reduceEq, Int.reduceLE, Int.reduceLT, Int.reduceToNat, Re.put1]
    exact FinPR rfl rfl rfl
  rw [starGo, dif_pos h1] at hst
  have lt := isB_lt h1
  have hw := wrap_succ q (by omega)
  simp only [go_sem, Int.reduceEq, Int.reduceLE, Int.reduceLT, Int.reduceToNat, hw]
  refine (rexMany r).pd (by simp) (Re.d_bl _) ?_
  generalize Re.mk 6 0 0 0 0 [r] = r' at hst
  simp only [go_sem, Int.reduceEq, Int.reduceLE, Int.reduceLT, Int.reduceToNat, Re.put]
  exact ⟨(r', q + 1), ⟨lt, hst⟩, by omega, Mv.of [some 0, some 1, some 2] rfl (mvP rfl rfl rfl) (by simp [f87_i5])⟩
abbrev lsOb (l : List Re) : Ob := .slc 52 6 (l.map Re.c)
theorem mvL {s : ByteArray} {p : Nat} {l : List Re} {k : Nat} {om : List Ob} {F : Nat → Bool} (h0 : om[0]? = some (rdOb s p)) (h1 : om[1]? = some zOb) (h2 : om[k]? = some (lsOb l)) : MvL om F [some 0, some 1, some k] [some 0, some 1, some k] [rdOb s p, zOb, lsOb l] :=
  ⟨.varS h0 (by simp), .varS h1 (by simp), .slcS h2 (Re.map_bl l), trivial⟩
theorem cvLs {l : List Re} {k : Nat} {om : List Ob} {F : Nat → Bool} {ks : List (Option Nat)} (h : om[k]? = some (lsOb l)) (hF : F k = true) : Cv om F ks (.own k) (Res l) := by
  rw [show Res l = .sl 6 (l.map Re.c) from by rw [← Re.cs_eq]]
  exact .frzS h hF (Re.map_bl l)
theorem rowC (A : Nat → PR) (s : ByteArray) (p : Nat) (hs : s.size ≤ 65536) (hp : p ≤ s.size) (hA : Fwd A s) (HA : ∀ q, p < q → q ≤ s.size → AC Tryz.prog 58 [.ref 0 0] [rdOb s q] (prR s (A q) [])) :
    AC Tryz.prog 74 [.ref 0 0] [rdOb s p] (prR s (pRow A s p) []) := by
  unfold pRow
  refine AC.lbody hT hm Tryz.func74 f74_nm f74_lc f74_res f74_nt ?_
  simp only [go_sem, Int.reduceEq, Int.reduceLE, Int.reduceLT, Int.reduceToNat]
  refine ⟨_, (partC A s p hs hp hA HA).pr _, ?_⟩
  cases hc : pPart A s p
  case bad e =>
    rintro _ _ ⟨rfl, k, rfl⟩
    simp only [go_sem, Int.reduceEq, Int.reduceLE, Int.reduceLT, Int.reduceToNat]
    exact FinPB rfl rfl
  rename_i r0 q0
  rintro _ _ ⟨rfl, rfl⟩
  simp only [go_sem, Int.reduceEq, Int.reduceLE, Int.reduceLT, Int.reduceToNat]
  have hq0 := pPart_lt hA hc
  refine xl_loopM hT hm (fun i : List Re × Nat => ⟨f74_i4 (.ref 0 0) (.ref 1 0) (.own 2), [rdOb s i.2, zOb, lsOb i.1]⟩)
    (fun i => p < i.2 ∧ i.2 ≤ s.size ∧ i.1.length ≤ i.2 ∧ rowGo A s i.1 i.2 = rowGo A s [r0] q0) (fun i => s.size - i.2) ([r0], q0) ⟨hq0.1, hq0.2, by simp; omega, rfl⟩ ?_ ?_
  · exact Mv.of [some 0, some 1, some 2] rfl (mvL rfl rfl rfl) (by simp [f74_i4])
  rintro ⟨l, q⟩ ⟨hpq, hq, hlen, hst⟩
  simp only [go_sem, Int.reduceEq, Int.reduceLE, Int.reduceLT, Int.reduceToNat]
  refine ⟨_, isF s cAtom q _, ?_⟩
  rintro _ _ ⟨rfl, rfl⟩
  simp only [go_sem, Int.reduceEq, Int.reduceLE, Int.reduceLT, Int.reduceToNat]
  dsimp only at hpq hq hlen hst
  have go : (isB s q cAtom || begB s q) = true → rowGo A s [r0] q0 = match pPart A s q with
      | .bad e => .bad e
      | .ok r q' => if hq : q < q' ∧ q' ≤ s.size then rowGo A s (l ++ [r]) q' else .bad 0 := by
    intro h
    rw [← hst, rowGo, if_pos h]
    cases pPart A s q <;> rfl
  have HA' : ∀ q', q < q' → q' ≤ s.size → AC Tryz.prog 58 [.ref 0 0] [rdOb s q'] (prR s (A q') []) := fun q' h h' => HA q' (by omega) h'
  cases h1 : isB s q cAtom
  case' false =>
    simp only [go_sem, Int.reduceEq, Int.reduceLE, Int.reduceLT, Int.reduceToNat]
    refine ⟨_, begF s q hs _, ?_⟩
    rintro _ _ ⟨rfl, rfl⟩
    simp only [go_sem, Int.reduceEq, Int.reduceLE, Int.reduceLT, Int.reduceToNat]
    cases h2 : begB s q
    case false =>
      rw [rowGo, if_neg (by rw [h1, h2]; simp)] at hst
      rw [← hst]
      simp only [go_sem, Int.reduceEq, Int.reduceLE, Int.reduceLT, Int.reduceToNat]
      refine (rexThen l (by omega)).callF (fun k => k == 2) ⟨cvLs rfl rfl, trivial⟩ (Re.d_bl _) ?_
      have ef : frzL (fun k => k == 2) [rdOb s q, zOb, lsOb l] = [rdOb s q, zOb, .frz 6 (l.map Re.c)] := rfl
      simp only [go_sem, Int.reduceEq, Int.reduceLE, Int.reduceLT, Int.reduceToNat, Re.put1, ef]
      exact FinPR rfl rfl rfl
  all_goals simp only [go_sem, Int.reduceEq, Int.reduceLE, Int.reduceLT, Int.reduceToNat]
  case' ok.refine_2.false => rw [h1, h2] at go
  case' ok.refine_2.true => rw [h1] at go
  all_goals
    have go := go rfl
    refine ⟨_, (partC A s q hs hq hA HA').pr _, ?_⟩
    cases hc' : pPart A s q
    case bad e =>
      rintro _ _ ⟨rfl, k, rfl⟩
      simp only [go_sem, Int.reduceEq, Int.reduceLE, Int.reduceLT, Int.reduceToNat]
      rw [hc'] at go
      rw [go]
      exact FinPB rfl rfl
    rename_i r q'
    rintro _ _ ⟨rfl, rfl⟩
    simp only [go_sem, Int.reduceEq, Int.reduceLE, Int.reduceLT, Int.reduceToNat]
    have hq' := pPart_lt hA hc'
    rw [hc'] at go
    dsimp only at go
    rw [dif_pos hq'] at go
    exact ⟨by omega, (l ++ [r], q'), ⟨by dsimp only; omega, hq'.2, by simp; omega, go.symm⟩, by dsimp only; omega, Mv.of [some 0, some 1, some 3] rfl (mvL rfl rfl (by simp)) (by simp [f74_i4])⟩
theorem altC1 (A : Nat → PR) (s : ByteArray) (p : Nat) (hs : s.size ≤ 65536) (hp : p ≤ s.size) (hA : Fwd A s) (HA : ∀ q, p < q → q ≤ s.size → AC Tryz.prog 58 [.ref 0 0] [rdOb s q] (prR s (A q) [])) :
    AC Tryz.prog 58 [.ref 0 0] [rdOb s p] (prR s (pAlt A s p) []) := by
  unfold pAlt
  refine AC.lbody hT hm Tryz.func58 f58_nm f58_lc f58_res f58_nt ?_
  simp only [go_sem, Int.reduceEq, Int.reduceLE, Int.reduceLT, Int.reduceToNat]
  refine ⟨_, (rowC A s p hs hp hA HA).pr _, ?_⟩
  cases hc : pRow A s p
  case bad e =>
    rintro _ _ ⟨rfl, k, rfl⟩
    simp only [go_sem, Int.reduceEq, Int.reduceLE, Int.reduceLT, Int.reduceToNat]
    exact FinPB rfl rfl
  rename_i r0 q0
  rintro _ _ ⟨rfl, rfl⟩
  simp only [go_sem, Int.reduceEq, Int.reduceLE, Int.reduceLT, Int.reduceToNat]
  have hq0 := pRow_lt hA hc
  refine xl_loopM hT hm (fun i : List Re × Nat => ⟨f58_i5 (.ref 0 0) (.ref 1 0) (.own 2), [rdOb s i.2, zOb, lsOb i.1]⟩)
    (fun i => p < i.2 ∧ i.2 ≤ s.size ∧ i.1.length ≤ i.2 ∧ altGo A s i.1 i.2 = altGo A s [r0] q0) (fun i => s.size - i.2) ([r0], q0) ⟨hq0.1, hq0.2, by simp; omega, rfl⟩ ?_ ?_
  · exact Mv.of [some 0, some 1, some 2] rfl (mvL rfl rfl rfl) (by simp [f58_i5])
  rintro ⟨l, q⟩ ⟨hpq, hq, hlen, hst⟩
  simp only [go_sem, Int.reduceEq, Int.reduceLE, Int.reduceLT, Int.reduceToNat]
  refine ⟨_, isF s cBar q _, ?_⟩
  rintro _ _ ⟨rfl, rfl⟩
  simp only [go_sem, Int.reduceEq, Int.reduceLE, Int.reduceLT, Int.reduceToNat]
  dsimp only at hpq hq hlen hst
  have HA' : ∀ q', q + 1 < q' → q' ≤ s.size → AC Tryz.prog 58 [.ref 0 0] [rdOb s q'] (prR s (A q') []) := fun q' h h' => HA q' (by omega) h'
  cases h1 : isB s q cBar
  case false =>
    rw [altGo, if_neg (by rw [h1]; simp)] at hst
    rw [← hst]
    simp only [go_sem, Int.reduceEq, Int.reduceLE, Int.reduceLT, Int.reduceToNat]
    refine (rexOr l (by omega)).callF (fun k => k == 2) ⟨cvLs rfl rfl, trivial⟩ (Re.d_bl _) ?_
    have ef : frzL (fun k => k == 2) [rdOb s q, zOb, lsOb l] = [rdOb s q, zOb, .frz 6 (l.map Re.c)] := rfl
    simp only [go_sem, Int.reduceEq, Int.reduceLE, Int.reduceLT, Int.reduceToNat, Re.put1, ef]
    exact FinPR rfl rfl rfl
  have lt := isB_lt h1
  have hw := wrap_succ q (by omega)
  rw [altGo, if_pos h1] at hst
  simp only [go_sem, Int.reduceEq, Int.reduceLE, Int.reduceLT, Int.reduceToNat, hw]
  refine ⟨_, (rowC A s (q + 1) hs lt hA HA').pr _, ?_⟩
  cases hc' : pRow A s (q + 1)
  case bad e =>
    rintro _ _ ⟨rfl, k, rfl⟩
    simp only [go_sem, Int.reduceEq, Int.reduceLE, Int.reduceLT, Int.reduceToNat]
    rw [hc'] at hst
    rw [← hst]
    exact FinPB rfl rfl
  rename_i r q'
  rintro _ _ ⟨rfl, rfl⟩
  simp only [go_sem, Int.reduceEq, Int.reduceLE, Int.reduceLT, Int.reduceToNat]
  have hq' := pRow_lt hA hc'
  rw [hc'] at hst
  dsimp only at hst
  rw [dif_pos (by omega)] at hst
  exact ⟨by omega, (l ++ [r], q'), ⟨by dsimp only; omega, hq'.2, by simp; omega, hst⟩, by dsimp only; omega, Mv.of [some 0, some 1, some 3] rfl (mvL rfl rfl (by simp)) (by simp [f58_i5])⟩
theorem altC (s : ByteArray) (hs : s.size ≤ 65536) : ∀ (n p : Nat), s.size - p ≤ n → p ≤ s.size → AC Tryz.prog 58 [.ref 0 0] [rdOb s p] (prR s (altF s p) []) := by
  intro n
  induction n with
  | zero =>
    intro p hn hp
    rw [altF_eq]
    exact altC1 _ s p hs hp (altA_fwd s p) fun q h h' => by omega
  | succ n ih =>
    intro p hn hp
    rw [altF_eq]
    refine altC1 _ s p hs hp (altA_fwd s p) fun q h h' => ?_
    unfold altA
    rw [if_pos ⟨h, h'⟩]
    exact ih q (by omega) h'
end Go.Proofs.YtdliolbjngcgcaaGreatDoor.W
set_option maxRecDepth 100000
/- The reader: a whole text; what is thrown is caught. -/
namespace Go.Proofs.YtdliolbjngcgcaaGreatDoor.W
open Go Go.Proofs Go.Proofs.YtdliolbjngcgcaaGreatDoor.AWP
abbrev WH : Nat := 57
theorem wh_tree : ((Tryz.f57.body.bind drawn1).map fun ops => (ops.toList.map lop, drawOk ops [] 0 false, mkTree ops ops.size (headMask ops.size 0))) = some (f57_r5, true, (.both (.op 0 (.both (.op 1 (.both (.op 2 (.op 3 (.op 4 (.op 5 .done)))) (.op 3 (.op 2 (.op 4 (.op 5 .done)))))) (.op 3 (.op 1 (.op 2 (.op 4 (.op 5 .done))))))) (.op 1 (.both (.op 0 (.both (.op 2 (.op 3 (.op 4 (.op 5 .done)))) (.op 3 (.op 2 (.op 4 (.op 5 .done)))))) (.op 2 (.op 0 (.op 3 (.op 4 (.op 5 .done))))))))) := by kernel_rfl
theorem wh_rf : Tryz.f57.body.map noRF = some true := by kernel_rfl
theorem any_if : Tryz.prog.underlying 20 = some (.interface #[]) := by kernel_rfl
theorem wrong_c : Tryz.prog.concrete 108 = true := by kernel_rfl
abbrev whOb (s : ByteArray) (p : Nat) (x : List D) (a e : Int) : List Ob := [rdOb s p, .var 52 x, .var 3 [.i a], .var 24 [.i e]]
theorem recN (s : ByteArray) (p : Nat) (x : List D) (a e : Int) : DC Tryz.prog WH [.ref 1 0, .ref 2 0, .ref 3 0] (whOb s p x a e) Option.none (fun om => om = whOb s p x a e) := by
  refine DC.lbody hT Tryz.func57 f57_lc wh_rf f57_nm f57_res f57_nt ?_
  refine ALW.block (ALW.seq (ALW.regO ⟨rfl, OpO.eqNil any_if rfl (.inl ⟨rfl, rfl⟩) ?_⟩))
  refine ALW.cond (t := true) rfl ?_
  refine xl_ok hT hm ?_
  simp only [go_sem, Int.reduceEq, Int.reduceLE, Int.reduceLT, Int.reduceToNat]
  exact .inl trivial
theorem recW (s : ByteArray) (p k : Nat) (x : List D) (hx : x.length = 6) (a e : Int) :
    DC Tryz.prog WH [.ref 1 0, .ref 2 0, .ref 3 0] (whOb s p x a e) (some (wrongD k)) (fun om => om = whOb s p zRe k 2 ++ [.var 108 [.i k]]) := by
  obtain ⟨x0, x1, x2, x3, x4, x5, rfl⟩ : ∃ x0 x1 x2 x3 x4 x5, x = [x0, x1, x2, x3, x4, x5] := by
    match x, hx with
    | [x0, x1, x2, x3, x4, x5], _ => exact ⟨x0, x1, x2, x3, x4, x5, rfl⟩
  have hb := f57_lc
  have hrf := wh_rf
  have hd := wh_tree
  simp only [Option.map_eq_some_iff] at hb
  obtain ⟨c, hc, hl⟩ := hb
  rw [hc] at hd hrf
  simp only [f57_c, LC.st] at hl
  obtain ⟨c0, cB, rfl, h0, hB⟩ := lc_inv.1 _ _ hl
  obtain ⟨id0, ops0, rfl, e0⟩ := reg_none h0
  obtain ⟨cS, rfl, hS⟩ := lc_inv.2.2.2.2.2.1 _ _ hB
  obtain ⟨c1, cC, rfl, h1, hC⟩ := lc_inv.1 _ _ hS
  obtain ⟨id1, ops1, rfl, e1⟩ := reg_none h1
  obtain ⟨c2, c3, rfl, h2, h3⟩ := lc_inv.2.2.2.2.2.2.1 _ _ _ hC
  obtain ⟨id2, ops2, rfl, e2⟩ := reg_none h2
  obtain ⟨c3a, c4, rfl, h3a, h4⟩ := lc_inv.1 _ _ h3
  obtain ⟨id3, ops3, rfl, e3⟩ := reg_none h3a
  obtain ⟨c5, c6, rfl, h5, h6⟩ := lc_inv.2.2.2.2.2.2.1 _ _ _ h4
  obtain ⟨c5a, c5b, rfl, h5a, h5b⟩ := lc_inv.1 _ _ h5
  obtain ⟨id4, ops4, rfl, e4⟩ := reg_none h5a
  obtain ⟨id5, ops5, rfl⟩ := regq_inv h5b
  have hd5 : (ops5.toList.map lop, drawOk ops5 [] 0 false, mkTree ops5 ops5.size (headMask ops5.size 0)) = (f57_r5, true, (.both (.op 0 (.both (.op 1 (.both (.op 2 (.op 3 (.op 4 (.op 5 .done)))) (.op 3 (.op 2 (.op 4 (.op 5 .done)))))) (.op 3 (.op 1 (.op 2 (.op 4 (.op 5 .done))))))) (.op 1 (.both (.op 0 (.both (.op 2 (.op 3 (.op 4 (.op 5 .done)))) (.op 3 (.op 2 (.op 4 (.op 5 .done)))))) (.op 2 (.op 0 (.op 3 (.op 4 (.op 5 .done))))))))) := by
    simpa [drawn1] using hd
  simp only [Prod.mk.injEq] at hd5
  obtain ⟨d1, d2, d3⟩ := hd5
  refine DC.body hT Tryz.func57 hc f57_nm f57_res f57_nt e0 (by simpa [noRF] using hrf) ?_
  refine AW.block (AW.seq (AW.regionO _ e1 ⟨rfl, OpO.eqNil any_if rfl (.inr ⟨⟨_, _, rfl⟩, rfl⟩) ?_⟩))
  refine AW.cond (t := false) rfl ?_
  refine AW.seq (AW.regionO _ e3 ⟨rfl, OpO.assert wrong_c rfl ⟨rfl, OpO.aop hT ?_⟩⟩)
  simp only [go_sem, Int.reduceEq, Int.reduceLE, Int.reduceLT, Int.reduceToNat]
  refine ⟨rfl, OpO.aop hT ?_⟩
  simp only [go_sem, Int.reduceEq, Int.reduceLE, Int.reduceLT, Int.reduceToNat]
  refine AW.cond (t := true) rfl ?_
  refine AW.seq (AW.region hT _ [] e4 ?_)
  simp only [go_sem, Int.reduceEq, Int.reduceLE, Int.reduceLT, Int.reduceToNat]
  refine AW.regionT0 hT hm d1 d2 d3 ?_
  simp only [go_sem, Int.reduceEq, Int.reduceLE, Int.reduceLT, Int.reduceToNat]
  simp
abbrev wdD (x : Re × Nat × Nat) : D := .tup [.agg x.1.c, .i x.2.1, .i x.2.2]
theorem FinW {s : ByteArray} {k : Nat} {om : List Ob} {x : Re × Nat × Nat} {d : D} {om0 : List Ob} (h0 : om0.length = 1) (h : om[0]? = some (rdOb s k)) (hd : Cv om (kF [some 0]) [some 0] d (wdD x)) : Fin om0 om (.ret d) (fun o om => o = .ret (wdD x) ∧ ∃ k, om = [rdOb s k]) :=
  FinR h0 h hd ⟨rfl, k, rfl⟩
theorem wholeC (s : ByteArray) (hs : s.size ≤ 65536) : AC Tryz.prog 43 [.ref 0 0] [rdOb s 0] (fun o om => o = .ret (wdD (pWhole s)) ∧ ∃ k, om = [rdOb s k]) := by
  refine AC.lbodyD hT hm Tryz.func43 (l0 := .reg f43_r0 [] none) (l2 := .seq (.reg f43_r2 [] none) (.seq (.seq (.reg f43_r3 [] (some 9)) (.cond (.tmp 17) (.reg f43_r4 [] none) .skip)) (.seq (.reg f43_r5 [] none) .ret)))
    f43_lc f43_nm f43_res f43_nt ?_
  simp only [go_sem, Int.reduceEq, Int.reduceLE, Int.reduceLT, Int.reduceToNat]
  unfold pWhole
  refine ⟨_, (altC s hs _ 0 (Nat.le_refl _) (Nat.zero_le _)).pr _, ?_⟩
  cases hc : altF s 0
  case bad e =>
    rintro _ _ ⟨rfl, k, rfl⟩
    simp only [go_sem, Int.reduceEq, Int.reduceLE, Int.reduceLT, Int.reduceToNat, defQ]
    refine ⟨_, recW s k e zRe rfl 0 0, ?_⟩
    rintro _ rfl
    simp only [go_sem, Int.reduceEq, Int.reduceLE, Int.reduceLT, Int.reduceToNat]
    exact FinW rfl rfl (.tupL ⟨.aggL (by simp [CvL, Re.c_mk, Re.cs_eq]), .v, .v, trivial⟩)
  rename_i r q
  rintro _ _ ⟨rfl, rfl⟩
  simp only [go_sem, Int.reduceEq, Int.reduceLE, Int.reduceLT, Int.reduceToNat, Re.put1]
  by_cases hq : q < s.size
  · simp only [go_sem, Int.reduceEq, Int.reduceLE, Int.reduceLT, Int.reduceToNat, hq, defQ]
    refine ⟨rfl, _, recW s q q r.c (by simp) 0 0, ?_⟩
    rintro _ rfl
    simp only [go_sem, Int.reduceEq, Int.reduceLE, Int.reduceLT, Int.reduceToNat]
    exact FinW rfl rfl (.tupL ⟨.aggL (by simp [CvL, Re.c_mk, Re.cs_eq]), .v, .v, trivial⟩)
  · simp only [go_sem, Int.reduceEq, Int.reduceLE, Int.reduceLT, Int.reduceToNat, hq, defQ, Re.put]
    refine ⟨_, recN s q r.c 0 0, ?_⟩
    rintro _ rfl
    simp only [go_sem, Int.reduceEq, Int.reduceLE, Int.reduceLT, Int.reduceToNat]
    exact FinW rfl rfl (.tupL ⟨.same (Re.d_bl _), .v, .v, trivial⟩)
end Go.Proofs.YtdliolbjngcgcaaGreatDoor.W
set_option maxRecDepth 100000
/- The document's sets. -/
namespace Go.Proofs.YtdliolbjngcgcaaGreatDoor.W
open Go Go.Proofs Go.Proofs.YtdliolbjngcgcaaGreatDoor.AWP
theorem nq64 (n : Nat) (h : n < 256) : IntKind.i64.wrap ((n : Int).tdiv 64) = ((n / 64 : Nat) : Int) := by
  have := q64i (UInt8.ofNat n)
  rwa [byteNat h] at this
theorem nr64 (n : Nat) (h : n < 256) : (n : Int).tmod 64 = ((n % 64 : Nat) : Int) := by
  have := r64 (UInt8.ofNat n)
  rwa [byteNat h] at this
theorem half (m : Nat) (h : m < 2 ^ 64) : IntKind.u64.wrap ((m : Int).tdiv 2) = ((m / 2 : Nat) : Int) := by
  rw [show ((m : Int).tdiv 2) = ((m / 2 : Nat) : Int) from rfl]
  exact u64_wrap _ (by omega)
theorem rHas (ws : List Int) (hw : W64 ws) (n : Nat) (hn : n < 256) : AP Tryz.prog 101 [Ws ws, .i n] (.b (hasB ws n)) := by
  have h4 := hw.len
  have hq : n / 64 < 4 := by omega
  have hg := ws_get (ws := ws) (i := n / 64) (by omega)
  obtain ⟨m, em, hm'⟩ := hw.getD hq
  rw [em] at hg
  refine AC.lbody hT hm Tryz.func101 f101_nm f101_lc f101_res f101_nt ?_
  have hd : (ws.map wD).drop (n / 64) = .v (.int .u64 m) :: (ws.map wD).drop (n / 64 + 1) := by
    rw [List.drop_eq_getElem_cons (by simp; omega)]
    congr 1
    have := wD_get (ws := ws) (i := n / 64) (by omega)
    rw [em, List.getElem?_eq_getElem (by simp; omega)] at this
    simpa [wD_eq] using this
  simp only [go_sem, Int.reduceEq, Int.reduceLE, Int.reduceLT, Int.reduceToNat, nq64 n hn]
  simp only [go_sem, Int.reduceEq, Int.reduceLE, Int.reduceLT, Int.reduceToNat, hq, hd]
  refine xl_loopM hT hm (fun i : Nat => ⟨f101_i6 (.i n) (.v (.int .u64 (m / 2 ^ i : Nat))) (.i i), []⟩)
    (fun i => i ≤ n % 64) (fun i => n % 64 - i) 0 (Nat.zero_le _) (Mv.none (by simp [f101_i6])) ?_
  intro i hi
  simp only [go_sem, Int.reduceEq, Int.reduceLE, Int.reduceLT, Int.reduceToNat, nr64 n hn]
  by_cases h : i < n % 64
  · simp only [go_sem, Int.reduceEq, Int.reduceLE, Int.reduceLT, Int.reduceToNat, h]
    have hb : m / 2 ^ i < 2 ^ 64 := Nat.lt_of_le_of_lt (Nat.div_le_self _ _) hm'
    simp only [go_sem, Int.reduceEq, Int.reduceLE, Int.reduceLT, Int.reduceToNat, half _ hb]
    rw [wrap_succ i (by omega)]
    refine ⟨i + 1, h, by omega, Mv.none ?_⟩
    simp [Nat.pow_succ, Nat.div_div_eq_div_mul]
  · have e : i = n % 64 := by omega
    subst e
    simp only [go_sem, Int.reduceEq, Int.reduceLE, Int.reduceLT, Int.reduceToNat, h]
    refine Fin.v ?_
    congr 1
    unfold hasB
    rw [em]
    show _ = m.testBit (n % 64)
    rw [Nat.testBit_eq_decide_div_mod_eq, show (((m / 2 ^ (n % 64) : Nat) : Int).tmod 2) = ((m / 2 ^ (n % 64) % 2 : Nat) : Int) from rfl]
    by_cases h1 : m / 2 ^ (n % 64) % 2 = 1
    · simp [h1]
    · rw [decide_eq_false h1, AWP.beq_false (by omega)]
theorem rWith (ws : List Int) (hw : W64 ws) (n : Nat) (hn : n < 256) : AP Tryz.prog 93 [Ws ws, .i n] (Ws (setBit ws n)) := by
  have h4 := hw.len
  have hq : n / 64 < 4 := by omega
  have hg := ws_get (ws := ws) (i := n / 64) (by omega)
  have h4' := (hw.setBit hn).len
  refine AC.lbody hT hm Tryz.func93 f93_nm f93_lc f93_res f93_nt ?_
  simp only [go_sem, Int.reduceEq, Int.reduceLE, Int.reduceLT, Int.reduceToNat]
  simp only [go_sem, Int.reduceEq, Int.reduceLE, Int.reduceLT, Int.reduceToNat, h4, W_take h4, W_drop0]
  refine (rHas ws hw n hn).pv ⟨.same (.agg (W_bl _)), .v, trivial⟩ ?_
  cases hh : hasB ws n
  case true =>
    simp only [go_sem, Int.reduceEq, Int.reduceLE, Int.reduceLT, Int.reduceToNat]
    simp only [go_sem, Int.reduceEq, Int.reduceLE, Int.reduceLT, Int.reduceToNat, h4, W_take h4, W_drop0]
    rw [setBit_has hw hn hh]
    exact Fin.ret (.same (.agg (W_bl _)))
  simp only [go_sem, Int.reduceEq, Int.reduceLE, Int.reduceLT, Int.reduceToNat]
  refine xl_loopM hT hm (fun i : Nat => ⟨f93_i8 (.i n) (.ref 0 0) (.ref 1 0) (.v (.int .u64 (2 ^ i : Nat))) (.i i), [wOb ws, wOb noneS]⟩)
    (fun i => i ≤ n % 64) (fun i => n % 64 - i) 0 (Nat.zero_le _) (Mv.of [some 0, some 1] rfl (mvW rfl rfl) (by simp [f93_i8])) ?_
  intro i hi
  simp only [go_sem, Int.reduceEq, Int.reduceLE, Int.reduceLT, Int.reduceToNat, nr64 n hn]
  by_cases h : i < n % 64
  · have hb : 2 ^ (i + 1) < 2 ^ 64 := Nat.pow_lt_pow_right (by omega) (by omega)
    have h2 : IntKind.u64.wrap (2 * ((2 ^ i : Nat) : Int)) = ((2 ^ (i + 1) : Nat) : Int) := by
      rw [← u64_wrap _ hb]; congr 1; rw [Nat.pow_succ]; simp; omega
    simp only [go_sem, Int.reduceEq, Int.reduceLE, Int.reduceLT, Int.reduceToNat, h, h2]
    rw [wrap_succ i (by omega)]
    exact ⟨i + 1, h, by omega, Mv.of [some 0, some 1] rfl (mvW rfl rfl) (by simp)⟩
  · have e : i = n % 64 := by omega
    subst e
    have hq' : n / 64 < ws.length := by omega
    have e1 := setBit_add hw hn hh
    simp only [go_sem, Int.reduceEq, Int.reduceLE, Int.reduceLT, Int.reduceToNat, h, nq64 n hn, hg, hq, hq', wD_eq]
    have p0 := W_put (ty := 49) (a := noneS) rfl h4'
    have e2 : (ws.map wD).set (n / 64) (.v (.int .u64 (IntKind.u64.wrap (ws.getD (n / 64) 0 + ((2 ^ (n % 64) : Nat) : Int))))) = (setBit ws n).map wD := by rw [e1, List.map_set]; rfl
    have l4 : 4 ≤ ws.length := by omega
    simp only [go_sem, Int.reduceEq, Int.reduceLE, Int.reduceLT, Int.reduceToNat, e2, l4, h4', W_take h4', p0, W_drop0]
    exact Fin.ret (.same (.agg (W_bl _)))
theorem rRange (lo hi : Nat) (hl : lo ≤ 255) (hh : hi ≤ 255) : AP Tryz.prog 79 [.i lo, .i hi] (Ws (rangeS lo (hi + 1 - lo))) := by
  refine AC.lbody hT hm Tryz.func79 f79_nm f79_lc f79_res f79_nt ?_
  simp only [go_sem, Int.reduceEq, Int.reduceLE, Int.reduceLT, Int.reduceToNat]
  refine xl_loopM hT hm (fun i : Nat => ⟨f79_i6 (.i hi) (.ref 0 0) (.ref 1 0) (.i (lo + i : Nat)), [wOb noneS, wOb (rangeS lo i)]⟩)
    (fun i => i ≤ hi + 1 - lo) (fun i => 256 - i) 0 (Nat.zero_le _) (Mv.of [some 0, some 1] rfl (mvW rfl rfl) (by simp [f79_i6])) ?_
  intro i hle
  simp only [go_sem, Int.reduceEq, Int.reduceLE, Int.reduceLT, Int.reduceToNat]
  have hw : i ≤ 256 - lo → W64 (rangeS lo i) := fun h => rangeS_w lo i (by omega)
  have h4 := rangeS_len lo i
  by_cases h : lo + i ≤ hi
  case neg =>
    have hn : hi + 1 - lo = i := by omega
    have p0 := W_put (ty := 49) (a := noneS) rfl h4
    simp only [go_sem, Int.reduceEq, Int.reduceLE, Int.reduceLT, Int.reduceToNat, h, h4, W_take h4, p0, W_drop0]
    rw [hn]
    exact Fin.ret (.same (.agg (W_bl _)))
  have h5 := rangeS_len lo (i + 1)
  have p0 := W_put (ty := 49) h4 h5
  simp only [go_sem, Int.reduceEq, Int.reduceLE, Int.reduceLT, Int.reduceToNat, h, h4, W_take h4, W_drop0]
  refine (rWith (rangeS lo i) (hw (by omega)) (lo + i) (by omega)).pd ⟨.same (.agg (W_bl _)), .v, trivial⟩ (.agg (W_bl _)) ?_
  rw [show setBit (rangeS lo i) (lo + i) = rangeS lo (i + 1) from rfl]
  simp only [go_sem, Int.reduceEq, Int.reduceLE, Int.reduceLT, Int.reduceToNat, h5, p0]
  rw [wrap_succ _ (by omega)]
  exact ⟨i + 1, by omega, by omega, Mv.of [some 0, some 1] rfl (mvW rfl rfl) (by simp [Nat.add_assoc])⟩
theorem rOf (l : List UInt8) (hl : l.length ≤ 1000) : AP Tryz.prog 83 [Bys l] (Ws (ofS l)) := by
  refine AC.lbody hT hm Tryz.func83 f83_nm f83_lc f83_res f83_nt ?_
  simp only [go_sem, Int.reduceEq, Int.reduceLE, Int.reduceLT, Int.reduceToNat]
  refine xl_loopM hT hm (fun i : Nat => ⟨f83_i7 (Bys l) (.ref 0 0) (.ref 1 0) (.i l.length) (.i i), [wOb noneS, wOb (ofS (l.take i))]⟩)
    (fun i => i ≤ l.length) (fun i => l.length - i) 0 (Nat.zero_le _) (Mv.of [some 0, some 1] rfl (mvW rfl rfl) (by simp [f83_i7])) ?_
  intro i hi
  simp only [go_sem, Int.reduceEq, Int.reduceLE, Int.reduceLT, Int.reduceToNat]
  by_cases h : i < l.length
  case neg =>
    have h4 := ofS_len l
    have p0 := W_put (ty := 49) (a := noneS) rfl h4
    have ht : l.take i = l := List.take_of_length_le (by omega)
    simp only [go_sem, Int.reduceEq, Int.reduceLE, Int.reduceLT, Int.reduceToNat, h, ht, h4, W_take h4, p0, W_drop0]
    exact Fin.ret (.same (.agg (W_bl _)))
  obtain ⟨b, hb⟩ := get_ex h
  have h4 := ofS_len (l.take i)
  have h5 := ofS_len (l.take (i + 1))
  have e := ofS_take hb
  have p0 := W_put (ty := 49) h4 h5
  have ec : IntKind.i64.wrap (b.toNat : Int) = (b.toNat : Int) := wrap_nat _ (by have := b.toNat_lt; omega)
  simp only [go_sem, Int.reduceEq, Int.reduceLE, Int.reduceLT, Int.reduceToNat, h, h4, W_take h4, W_drop0, byteRows_get hb, ec]
  refine (rWith (ofS (l.take i)) (ofS_w _) b.toNat (by have := b.toNat_lt; omega)).pd ⟨.same (.agg (W_bl _)), .v, trivial⟩ (.agg (W_bl _)) ?_
  rw [← e]
  simp only [go_sem, Int.reduceEq, Int.reduceLE, Int.reduceLT, Int.reduceToNat, h5, p0]
  rw [wrap_succ _ (by omega)]
  exact ⟨i + 1, h, by omega, Mv.of [some 0, some 1] rfl (mvW rfl rfl) (by simp)⟩
theorem rJoin (a b : List Int) (ha : W64 a) (hb : W64 b) : AP Tryz.prog 94 [Ws a, Ws b] (Ws (joinAll [a, b])) := by
  have h4 := ha.len
  have h4b := hb.len
  refine AC.lbody hT hm Tryz.func94 f94_nm f94_lc f94_res f94_nt ?_
  simp only [go_sem, Int.reduceEq, Int.reduceLE, Int.reduceLT, Int.reduceToNat]
  simp only [go_sem, Int.reduceEq, Int.reduceLE, Int.reduceLT, Int.reduceToNat, h4, W_take h4, W_drop0]
  refine xl_loopM hT hm (fun i : Nat × List Int => ⟨f94_i7 (.pel (b.map wD)) (.ref 0 0) (.ref 1 0) (.i i.1), [wOb noneS, wOb i.2]⟩)
    (fun i => i.1 ≤ 256 ∧ W64 i.2 ∧ ∀ n, n < 256 → hasB i.2 n = (hasB a n || (hasB b n && decide (n < i.1)))) (fun i => 256 - i.1) (0, a) ⟨by simp, ha, fun n _ => by simp⟩ (Mv.of [some 0, some 1] rfl (mvW rfl rfl) (by simp [f94_i7, W_bl])) ?_
  rintro ⟨k, ws⟩ ⟨hk, hw, hi⟩
  dsimp only at hk hw hi
  have h5 := hw.len
  simp only [go_sem, Int.reduceEq, Int.reduceLE, Int.reduceLT, Int.reduceToNat]
  by_cases h : (k : Int) < 256
  case neg =>
    have e : ws = joinAll [a, b] := hw.ext (ha.joinAll2 hb) fun n hn => by
      rw [hi n hn, hasB_joinAll2 ha hb hn, decide_eq_true (by omega), Bool.and_true]
    have p0 := W_put (ty := 49) (a := noneS) rfl h5
    simp only [go_sem, Int.reduceEq, Int.reduceLE, Int.reduceLT, Int.reduceToNat, h, h5, W_take h5, p0, W_drop0]
    rw [← e]
    exact Fin.ret (.same (.agg (W_bl _)))
  simp only [go_sem, Int.reduceEq, Int.reduceLE, Int.reduceLT, Int.reduceToNat, h, h4b, W_take h4b, W_drop0]
  refine (rHas b hb k (by omega)).pv ⟨.same (.agg (W_bl _)), .v, trivial⟩ ?_
  simp only [go_sem, Int.reduceEq, Int.reduceLE, Int.reduceLT, Int.reduceToNat]
  have w1 := wrap_succ k (by omega)
  cases hh : hasB b k
  case false =>
    simp only [go_sem, Int.reduceEq, Int.reduceLE, Int.reduceLT, Int.reduceToNat, w1]
    refine ⟨(k + 1, ws), ⟨by dsimp only; omega, hw, fun n hn => ?_⟩, by dsimp only; omega, Mv.of [some 0, some 1] rfl (mvW rfl rfl) (by simp [W_bl])⟩
    rw [hi n hn]
    congr 1
    by_cases e : n = k
    · subst e; rw [hh]; rfl
    · congr 1; rw [decide_eq_decide]; dsimp only; omega
  have h6 := (hw.setBit (n := k) (by omega)).len
  have p0 := W_put (ty := 49) h5 h6
  simp only [go_sem, Int.reduceEq, Int.reduceLE, Int.reduceLT, Int.reduceToNat, h5, W_take h5, W_drop0]
  refine (rWith ws hw k (by omega)).pd ⟨.same (.agg (W_bl _)), .v, trivial⟩ (.agg (W_bl _)) ?_
  simp only [go_sem, Int.reduceEq, Int.reduceLE, Int.reduceLT, Int.reduceToNat, h6, p0, w1]
  refine ⟨(k + 1, setBit ws k), ⟨by dsimp only; omega, hw.setBit (by omega), fun n hn => ?_⟩, by dsimp only; omega, Mv.of [some 0, some 1] rfl (mvW rfl rfl) (by simp [W_bl])⟩
  rw [hasB_setBit hw (by omega) hn, hi n hn, Bool.or_assoc]
  congr 1
  by_cases e : n = k
  · subst e; simp [hh]
  · simp only [e, decide_false, Bool.or_false]; congr 1; rw [decide_eq_decide]; omega
end Go.Proofs.YtdliolbjngcgcaaGreatDoor.W
set_option maxRecDepth 100000
/- The document's expressions and signs. -/
namespace Go.Proofs.YtdliolbjngcgcaaGreatDoor.W
open Go Go.Proofs Go.Proofs.YtdliolbjngcgcaaGreatDoor.AWP
theorem mkTwo (k : Int) (x y : Re) : AP Tryz.prog 63 [.v (.int .u8 k), .agg x.c, .agg y.c] (.agg (Re.mk k 0 0 0 0 [x, y]).c) := by
  refine AC.lbody hT hm Tryz.func63 f63_nm f63_lc f63_res f63_nt ?_
  simp only [go_sem]
  refine Fin.ret (.aggL ?_)
  simp [CvL, Re.c_mk, Re.cs_eq]
theorem rReOf (ws : List Int) (h4 : ws.length = 4) : AP Tryz.prog 78 [Ws ws] (.agg (reS ws).c) := by
  obtain ⟨a, b, c, d, rfl⟩ := four h4
  refine AC.lbody hT hm Tryz.func78 f78_nm f78_lc f78_res f78_nt ?_
  simp only [go_sem, Int.reduceEq, Int.reduceLE, Int.reduceLT, Int.reduceToNat, wD_eq, intsEq]
  by_cases h : a = 0 ∧ b = 0 ∧ c = 0 ∧ d = 0
  · have e : (a == 0 && (b == 0 && (c == 0 && (d == 0 && true)))) = true := by simpa using h
    simp only [go_sem, Int.reduceEq, Int.reduceLE, Int.reduceLT, Int.reduceToNat, e]
    obtain ⟨rfl, rfl, rfl, rfl⟩ := h
    have e3 : reS [0, 0, 0, 0] = .mk 1 0 0 0 0 [] := if_pos rfl
    refine (bare 1).pd (by simp) (by simp) ?_
    rw [e3]
    generalize Re.mk 1 0 0 0 0 [] = r
    simp only [go_sem, Int.reduceEq, Int.reduceLE, Int.reduceLT, Int.reduceToNat, Re.put1]
    exact Fin.ret (.same (Re.d_bl _))
  · have e : (a == 0 && (b == 0 && (c == 0 && (d == 0 && true)))) = false := by
      rw [Bool.eq_false_iff]; simpa using h
    simp only [go_sem, Int.reduceEq, Int.reduceLE, Int.reduceLT, Int.reduceToNat, e]
    refine Fin.ret ?_
    have e3 : reS [a, b, c, d] = .mk 3 a b c d [] := if_neg (by unfold noneS; simpa using h)
    rw [e3]
    exact .aggL (by simp [CvL, Re.c_mk, Re.cs_eq])
theorem foldL_cons (kind none : Int) (x y : Re) (l : List Re) : foldL kind none (x :: y :: l) = .mk kind 0 0 0 0 [x, foldL kind none (y :: l)] := by
  unfold foldL
  simp [List.getLast?_cons, foldR]
/-- What a fold of none is. -/
def noK (kind : Int) : Int := if kind = 4 then 2 else 1
theorem rFold (kind : Int) : ∀ (l : List Re), l.length ≤ 100000 → AP Tryz.prog 46 [.v (.int .u8 kind), Res l] (.agg (foldL kind (noK kind) l).c) := by
  intro l
  induction l with
  | nil =>
    intro _
    refine AC.lbody hT hm Tryz.func46 f46_nm f46_lc f46_res f46_nt ?_
    simp only [go_sem, Int.reduceEq, Int.reduceLE, Int.reduceLT, Int.reduceToNat]
    have t0 : (((0 : Nat) : Int) == 0) = true := rfl
    simp only [go_sem, Int.reduceEq, Int.reduceLE, Int.reduceLT, Int.reduceToNat, List.length_nil, t0]
    have e0 : foldL kind (noK kind) [] = .mk (noK kind) 0 0 0 0 [] := rfl
    rw [e0]
    by_cases h : kind = 4
    · subst h
      simp only [go_sem, Int.reduceEq, Int.reduceLE, Int.reduceLT, Int.reduceToNat]
      refine (bare 2).pd (by simp) (by simp) ?_
      rw [show noK 4 = 2 from rfl]
      generalize Re.mk 2 0 0 0 0 [] = r
      simp only [go_sem, Int.reduceEq, Int.reduceLE, Int.reduceLT, Int.reduceToNat, Re.put1]
      exact Fin.ret (.same (Re.d_bl _))
    · have hf : (kind == 4) = false := AWP.beq_false h
      simp only [go_sem, Int.reduceEq, Int.reduceLE, Int.reduceLT, Int.reduceToNat, hf]
      refine (bare 1).pd (by simp) (by simp) ?_
      rw [show noK kind = 1 from if_neg h]
      generalize Re.mk 1 0 0 0 0 [] = r
      simp only [go_sem, Int.reduceEq, Int.reduceLE, Int.reduceLT, Int.reduceToNat, Re.put1]
      exact Fin.ret (.same (Re.d_bl _))
  | cons x l ih =>
    intro hl
    simp only [List.length_cons] at hl
    cases l with
    | nil =>
      have n0 : (((0 + 1 : Nat) : Int) == 0) = false := rfl
      have n1 : (((0 + 1 : Nat) : Int) == 1) = true := rfl
      have e0 : foldL kind (noK kind) [x] = x := rfl
      rw [e0]
      refine AC.lbody hT hm Tryz.func46 f46_nm f46_lc f46_res f46_nt ?_
      simp only [go_sem, Int.reduceEq, Int.reduceLE, Int.reduceLT, Int.reduceToNat]
      simp only [go_sem, Int.reduceEq, Int.reduceLE, Int.reduceLT, Int.reduceToNat, List.length_cons, List.length_nil, n0, n1, Re.put1]
      exact Fin.ret (.same (Re.d_bl _))
    | cons y l =>
      have n0 : (((l.length + 1 + 1 : Nat) : Int) == 0) = false := AWP.beq_false (by omega)
      have n1 : (((l.length + 1 + 1 : Nat) : Int) == 1) = false := AWP.beq_false (by omega)
      have ih := ih (by omega)
      simp only [List.length_cons] at hl
      rw [foldL_cons]
      refine AC.lbody hT hm Tryz.func46 f46_nm f46_lc f46_res f46_nt ?_
      simp only [go_sem, Int.reduceEq, Int.reduceLE, Int.reduceLT, Int.reduceToNat]
      simp only [go_sem, Int.reduceEq, Int.reduceLE, Int.reduceLT, Int.reduceToNat, List.length_cons, n0, n1]
      simp only [go_sem, Int.reduceEq, Int.reduceLE, Int.reduceLT, Int.reduceToNat, Nat.le_refl, List.take_of_length_le, List.length_map]
      have er : D.sl 6 (y.c :: l.map Re.c) = Res (y :: l) := by rw [← Re.cs_eq]; rfl
      rw [er]
      refine ih.qd ⟨.v, .same (by simp), trivial⟩ (Re.d_bl _) ?_
      simp only [go_sem, Int.reduceEq, Int.reduceLE, Int.reduceLT, Int.reduceToNat]
      generalize foldL kind (noK kind) (y :: l) = z
      refine (mkTwo kind x z).pd ⟨.v, .same (Re.d_bl _), .same (Re.d_bl _), trivial⟩ (Re.d_bl _) ?_
      simp only [go_sem, Int.reduceEq, Int.reduceLE, Int.reduceLT, Int.reduceToNat]
      exact Fin.ret (.aggL (by simp [CvL, Re.c_mk, Re.cs_eq]))
/-! ### Signs -/
theorem special (b : UInt8) : AP Tryz.prog 91 [.y b] (.b (!plain b)) := by
  refine AC.lbody hT hm Tryz.func91 f91_nm f91_lc f91_res f91_nt ?_
  simp only [go_sem, Int.reduceEq, Int.reduceLE, Int.reduceLT, Int.reduceToNat]
  refine xl_loopM hT hm (fun i : Nat => ⟨f91_i7 (.y b) (.s spec1) (.i i), []⟩)
    (fun i => i ≤ 9 ∧ ∀ j, j < i → spec1.data[j]? ≠ some b) (fun i => 9 - i) 0 ⟨Nat.zero_le _, fun j h => absurd h (Nat.not_lt_zero _)⟩ (Mv.none (by simp [f91_i7, spec1])) ?_
  rintro i ⟨hi, hn⟩
  have hsz : spec1.size = 9 := rfl
  simp only [go_sem, Int.reduceEq, Int.reduceLE, Int.reduceLT, Int.reduceToNat, hsz]
  by_cases h : i < 9
  case neg =>
    have e := plain_of b fun j hj => hn j (by omega)
    simp only [go_sem, Int.reduceEq, Int.reduceLE, Int.reduceLT, Int.reduceToNat, h]
    rw [e]
    by_cases h1 : (b.toNat : Int) < 33
    · simp only [go_sem, Int.reduceEq, Int.reduceLE, Int.reduceLT, Int.reduceToNat, h1]
      exact Fin.v (by have : b.toNat < 33 := by omega
                      simp [this])
    · simp only [go_sem, Int.reduceEq, Int.reduceLE, Int.reduceLT, Int.reduceToNat, h1]
      exact Fin.v (by have : ¬ b.toNat < 33 := by omega
                      have e2 : ((126 : Int) < b.toNat) = (126 < b.toNat) := by apply propext; omega
                      simp [this, e2])
  obtain ⟨c, hc⟩ := get_lt (s := spec1) (p := i) h
  simp only [go_sem, Int.reduceEq, Int.reduceLE, Int.reduceLT, Int.reduceToNat, h, hc]
  by_cases hcb : c = b
  · subst hcb
    have e1 : ((c.toNat : Int) == c.toNat) = true := by simp
    simp only [go_sem, Int.reduceEq, Int.reduceLE, Int.reduceLT, Int.reduceToNat, e1]
    exact Fin.v (by rw [plain_not c h hc]; rfl)
  · have e1 : ((c.toNat : Int) == b.toNat) = false := by
      refine AWP.beq_false fun e => hcb ?_
      have : c.toNat = b.toNat := by omega
      exact UInt8.toNat_inj.1 this
    simp only [go_sem, Int.reduceEq, Int.reduceLE, Int.reduceLT, Int.reduceToNat, e1]
    rw [wrap_succ i (by omega)]
    refine ⟨i + 1, ⟨h, fun j hj => ?_⟩, by omega, Mv.none (by simp)⟩
    by_cases e : j = i
    · subst e; rw [hc]; simpa using hcb
    · exact hn j (by omega)
theorem rDigit (n : Nat) (h : n < 16) : AP Tryz.prog 100 [.i n] (.s ⟨#[hexD n]⟩) := by
  refine AC.lbody hT hm Tryz.func100 f100_nm f100_lc f100_res f100_nt ?_
  have h1 := wrap_succ n (by omega)
  have h2 : n ≤ n + 1 ∧ n + 1 ≤ 16 := by omega
  have e := hexD_ext n h
  unfold hexS at e
  simp only [go_sem, Int.reduceEq, Int.reduceLE, Int.reduceLT, Int.reduceToNat, h1]
  have h3 : n ≤ 15 := by omega
  simp only [go_sem, Int.reduceEq, Int.reduceLE, Int.reduceLT, Int.reduceToNat, h1, h2, h3, and_self, e]
  exact Fin.v rfl
theorem rHex (b : UInt8) : AP Tryz.prog 92 [Bys [b]] (.s ⟨(hexB b).toArray⟩) := by
  have hb := b.toNat_lt
  have ec : IntKind.i64.wrap (b.toNat : Int) = (b.toNat : Int) := wrap_nat _ (by omega)
  have eq : IntKind.i64.wrap ((b.toNat : Int).tdiv 16) = ((b.toNat / 16 : Nat) : Int) := by
    rw [show ((b.toNat : Int).tdiv 16) = ((b.toNat / 16 : Nat) : Int) from rfl, wrap_nat _ (by omega)]
  have er : ((b.toNat : Int).tmod 16) = ((b.toNat % 16 : Nat) : Int) := rfl
  have hg : (byteRows [b])[0]? = some [.y b] := rfl
  refine AC.lbody hT hm Tryz.func92 f92_nm f92_lc f92_res f92_nt ?_
  simp only [go_sem, Int.reduceEq, Int.reduceLE, Int.reduceLT, Int.reduceToNat]
  refine xl_loopM hT hm (fun i : Nat => ⟨f92_i7 (Bys [b]) (.s ⟨(if i = 0 then [] else hexB b).toArray⟩) (.i 1) (.i i), []⟩)
    (fun i => i ≤ 1) (fun i => 1 - i) 0 (Nat.zero_le _) (Mv.none (by simp [f92_i7])) ?_
  intro i hi
  simp only [go_sem, Int.reduceEq, Int.reduceLE, Int.reduceLT, Int.reduceToNat]
  cases i with
  | zero =>
    have t0 : decide (((0 : Nat) : Int) < 1) = true := rfl
    simp only [go_sem, Int.reduceEq, Int.reduceLE, Int.reduceLT, Int.reduceToNat, t0, hg, ec, eq, eq_self]
    refine (rDigit (b.toNat / 16) (by omega)).qv (by simp) ?_
    have s1 : (⟨([] : List UInt8).toArray⟩ : ByteArray) ++ ⟨#[hexD (b.toNat / 16)]⟩ = ⟨[hexD (b.toNat / 16)].toArray⟩ := ba_app [] [hexD (b.toNat / 16)]
    have s2 : (⟨[hexD (b.toNat / 16)].toArray⟩ : ByteArray) ++ ⟨#[hexD (b.toNat % 16)]⟩ = ⟨(hexB b).toArray⟩ := by
      have e1 : hexD (b.toNat % 16) = hexD b.toNat := by unfold hexD; rw [Nat.mod_mod]
      rw [e1]
      exact ba_app [hexD (b.toNat / 16)] [hexD b.toNat]
    have z1 : (⟨([] : List UInt8).toArray⟩ : ByteArray).size + (⟨#[hexD (b.toNat / 16)]⟩ : ByteArray).size ≤ 9223372036854775807 := by show (_ : Nat) + 1 ≤ _; simp [ByteArray.size]
    have z2 : (⟨[hexD (b.toNat / 16)].toArray⟩ : ByteArray).size + (⟨#[hexD (b.toNat % 16)]⟩ : ByteArray).size ≤ 9223372036854775807 := by show (_ : Nat) + 1 ≤ _; simp [ByteArray.size]
    simp only [go_sem, Int.reduceEq, Int.reduceLE, Int.reduceLT, Int.reduceToNat, hg, ec, er, s1, z1]
    refine (rDigit (b.toNat % 16) (by omega)).qv ⟨.v, trivial⟩ ?_
    simp only [go_sem, Int.reduceEq, Int.reduceLE, Int.reduceLT, Int.reduceToNat, s2, z2]
    exact ⟨1, by omega, by omega, Mv.none (by simp [f92_i7, show IntKind.i64.wrap 1 = 1 from rfl])⟩
  | succ i =>
    obtain rfl : i = 0 := by omega
    have t0 : decide (((0 + 1 : Nat) : Int) < 1) = false := rfl
    simp only [go_sem, Int.reduceEq, Int.reduceLE, Int.reduceLT, Int.reduceToNat, t0]
    exact Fin.v rfl
end Go.Proofs.YtdliolbjngcgcaaGreatDoor.W
set_option maxRecDepth 100000
/- The document's reader: signs. -/
namespace Go.Proofs.YtdliolbjngcgcaaGreatDoor.W
open Go Go.Proofs Go.Proofs.YtdliolbjngcgcaaGreatDoor.AWP
theorem rSign (b : UInt8) : AP Tryz.prog 77 [.y b] (.s ⟨(signB b).toArray⟩) := by
  refine AC.lbody hT hm Tryz.func77 f77_nm f77_lc f77_res f77_nt ?_
  simp only [go_sem, Int.reduceEq, Int.reduceLE, Int.reduceLT, Int.reduceToNat]
  refine (special b).pv (by simp) ?_
  unfold signB
  cases h : plain b
  case false =>
    simp only [go_sem, Int.reduceEq, Int.reduceLE, Int.reduceLT, Int.reduceToNat]
    refine (rHex b).pv ⟨.eq rfl (by simp), trivial⟩ ?_
    have s1 : (⟨#[92]⟩ : ByteArray) ++ ⟨(hexB b).toArray⟩ = ⟨(92 :: hexB b).toArray⟩ := ba_app [92] (hexB b)
    have z1 : (⟨#[92]⟩ : ByteArray).size + (⟨(hexB b).toArray⟩ : ByteArray).size ≤ 9223372036854775807 := by
      rw [ba_size]; show 1 + 2 ≤ _; omega
    simp only [go_sem, Int.reduceEq, Int.reduceLE, Int.reduceLT, Int.reduceToNat, s1, z1]
    exact Fin.v rfl
  have e1 : bytesOfRows [[.v (.int .u8 b.toNat)]] = some [b] := bytesOfRows_of [b]
  simp only [go_sem, Int.reduceEq, Int.reduceLE, Int.reduceLT, Int.reduceToNat, e1]
  exact Fin.v rfl
theorem rValue (b : UInt8) : AP Tryz.prog 95 [.y b] (.i (firstIdx hexS b)) := by
  have hb := b.toNat_lt
  rw [hexVal]
  refine AC.lbody hT hm Tryz.func95 f95_nm f95_lc f95_res f95_nt ?_
  simp only [go_sem, Int.reduceEq, Int.reduceLE, Int.reduceLT, Int.reduceToNat]
  have out : ¬ (48 ≤ b.toNat ∧ b.toNat ≤ 57) → ¬ (97 ≤ b.toNat ∧ b.toNat ≤ 102) → (if 48 ≤ b.toNat ∧ b.toNat ≤ 57 then (b.toNat : Int) - 48 else if 97 ≤ b.toNat ∧ b.toNat ≤ 102 then (b.toNat : Int) - 87 else -1) = -1 := fun h h' => by rw [if_neg h, if_neg h']
  by_cases h1 : (48 : Int) ≤ b.toNat
  case neg =>
    have h3 : ¬ (97 : Int) ≤ b.toNat := by omega
    simp only [go_sem, Int.reduceEq, Int.reduceLE, Int.reduceLT, Int.reduceToNat, h1, h3]
    rw [out (by omega) (by omega)]
    exact Fin.v rfl
  by_cases h2 : (b.toNat : Int) ≤ 57
  · have w1 : IntKind.u8.wrap ((b.toNat : Int) - 48) = (b.toNat : Int) - 48 := by rw [IntKind.wrap_u8]; omega
    have w2 : IntKind.i64.wrap ((b.toNat : Int) - 48) = (b.toNat : Int) - 48 := wrap_int _ (by omega) (by omega)
    simp only [go_sem, Int.reduceEq, Int.reduceLE, Int.reduceLT, Int.reduceToNat, h1, h2, w1, w2]
    rw [if_pos (by omega)]
    exact Fin.v rfl
  by_cases h3 : (97 : Int) ≤ b.toNat
  case neg =>
    simp only [go_sem, Int.reduceEq, Int.reduceLE, Int.reduceLT, Int.reduceToNat, h1, h2, h3]
    rw [out (by omega) (by omega)]
    exact Fin.v rfl
  by_cases h4 : (b.toNat : Int) ≤ 102
  case neg =>
    simp only [go_sem, Int.reduceEq, Int.reduceLE, Int.reduceLT, Int.reduceToNat, h1, h2, h3, h4]
    rw [out (by omega) (by omega)]
    exact Fin.v rfl
  have w1 : IntKind.u8.wrap ((b.toNat : Int) - 97) = (b.toNat : Int) - 97 := by rw [IntKind.wrap_u8]; omega
  have w2 : IntKind.i64.wrap ((b.toNat : Int) - 97) = (b.toNat : Int) - 97 := wrap_int _ (by omega) (by omega)
  have w3 : IntKind.i64.wrap ((b.toNat : Int) - 97 + 10) = (b.toNat : Int) - 87 := by rw [wrap_int _ (by omega) (by omega)]; omega
  simp only [go_sem, Int.reduceEq, Int.reduceLE, Int.reduceLT, Int.reduceToNat, h1, h2, h3, h4, w1, w2, w3]
  rw [if_neg (by omega), if_pos (by omega)]
  exact Fin.v rfl
theorem rIs (s : ByteArray) (p : Nat) (c : UInt8) : AP Tryz.prog 45 [.s s, .i p, .y c] (.b (isB s p ⟨#[c]⟩)) := by
  refine AC.lbody hT hm Tryz.func45 f45_nm f45_lc f45_res f45_nt ?_
  simp only [go_sem, Int.reduceEq, Int.reduceLE, Int.reduceLT, Int.reduceToNat]
  by_cases h : p < s.size
  case neg =>
    simp only [go_sem, Int.reduceEq, Int.reduceLE, Int.reduceLT, Int.reduceToNat, h]
    rw [isB_end h]
    exact Fin.v rfl
  obtain ⟨b, hb⟩ := get_lt h
  simp only [go_sem, Int.reduceEq, Int.reduceLE, Int.reduceLT, Int.reduceToNat, h, hb]
  rw [isB_at hb, one_idx]
  refine Fin.v ?_
  congr 1
  by_cases e : c = b
  · subst e; simp
  · have : ¬ (b.toNat : Int) = c.toNat := fun h => e (UInt8.toNat_inj.1 (by omega))
    rw [AWP.beq_false this, decide_eq_false e]
theorem rBegins (s : ByteArray) (p : Nat) (hs : s.size ≤ 65536) : AP Tryz.prog 59 [.s s, .i p] (.b (begB s p)) := by
  refine AC.lbody hT hm Tryz.func59 f59_nm f59_lc f59_res f59_nt ?_
  simp only [go_sem, Int.reduceEq, Int.reduceLE, Int.reduceLT, Int.reduceToNat]
  by_cases h : p < s.size
  case neg =>
    simp only [go_sem, Int.reduceEq, Int.reduceLE, Int.reduceLT, Int.reduceToNat, h]
    rw [begB_end h]
    exact Fin.v rfl
  obtain ⟨b, hb⟩ := get_lt h
  have h1 : p + 1 ≤ s.size := h
  have h2 := wrap_succ p (by omega)
  simp only [go_sem, Int.reduceEq, Int.reduceLE, Int.reduceLT, Int.reduceToNat, h, hb]
  by_cases h92 : b.toNat = 92
  · have e1 : ((b.toNat : Int) == 92) = true := by simp; omega
    simp only [go_sem, Int.reduceEq, Int.reduceLE, Int.reduceLT, Int.reduceToNat, e1]
    have hb92 : (92 : UInt8) = b := UInt8.toNat_inj.1 h92.symm
    have : begB s p = true := by unfold begB; rw [isB_at hb, one_idx, decide_eq_true hb92]; rfl
    rw [this]
    exact Fin.v rfl
  have e1 : ((b.toNat : Int) == 92) = false := AWP.beq_false (by omega)
  simp only [go_sem, Int.reduceEq, Int.reduceLE, Int.reduceLT, Int.reduceToNat, e1, hb]
  refine (rSign b).qv (by simp) ?_
  simp only [go_sem, Int.reduceEq, Int.reduceLE, Int.reduceLT, Int.reduceToNat, h2, h1, Nat.le_succ]
  have hb92 : ¬ (92 : UInt8) = b := fun h => h92 (by rw [← h]; rfl)
  have : begB s p = plain b := by unfold begB; rw [isB_at hb, one_idx, decide_eq_false hb92, hb]; rfl
  rw [this, ext1 hb]
  refine Fin.v ?_
  congr 1
  cases hp : plain b <;> simp [signB, hp, hexB]
/-- What the document's sign hands back. -/
abbrev sgD (x : PB) : D :=
  match x with
  | .ok b q => .tup [.i b.toNat, .i q]
  | .bad e => .tup [.i (-1), .i e]
theorem rSgn (s : ByteArray) (p : Nat) (hs : s.size ≤ 65536) : AP Tryz.prog 82 [.s s, .i p] (sgD (pSign s p)) := by
  refine AC.lbody hT hm Tryz.func82 f82_nm f82_lc f82_res f82_nt ?_
  simp only [go_sem, Int.reduceEq, Int.reduceLE, Int.reduceLT, Int.reduceToNat]
  refine (rBegins s p hs).pv (by simp) ?_
  cases h : begB s p
  case false =>
    have e : pSign s p = .bad p := by unfold pSign; rw [h]; rfl
    rw [e]
    simp only [go_sem, Int.reduceEq, Int.reduceLE, Int.reduceLT, Int.reduceToNat]
    exact Fin.ret (.tupL ⟨.v, .v, trivial⟩)
  have hp := begB_lt h
  obtain ⟨b, hb⟩ := get_lt hp
  have h2 := wrap_succ p (by omega)
  simp only [go_sem, Int.reduceEq, Int.reduceLE, Int.reduceLT, Int.reduceToNat, hb]
  by_cases h92 : b.toNat = 92
  case neg =>
    have e : pSign s p = .ok b (p + 1) := by unfold pSign; rw [if_pos h, at_of hb, if_neg h92]
    have n1 : ((b.toNat : Int) != 92) = true := by simp; omega
    have w1 : IntKind.i64.wrap (b.toNat : Int) = b.toNat := wrap_nat _ (by have := b.toNat_lt; omega)
    rw [e]
    simp only [go_sem, Int.reduceEq, Int.reduceLE, Int.reduceLT, Int.reduceToNat, n1, hb, w1, h2]
    exact Fin.ret (.tupL ⟨.v, .v, trivial⟩)
  have n1 : ((b.toNat : Int) != 92) = false := by simp; omega
  simp only [go_sem, Int.reduceEq, Int.reduceLE, Int.reduceLT, Int.reduceToNat, n1]
  have g92 : (s.data.getD p 0).toNat = 92 := by rw [at_of hb]; exact h92
  refine xl_loopM hT hm (fun i : Nat => ⟨f82_i12 (.s s) (.i p) (.i (accN s p i)) (.i (i + 1 : Nat)), []⟩)
    (fun i => i ≤ 2 ∧ (1 ≤ i → isB s (p + 1) hexS = true) ∧ (2 ≤ i → isB s (p + 2) hexS = true)) (fun i => 2 - i) 0 ⟨Nat.zero_le _, by omega, by omega⟩ (Mv.none (by simp [f82_i12, accN])) ?_
  rintro i ⟨hi, hi1, hi2⟩
  have w0 : IntKind.i64.wrap ((p : Int) + ((i + 1 : Nat) : Int)) = ((p + (i + 1) : Nat) : Int) := by
    rw [show ((p : Int) + ((i + 1 : Nat) : Int)) = ((p + (i + 1) : Nat) : Int) by simp, wrap_nat _ (by omega)]
  simp only [go_sem, Int.reduceEq, Int.reduceLE, Int.reduceLT, Int.reduceToNat]
  by_cases h3 : ((i + 1 : Nat) : Int) ≤ 2
  case neg =>
    obtain rfl : i = 2 := by omega
    have w3 : IntKind.i64.wrap ((p : Int) + 3) = ((p + 3 : Nat) : Int) := by
      rw [show ((p : Int) + 3) = ((p + 3 : Nat) : Int) by simp, wrap_nat _ (by omega)]
    have e : pSign s p = .ok (UInt8.ofNat (16 * hexAt s (p + 1) + hexAt s (p + 2))) (p + 3) := by
      unfold pSign
      rw [if_pos h, if_pos g92, if_pos (hi1 (by omega)), if_pos (hi2 (by omega))]
    have e2 : ((UInt8.ofNat (16 * hexAt s (p + 1) + hexAt s (p + 2))).toNat : Int) = (accN s p 2 : Nat) := byte_of _ (by have := accN_le s p 2; show accN s p 2 < 256; omega)
    rw [e]
    simp only [go_sem, Int.reduceEq, Int.reduceLE, Int.reduceLT, Int.reduceToNat, h3, w3]
    refine Fin.ret (.tupL ⟨.eq ?_ (.v _), .v, trivial⟩)
    rw [e2]
  simp only [go_sem, Int.reduceEq, Int.reduceLE, Int.reduceLT, Int.reduceToNat, h3, w0]
  by_cases h4 : s.size ≤ p + (i + 1)
  · have e := pSign_bad h g92 (by omega) hi1 (isB_end (l := hexS) (by omega))
    rw [e]
    simp only [go_sem, Int.reduceEq, Int.reduceLE, Int.reduceLT, Int.reduceToNat, h4, w0]
    exact Fin.ret (.tupL ⟨.v, .v, trivial⟩)
  obtain ⟨c, hc⟩ := get_lt (s := s) (p := p + (i + 1)) (by omega)
  simp only [go_sem, Int.reduceEq, Int.reduceLE, Int.reduceLT, Int.reduceToNat, h4, w0, hc]
  refine (rValue c).pv (by simp) ?_
  by_cases h5 : firstIdx hexS c < 0
  · have e := pSign_bad h g92 (by omega) hi1 (by rw [isB_at hc]; simp; omega)
    rw [e]
    simp only [go_sem, Int.reduceEq, Int.reduceLE, Int.reduceLT, Int.reduceToNat, h5, w0]
    exact Fin.ret (.tupL ⟨.v, .v, trivial⟩)
  simp only [go_sem, Int.reduceEq, Int.reduceLE, Int.reduceLT, Int.reduceToNat, h5, w0, hc]
  refine (rValue c).pv (by simp) ?_
  have hle := hexS_le c
  have hat : (hexAt s (p + (i + 1)) : Int) = firstIdx hexS c := by unfold hexAt; rw [at_of hc]; omega
  have ha := accN_le s p i
  have ha' := accN_le s p (i + 1)
  have hs := accN_succ (s := s) (p := p) (i := i) (by omega)
  have w5 : IntKind.i64.wrap (16 * (accN s p i : Int)) = 16 * (accN s p i : Int) := wrap_int _ (by omega) (by omega)
  have w6 : IntKind.i64.wrap (16 * (accN s p i : Int) + firstIdx hexS c) = (accN s p (i + 1) : Int) := by
    rw [wrap_int _ (by omega) (by omega), hs, ← hat]; simp
  simp only [go_sem, Int.reduceEq, Int.reduceLE, Int.reduceLT, Int.reduceToNat, w5, w6]
  rw [wrap_succ (i + 1) (by omega)]
  refine ⟨i + 1, ⟨by omega, fun h' => ?_, fun h' => ?_⟩, by omega, Mv.none (by simp)⟩
  · by_cases e : i = 0
    · subst e; rw [isB_at hc]; simp; omega
    · exact hi1 (by omega)
  · obtain rfl : i = 1 := by omega
    rw [show p + 2 = p + (1 + 1) from rfl, isB_at hc]; simp; omega
theorem rBad (e : Nat) : AP Tryz.prog 81 [.i e] (.agg ((Re.mk 0 0 0 0 0 []).c ++ [.i e, .b true])) := by
  refine AC.lbody hT hm Tryz.func81 f81_nm f81_lc f81_res f81_nt ?_
  simp only [go_sem, Int.reduceEq, Int.reduceLE, Int.reduceLT, Int.reduceToNat]
  exact Fin.ret (.aggL (by simp [CvL, Re.c_mk, Re.cs_eq]))
end Go.Proofs.YtdliolbjngcgcaaGreatDoor.W
set_option maxRecDepth 100000
/- The document's reader: expressions. -/
namespace Go.Proofs.YtdliolbjngcgcaaGreatDoor.W
open Go Go.Proofs Go.Proofs.YtdliolbjngcgcaaGreatDoor.AWP
/-- The cells of what is read. -/
def pC (r : Re) (q : Nat) (f : Bool) : List D := r.c ++ [.i q, .b f]
abbrev prC (x : PR) : List D :=
  match x with
  | .ok r q => pC r q false
  | .bad e => pC (.mk 0 0 0 0 0 []) e true
abbrev pOb (r : Re) (q : Nat) (f : Bool) : Ob := .var 79 (pC r q f)
abbrev zP : Ob := .var 79 (zRe ++ [.i 0, .b false])
@[simp] theorem pC_len (r : Re) (q : Nat) (f : Bool) : (pC r q f).length = 8 := by simp [pC]
theorem pC_take8 (r : Re) (q : Nat) (f : Bool) : (pC r q f).take 8 = pC r q f := List.take_of_length_le (by simp)
theorem pC_take6 (r : Re) (q : Nat) (f : Bool) : (pC r q f).take 6 = r.c := by
  unfold pC
  rw [List.take_append_of_le_length (by simp)]
  exact List.take_of_length_le (by simp)
theorem pC_6 (r : Re) (q : Nat) (f : Bool) : (pC r q f)[6]? = some (.i q) := by
  unfold pC; rw [List.getElem?_append_right (by simp)]; simp
theorem pC_7 (r : Re) (q : Nat) (f : Bool) : (pC r q f)[7]? = some (.b f) := by
  unfold pC; rw [List.getElem?_append_right (by simp)]; simp
theorem pC_drop0 (r : Re) (q : Nat) (f : Bool) : (pC r q f).drop 0 = pC r q f := rfl
theorem pC_bl (r : Re) (q : Nat) (f : Bool) : ∀ d ∈ pC r q f, Bl 0 d := by
  intro d hd
  unfold pC at hd
  rcases List.mem_append.1 hd with h | h
  · exact Re.c_bl r d h
  · simp at h; rcases h with rfl | rfl <;> exact .v _
theorem pC_put (r : Re) (q : Nat) (f : Bool) : obPut zP 0 (pC r q f) = some (pOb r q f) := by
  rw [obPut_var (by simp), splc_all (by simp)]
theorem pC_putR (r r' : Re) (q : Nat) (f : Bool) : obPut (pOb r q f) 0 r'.c = some (pOb r' q f) := by
  rw [obPut_var (by simp)]
  congr 2
  unfold pC splc
  simp
theorem re_take6 (r : Re) (x y : D) : List.take 6 (r.c ++ [x, y]) = r.c := by
  rw [List.take_append_of_le_length (by simp)]; exact List.take_of_length_le (by simp)
theorem re_drop7 (r : Re) (x y : D) : List.drop 7 (r.c ++ [x, y]) = [y] := by
  rw [List.drop_append, List.drop_eq_nil_of_le (by simp)]; simp
theorem pC_fold (r : Re) (q : Nat) (f : Bool) : r.c ++ [D.v (.int .i64 q), D.v (.bool f)] = pC r q f := rfl
theorem FinC {om : List Ob} {x : PR} {d : D} (h : d = .agg (prC x)) : Fin [] om (.ret d) (fun o om' => o = .ret (.agg (prC x)) ∧ om' = []) := by
  subst h
  refine Fin.ret (.same (.agg ?_))
  cases x <;> exact pC_bl _ _ _
theorem rBadP (e : Nat) : AP Tryz.prog 81 [.i e] (.agg (pC (.mk 0 0 0 0 0 []) e true)) := rBad e
theorem rCls (s : ByteArray) (p0 : Nat) (hs : s.size ≤ 65536) (hp0 : p0 ≤ s.size) : AP Tryz.prog 80 [.s s, .i p0] (.agg (prC (clsGo s noneS p0))) := by
  refine AC.lbody hT hm Tryz.func80 f80_nm f80_lc f80_res f80_nt ?_
  simp only [go_sem, Int.reduceEq, Int.reduceLE, Int.reduceLT, Int.reduceToNat]
  refine xl_loopM hT hm (fun i : List Int × Nat => ⟨f80_i17 (.s s) (.i i.2) (.ref 0 0) (.ref 1 0), [zP, wOb i.1]⟩)
    (fun i => W64 i.1 ∧ i.2 ≤ s.size ∧ clsGo s i.1 i.2 = clsGo s noneS p0) (fun i => s.size - i.2) (noneS, p0) ⟨W64.none, hp0, rfl⟩ (Mv.of [some 0, some 1] rfl ⟨.varS rfl (by simp), .varS rfl (W_bl _), trivial⟩ (by simp [f80_i17])) ?_
  rintro ⟨ws, p⟩ ⟨hw, hp, hc⟩
  dsimp only at hw hp hc
  have h4 := hw.len
  simp only [go_sem, Int.reduceEq, Int.reduceLE, Int.reduceLT, Int.reduceToNat]
  refine (rIs s p 93).pv ⟨.v, .v, .eq rfl (by simp), trivial⟩ ?_
  simp only [go_sem, Int.reduceEq, Int.reduceLE, Int.reduceLT, Int.reduceToNat]
  cases hb : isB s p cRb
  case true =>
    have lt := isB_lt hb
    rw [clsGo, if_pos hb] at hc
    have h2 := wrap_succ p (by omega)
    simp only [go_sem, Int.reduceEq, Int.reduceLE, Int.reduceLT, Int.reduceToNat, h2, h4, W_take h4, W_drop0]
    refine (rReOf ws h4).pd ⟨.same (.agg (W_bl _)), trivial⟩ (Re.d_bl _) ?_
    simp only [go_sem, Int.reduceEq, Int.reduceLE, Int.reduceLT, Int.reduceToNat, h2, re_take6, re_drop7, pC_fold, pC_len, pC_put, pC_take8, pC_drop0]
    rw [← hc]
    exact FinC rfl
  rw [clsGo, if_neg (by rw [hb]; simp)] at hc
  simp only [go_sem, Int.reduceEq, Int.reduceLE, Int.reduceLT, Int.reduceToNat]
  refine (rSgn s p hs).pd ⟨.v, .v, trivial⟩ (by cases pSign s p <;> simp [sgD]) ?_
  cases hsg : pSign s p
  case bad e =>
    simp only [go_sem, Int.reduceEq, Int.reduceLE, Int.reduceLT, Int.reduceToNat]
    refine (rBadP e).pd ⟨.v, trivial⟩ (.agg (pC_bl _ _ _)) ?_
    rw [hsg] at hc
    rw [← hc]
    simp only [go_sem, Int.reduceEq, Int.reduceLE, Int.reduceLT, Int.reduceToNat, pC_len, pC_put, pC_take8, pC_drop0]
    exact FinC rfl
  rename_i lo q
  have hq := pSign_lt hsg
  rw [hsg] at hc
  simp only [hq, and_self, dif_pos] at hc
  have nlo : ¬ (lo.toNat : Int) < 0 := by omega
  simp only [go_sem, Int.reduceEq, Int.reduceLE, Int.reduceLT, Int.reduceToNat]
  simp only [go_sem, Int.reduceEq, Int.reduceLE, Int.reduceLT, Int.reduceToNat, nlo]
  refine (rIs s q 45).pv ⟨.v, .v, .eq rfl (by simp), trivial⟩ ?_
  simp only [go_sem, Int.reduceEq, Int.reduceLE, Int.reduceLT, Int.reduceToNat]
  cases hd : isB s q cDash
  case false =>
    rw [if_neg (by rw [hd]; simp)] at hc
    simp only [go_sem, Int.reduceEq, Int.reduceLE, Int.reduceLT, Int.reduceToNat, h4, W_take h4, W_drop0]
    refine (rRange lo.toNat lo.toNat (by have := lo.toNat_lt; omega) (by have := lo.toNat_lt; omega)).qd ⟨.v, .v, trivial⟩ (.agg (W_bl _)) ?_
    have hr := rangeS_w lo.toNat (lo.toNat + 1 - lo.toNat) (by have := lo.toNat_lt; omega)
    generalize rangeS lo.toNat (lo.toNat + 1 - lo.toNat) = rs at hr hc
    simp only [go_sem, Int.reduceEq, Int.reduceLE, Int.reduceLT, Int.reduceToNat]
    refine (rJoin ws rs hw hr).pd ⟨.same (.agg (W_bl _)), .same (.agg (W_bl _)), trivial⟩ (.agg (W_bl _)) ?_
    have hjw := hw.joinAll2 hr
    have hjl := hjw.len
    have hpt := W_put (ty := 49) h4 hjl
    simp only [go_sem, Int.reduceEq, Int.reduceLE, Int.reduceLT, Int.reduceToNat, hjl, hpt]
    exact ⟨(joinAll [ws, rs], q), ⟨hjw, by dsimp only; omega, hc⟩, by dsimp only; omega, Mv.of [some 0, some 1] rfl ⟨.varS rfl (by simp), .varS rfl (W_bl _), trivial⟩ (by simp [f80_i17])⟩
  have ltq := isB_lt hd
  have hw2 := wrap_succ q (by omega)
  rw [if_pos hd] at hc
  simp only [go_sem, Int.reduceEq, Int.reduceLE, Int.reduceLT, Int.reduceToNat, hw2]
  refine (rSgn s (q + 1) hs).pd ⟨.v, .v, trivial⟩ (by cases pSign s (q + 1) <;> simp [sgD]) ?_
  cases hsg' : pSign s (q + 1)
  case bad e =>
    simp only [go_sem, Int.reduceEq, Int.reduceLE, Int.reduceLT, Int.reduceToNat]
    refine (rBadP e).pd ⟨.v, trivial⟩ (.agg (pC_bl _ _ _)) ?_
    rw [hsg'] at hc
    rw [← hc]
    simp only [go_sem, Int.reduceEq, Int.reduceLE, Int.reduceLT, Int.reduceToNat, pC_len, pC_put, pC_take8, pC_drop0]
    exact FinC rfl
  rename_i hi q'
  have hq' := pSign_lt hsg'
  rw [hsg'] at hc
  have lt' : p < q' ∧ q' ≤ s.size := by omega
  simp only [lt', and_self, dif_pos] at hc
  have nhi : ¬ (hi.toNat : Int) < 0 := by omega
  simp only [go_sem, Int.reduceEq, Int.reduceLE, Int.reduceLT, Int.reduceToNat]
  simp only [go_sem, Int.reduceEq, Int.reduceLE, Int.reduceLT, Int.reduceToNat, nhi]
  by_cases hlo : hi.toNat < lo.toNat
  · rw [if_pos hlo] at hc
    simp only [go_sem, Int.reduceEq, Int.reduceLE, Int.reduceLT, Int.reduceToNat, hlo, hw2]
    refine (rBadP (q + 1)).pd ⟨.v, trivial⟩ (.agg (pC_bl _ _ _)) ?_
    rw [← hc]
    simp only [go_sem, Int.reduceEq, Int.reduceLE, Int.reduceLT, Int.reduceToNat, pC_len, pC_put, pC_take8, pC_drop0]
    exact FinC rfl
  rw [if_neg hlo] at hc
  simp only [go_sem, Int.reduceEq, Int.reduceLE, Int.reduceLT, Int.reduceToNat, hlo, h4, W_take h4, W_drop0]
  refine (rRange lo.toNat hi.toNat (by have := lo.toNat_lt; omega) (by have := hi.toNat_lt; omega)).qd ⟨.v, .v, trivial⟩ (.agg (W_bl _)) ?_
  have hr := rangeS_w lo.toNat (hi.toNat + 1 - lo.toNat) (by have := hi.toNat_lt; omega)
  generalize rangeS lo.toNat (hi.toNat + 1 - lo.toNat) = rs at hr hc
  simp only [go_sem, Int.reduceEq, Int.reduceLE, Int.reduceLT, Int.reduceToNat]
  refine (rJoin ws rs hw hr).pd ⟨.same (.agg (W_bl _)), .same (.agg (W_bl _)), trivial⟩ (.agg (W_bl _)) ?_
  have hjw := hw.joinAll2 hr
  have hjl := hjw.len
  have hpt := W_put (ty := 49) h4 hjl
  simp only [go_sem, Int.reduceEq, Int.reduceLE, Int.reduceLT, Int.reduceToNat, hjl, hpt]
  exact ⟨(joinAll [ws, rs], q'), ⟨hjw, by dsimp only; omega, hc⟩, by dsimp only; omega, Mv.of [some 0, some 1] rfl ⟨.varS rfl (by simp), .varS rfl (W_bl _), trivial⟩ (by simp [f80_i17])⟩
end Go.Proofs.YtdliolbjngcgcaaGreatDoor.W
set_option maxRecDepth 100000
/- Which expressions may be: the program's way. -/
namespace Go.Proofs.YtdliolbjngcgcaaGreatDoor.W
open Go Go.Proofs Go.Proofs.YtdliolbjngcgcaaGreatDoor.AWP
attribute [local irreducible] xl hide aop aops aopQ qops guardP condP
theorem size1 (l : List Re) (hz : Re.szs l ≤ 1099511627776) (ih : ∀ x ∈ l, AP Tryz.prog 30 [Res x.kids] (.i (Re.szs x.kids : Nat))) : AP Tryz.prog 30 [Res l] (.i (Re.szs l : Nat)) := by
  have hl := Re.len_szs l
  refine AC.lbody hT hm Tryz.func30 f30_nm f30_lc f30_res f30_nt ?_
  simp only [go_sem, Int.reduceEq, Int.reduceLE, Int.reduceLT, Int.reduceToNat]
  refine xl_loopM hT hm (fun i : Nat => ⟨f30_i7 (.i (l.length + Re.szs (l.take i) - i : Nat)) (Res l) (.i l.length) (.i i), []⟩)
    (fun i => i ≤ l.length) (fun i => l.length - i) 0 (Nat.zero_le _) (Mv.none (by simp [f30_i7, Re.szs])) ?_
  intro i hi
  simp only [go_sem, Int.reduceEq, Int.reduceLE, Int.reduceLT, Int.reduceToNat]
  by_cases h : i < l.length
  case neg =>
    have ht : l.take i = l := List.take_of_length_le (by omega)
    simp only [go_sem, Int.reduceEq, Int.reduceLE, Int.reduceLT, Int.reduceToNat, h]
    refine Fin.v ?_
    rw [ht]
    congr 2
    omega
  obtain ⟨x, hx⟩ := get_ex h
  have h1 := Re.szs_take hx
  have h2 := Re.szs_take_le l (i + 1)
  have h3 := Re.len_szs (l.take i)
  have h4 : (l.take i).length = i := by simp; omega
  simp only [go_sem, Int.reduceEq, Int.reduceLE, Int.reduceLT, Int.reduceToNat, h, hx, Re.c_5]
  refine (ih x (List.mem_of_getElem? hx)).pv ⟨.same (by simp), trivial⟩ ?_
  have e : IntKind.i64.wrap (((l.length + Re.szs (l.take i) - i : Nat) : Int) + (Re.szs x.kids : Nat)) = ((l.length + Re.szs (l.take (i + 1)) - (i + 1) : Nat) : Int) := by
    rw [wrap_int _ (by omega) (by omega)]; omega
  simp only [go_sem, Int.reduceEq, Int.reduceLE, Int.reduceLT, Int.reduceToNat, e]
  rw [wrap_succ i (by omega)]
  exact ⟨i + 1, h, by omega, Mv.none (by simp)⟩
theorem sizeK (r : Re) : Re.szs r.kids ≤ 1099511627776 → AP Tryz.prog 30 [Res r.kids] (.i (Re.szs r.kids : Nat)) := by
  refine Re.ind (p := fun r => Re.szs r.kids ≤ 1099511627776 → AP Tryz.prog 30 [Res r.kids] (.i (Re.szs r.kids : Nat))) ?_ r
  intro k a b c d ks ih hz
  refine size1 ks hz fun x hx => ih x hx ?_
  have := Re.sz_mem hx
  have h2 := x.sz_kids
  have hz : Re.szs ks ≤ 1099511627776 := hz
  omega
theorem size (l : List Re) (hz : Re.szs l ≤ 1099511627776) : AP Tryz.prog 30 [Res l] (.i (Re.szs l : Nat)) := sizeK (.mk 0 0 0 0 0 l) hz
/-! ### Is one of some so? -/
def idxI {α : Type} (p : α → Bool) (l : List α) : Int :=
  match l.findIdx? p with
  | some i => i
  | none => -1
theorem idxI_nn {α : Type} (p : α → Bool) (l : List α) : decide (0 ≤ idxI p l) = l.any p := by
  unfold idxI
  cases h : l.findIdx? p with
  | none =>
    rw [List.findIdx?_eq_none_iff] at h
    have : l.any p = false := by rw [List.any_eq_false]; intro x hx; simp [h x hx]
    rw [this]; rfl
  | some i =>
    have := List.findIdx?_eq_some_iff_findIdx_eq.1 h
    have hp : l.any p = true := by
      rw [List.any_eq_true]
      exact ⟨l[i]'this.1, List.getElem_mem _, by have := (List.findIdx?_eq_some_iff_getElem.1 h).2.1; exact this⟩
    rw [hp]; simp
theorem idxRe (G : FuncId) (p : Re → Bool) (l : List Re) (hl : l.length ≤ 9223372036854775807) (H : ∀ x ∈ l, AP Tryz.prog G [.agg x.c] (.b (p x))) : AP Tryz.prog 64 [Res l, .fn G []] (.i (idxI p l)) := by
  refine AC.lbody hT hm Tryz.func64 f64_nm f64_lc f64_res f64_nt ?_
  simp only [go_sem, Int.reduceEq, Int.reduceLE, Int.reduceLT, Int.reduceToNat]
  refine xl_loopM hT hm (fun i : Nat => ⟨f64_i7 (Res l) (.fn G []) (.i l.length) (.i i), []⟩)
    (fun i => i ≤ l.length ∧ ∀ j x, j < i → l[j]? = some x → p x = false) (fun i => l.length - i) 0 ⟨Nat.zero_le _, fun j x h => absurd h (Nat.not_lt_zero _)⟩ (Mv.none (by simp [f64_i7])) ?_
  rintro i ⟨hi, hn⟩
  simp only [go_sem, Int.reduceEq, Int.reduceLE, Int.reduceLT, Int.reduceToNat]
  by_cases h : i < l.length
  case neg =>
    simp only [go_sem, Int.reduceEq, Int.reduceLE, Int.reduceLT, Int.reduceToNat, h]
    refine Fin.v ?_
    have : l.findIdx? p = none := by
      rw [List.findIdx?_eq_none_iff]
      intro x hx
      obtain ⟨j, hj⟩ := List.getElem?_of_mem hx
      exact hn j x (by have := (List.getElem?_eq_some_iff.1 hj).1; omega) hj
    unfold idxI
    rw [this]
  obtain ⟨x, hx⟩ := get_ex h
  simp only [go_sem, Int.reduceEq, Int.reduceLE, Int.reduceLT, Int.reduceToNat, h, hx]
  refine (H x (List.mem_of_getElem? hx)).pv ⟨.same (by simp), trivial⟩ ?_
  cases hp : p x
  case true =>
    simp only [go_sem, Int.reduceEq, Int.reduceLE, Int.reduceLT, Int.reduceToNat]
    refine Fin.v ?_
    have : l.findIdx? p = some i := by
      rw [List.findIdx?_eq_some_iff_getElem]
      obtain ⟨hlt, hxe⟩ := List.getElem?_eq_some_iff.1 hx
      refine ⟨hlt, by rw [hxe]; exact hp, fun j hji => ?_⟩
      have := hn j l[j] hji (List.getElem?_eq_getElem (by omega))
      simp [this]
    unfold idxI
    rw [this]
  simp only [go_sem, Int.reduceEq, Int.reduceLE, Int.reduceLT, Int.reduceToNat]
  rw [wrap_succ i (by omega)]
  refine ⟨i + 1, ⟨h, fun j y hj hy => ?_⟩, by omega, Mv.none (by simp)⟩
  by_cases e : j = i
  · subst e; rw [hx] at hy; cases hy; exact hp
  · exact hn j y (by omega) hy
theorem anyRe (G : FuncId) (p : Re → Bool) (l : List Re) (hl : l.length ≤ 9223372036854775807) (H : ∀ x ∈ l, AP Tryz.prog G [.agg x.c] (.b (p x))) : AP Tryz.prog 47 [Res l, .fn G []] (.b (l.any p)) := by
  refine AC.lbody hT hm Tryz.func47 f47_nm f47_lc f47_res f47_nt ?_
  simp only [go_sem, Int.reduceEq, Int.reduceLE, Int.reduceLT, Int.reduceToNat]
  refine (idxRe G p l hl H).pv ⟨.same (by simp), .same (by simp), trivial⟩ ?_
  simp only [go_sem, Int.reduceEq, Int.reduceLE, Int.reduceLT, Int.reduceToNat]
  exact Fin.v (by rw [idxI_nn])
theorem bareE (a b c d : Int) : (a == 0 && (b == 0 && (c == 0 && (d == 0 && true)))) = decide (a = 0 ∧ b = 0 ∧ c = 0 ∧ d = 0) := by
  simp only [Bool.and_true, Bool.decide_and]
  rfl
theorem lenE (n k : Nat) : ((n : Int) == (k : Int)) = decide (n = k) := by
  by_cases h : n = k
  · subst h; simp
  · rw [AWP.beq_false (by omega), decide_eq_false h]
set_option maxHeartbeats 1000000 in
theorem node (r : Re) : AP Tryz.prog 65 [.agg r.c] (.b r.nodeOk) := by
  obtain ⟨k, a, b, c, d, ks⟩ := r
  have l0 := lenE ks.length 0
  have l1 := lenE ks.length 1
  have l2 := lenE ks.length 2
  simp only [Int.ofNat_zero, Int.cast_ofNat_Int, Int.ofNat_one] at l0 l1 l2
  have nok : (Re.mk k a b c d ks).nodeOk = if k = 1 ∨ k = 2 then decide (ks.length = 0) && decide (a = 0 ∧ b = 0 ∧ c = 0 ∧ d = 0)
    else if k = 3 then decide (ks.length = 0) && !decide (a = 0 ∧ b = 0 ∧ c = 0 ∧ d = 0)
    else if k = 4 ∨ k = 5 then decide (ks.length = 2) && decide (a = 0 ∧ b = 0 ∧ c = 0 ∧ d = 0)
    else if k = 6 then decide (ks.length = 1) && decide (a = 0 ∧ b = 0 ∧ c = 0 ∧ d = 0)
    else false := rfl
  refine AC.lbody hT hm Tryz.func65 f65_nm f65_lc f65_res f65_nt ?_
  simp only [go_sem, Int.reduceEq, Int.reduceLE, Int.reduceLT, Int.reduceToNat, intsEq, bareE]
  rw [nok]
  generalize decide (a = 0 ∧ b = 0 ∧ c = 0 ∧ d = 0) = bare
  by_cases h1 : k = 1
  · have e1 : (k == 1) = true := by simp [h1]
    rw [if_pos (.inl h1)]
    simp only [go_sem, Int.reduceEq, Int.reduceLE, Int.reduceLT, Int.reduceToNat, e1, l0]
    cases decide (ks.length = 0) <;> (simp only [go_sem, Int.reduceEq, Int.reduceLE, Int.reduceLT, Int.reduceToNat]; exact Fin.v rfl)
  have e1 : (k == 1) = false := AWP.beq_false h1
  by_cases h2 : k = 2
  · have e2 : (k == 2) = true := by simp [h2]
    rw [if_pos (.inr h2)]
    simp only [go_sem, Int.reduceEq, Int.reduceLE, Int.reduceLT, Int.reduceToNat, e1, e2, l0]
    cases decide (ks.length = 0) <;> (simp only [go_sem, Int.reduceEq, Int.reduceLE, Int.reduceLT, Int.reduceToNat]; exact Fin.v rfl)
  have e2 : (k == 2) = false := AWP.beq_false h2
  rw [if_neg (by omega)]
  by_cases h3 : k = 3
  · have e3 : (k == 3) = true := by simp [h3]
    rw [if_pos h3]
    simp only [go_sem, Int.reduceEq, Int.reduceLE, Int.reduceLT, Int.reduceToNat, e1, e2, e3, l0]
    cases decide (ks.length = 0) <;> (simp only [go_sem, Int.reduceEq, Int.reduceLE, Int.reduceLT, Int.reduceToNat]; exact Fin.v rfl)
  have e3 : (k == 3) = false := AWP.beq_false h3
  rw [if_neg h3]
  by_cases h4 : k = 4
  · have e4 : (k == 4) = true := by simp [h4]
    rw [if_pos (.inl h4)]
    simp only [go_sem, Int.reduceEq, Int.reduceLE, Int.reduceLT, Int.reduceToNat, e1, e2, e3, e4, l2]
    cases decide (ks.length = 2) <;> (simp only [go_sem, Int.reduceEq, Int.reduceLE, Int.reduceLT, Int.reduceToNat]; exact Fin.v rfl)
  have e4 : (k == 4) = false := AWP.beq_false h4
  by_cases h5 : k = 5
  · have e5 : (k == 5) = true := by simp [h5]
    rw [if_pos (.inr h5)]
    simp only [go_sem, Int.reduceEq, Int.reduceLE, Int.reduceLT, Int.reduceToNat, e1, e2, e3, e4, e5, l2]
    cases decide (ks.length = 2) <;> (simp only [go_sem, Int.reduceEq, Int.reduceLE, Int.reduceLT, Int.reduceToNat]; exact Fin.v rfl)
  have e5 : (k == 5) = false := AWP.beq_false h5
  rw [if_neg (by omega)]
  by_cases h6 : k = 6
  · have e6 : (k == 6) = true := by simp [h6]
    rw [if_pos h6]
    simp only [go_sem, Int.reduceEq, Int.reduceLE, Int.reduceLT, Int.reduceToNat, e1, e2, e3, e4, e5, e6, l1]
    cases decide (ks.length = 1) <;> (simp only [go_sem, Int.reduceEq, Int.reduceLE, Int.reduceLT, Int.reduceToNat]; exact Fin.v rfl)
  have e6 : (k == 6) = false := AWP.beq_false h6
  rw [if_neg h6]
  simp only [go_sem, Int.reduceEq, Int.reduceLE, Int.reduceLT, Int.reduceToNat, e1, e2, e3, e4, e5, e6]
  exact Fin.v rfl
theorem nodes (r : Re) : AP Tryz.prog 49 [.agg r.c] (.b r.nodesOk) := by
  refine Re.ind (p := fun r => AP Tryz.prog 49 [.agg r.c] (.b r.nodesOk)) ?_ r
  intro k a b c d ks ih
  refine AC.wf rfl fun hw => ?_
  have hlen : ks.length ≤ 9223372036854775807 := by
    have := Re.ok_agg (hw _ (List.mem_cons_self ..))
    rw [Re.Ok] at this
    exact this.2
  have sub : ∀ x ∈ ks, AP Tryz.prog 66 [.agg x.c] (.b (!x.nodesOk)) := by
    intro x hx
    have h := ih x hx
    refine AC.lbody hT hm Tryz.func66 f66_nm f66_lc f66_res f66_nt ?_
    simp only [go_sem, Int.reduceEq, Int.reduceLE, Int.reduceLT, Int.reduceToNat]
    refine h.pv ⟨.same (by simp), trivial⟩ ?_
    simp only [go_sem, Int.reduceEq, Int.reduceLE, Int.reduceLT, Int.reduceToNat]
    exact Fin.v rfl
  rw [Re.nodesOk, Re.nodesOks_any]
  refine AC.lbody hT hm Tryz.func49 f49_nm f49_lc f49_res f49_nt ?_
  simp only [go_sem, Int.reduceEq, Int.reduceLE, Int.reduceLT, Int.reduceToNat]
  refine (node (.mk k a b c d ks)).pv (by simp [Re.c_mk, Re.cs_eq]) ?_
  simp only [go_sem, Int.reduceEq, Int.reduceLE, Int.reduceLT, Int.reduceToNat]
  cases (Re.mk k a b c d ks).nodeOk
  · simp only [go_sem, Int.reduceEq, Int.reduceLE, Int.reduceLT, Int.reduceToNat]
    exact Fin.v rfl
  simp only [go_sem, Int.reduceEq, Int.reduceLE, Int.reduceLT, Int.reduceToNat]
  refine (anyRe 66 (fun x => !x.nodesOk) ks hlen sub).pv ⟨.eq (by show _ = D.sl 6 (Re.cs ks); rw [Re.cs_eq]) (by simp), .same (by simp), trivial⟩ ?_
  simp only [go_sem, Int.reduceEq, Int.reduceLE, Int.reduceLT, Int.reduceToNat]
  exact Fin.v rfl
theorem may1 (r : Re) (hz : r.sz ≤ 1099511627776) : AP Tryz.prog 48 [.agg r.c] (.b (!mayB r)) := by
  refine AC.lbody hT hm Tryz.func48 f48_nm f48_lc f48_res f48_nt ?_
  simp only [go_sem, Int.reduceEq, Int.reduceLE, Int.reduceLT, Int.reduceToNat]
  refine (nodes r).pv ⟨.same (by simp), trivial⟩ ?_
  unfold mayB
  simp only [go_sem, Int.reduceEq, Int.reduceLE, Int.reduceLT, Int.reduceToNat]
  cases r.nodesOk
  · simp only [go_sem, Int.reduceEq, Int.reduceLE, Int.reduceLT, Int.reduceToNat]
    exact Fin.v rfl
  simp only [go_sem, Int.reduceEq, Int.reduceLE, Int.reduceLT, Int.reduceToNat]
  have e1 : Re.szs [r] = r.sz := by simp [Re.szs]
  refine (size [r] (by rw [e1]; exact hz)).pv ⟨.eq (by show _ = D.sl 6 (Re.cs [r]); rw [Re.cs_eq]; rfl) (by simp), trivial⟩ ?_
  simp only [go_sem, Int.reduceEq, Int.reduceLE, Int.reduceLT, Int.reduceToNat]
  refine Fin.v ?_
  rw [e1]
  by_cases h : r.sz ≤ 2000
  · simp [h]; omega
  · simp [h]; omega
theorem may (r : Re) (hz : r.sz ≤ 1099511627776) : AP Tryz.prog 34 [Res [r]] (.b (mayB r)) := by
  refine AC.lbody hT hm Tryz.func34 f34_nm f34_lc f34_res f34_nt ?_
  simp only [go_sem, Int.reduceEq, Int.reduceLE, Int.reduceLT, Int.reduceToNat]
  refine (anyRe 48 (fun x => !mayB x) [r] (by simp) (by intro x hx; rw [List.mem_singleton.1 hx]; exact may1 r hz)).pv (by simp [Re.cs_eq]) ?_
  simp only [go_sem, Int.reduceEq, Int.reduceLE, Int.reduceLT, Int.reduceToNat]
  exact Fin.v (by simp)
/-! ### Read -/
theorem wholeS (s : ByteArray) (hs : s.size ≤ 65536) (fr : List Ob) (hf : fr.length = 1) : AC Tryz.prog 43 [.ref 1 0] (fr ++ [rdOb s 0]) (fun o om => ∃ om', (o = .ret (wdD (pWhole s)) ∧ ∃ k, om' = [rdOb s k]) ∧ om = fr ++ om') := by
  refine (wholeC s hs).shift rfl ?_ ?_ ?_
  · intro j d d' h1 h2
    match j with
    | 0 =>
      cases h1; cases h2
      rw [hf]
      exact .inr ⟨0, 0, rfl, rfl⟩
    | j + 1 => cases h1
  · intro o ho
    rw [List.mem_singleton.1 ho]
    simp [ObAll]
  · rintro o om' ⟨rfl, k, rfl⟩
    refine ⟨rfl, .tup ?_, fun x hx => ?_⟩
    · simp
    · rw [List.mem_singleton.1 hx]
      simp [ObAll]
theorem readN (s : ByteArray) : AP Tryz.prog 29 [.s s] (wdD (pRead s)) := by
  unfold pRead
  by_cases hs : s.size ≤ 65536
  case neg =>
    have h1 : (65536 : Int) < s.size := by omega
    rw [if_pos (by omega)]
    refine AC.lbody hT hm Tryz.func29 f29_nm f29_lc f29_res f29_nt ?_
    simp only [go_sem, Int.reduceEq, Int.reduceLE, Int.reduceLT, Int.reduceToNat, h1]
    exact Fin.ret (.tupL ⟨.aggL (by simp [CvL, Re.c_mk, Re.cs_eq]), .v, .v, trivial⟩)
  rw [if_neg (by omega)]
  have h1 : ¬ (65536 : Int) < s.size := by omega
  have hsz := pWhole_sz s
  refine AC.lbody hT hm Tryz.func29 f29_nm f29_lc f29_res f29_nt ?_
  simp only [go_sem, Int.reduceEq, Int.reduceLE, Int.reduceLT, Int.reduceToNat, h1]
  refine ⟨_, wholeS s hs [_] rfl, ?_⟩
  rintro _ _ ⟨_, ⟨rfl, k, rfl⟩, rfl⟩
  simp only [go_sem, Int.reduceEq, Int.reduceLE, Int.reduceLT, Int.reduceToNat]
  generalize pWhole s = x at hsz ⊢
  obtain ⟨r, p, e⟩ := x
  dsimp only at hsz ⊢
  by_cases he : e = 0
  case neg =>
    have e1 : ((e : Int) == 0) = false := AWP.beq_false (by omega)
    rw [if_neg (fun h => he h.1)]
    simp only [go_sem, Int.reduceEq, Int.reduceLE, Int.reduceLT, Int.reduceToNat, e1]
    exact Fin.ret (.tupL ⟨.same (Re.d_bl _), .v, .v, trivial⟩)
  have e1 : ((e : Int) == 0) = true := by simp [he]
  simp only [go_sem, Int.reduceEq, Int.reduceLE, Int.reduceLT, Int.reduceToNat, e1]
  refine (may r (by omega)).pv ⟨.eq (by show _ = D.sl 6 (Re.cs [r]); rw [Re.cs_eq]; rfl) (by simp), trivial⟩ ?_
  cases hmy : mayB r
  · rw [if_pos ⟨he, rfl⟩]
    simp only [go_sem, Int.reduceEq, Int.reduceLE, Int.reduceLT, Int.reduceToNat]
    exact Fin.ret (.tupL ⟨.aggL (by simp [CvL, Re.c_mk, Re.cs_eq]), .v, .v, trivial⟩)
  · rw [if_neg (by simp)]
    simp only [go_sem, Int.reduceEq, Int.reduceLE, Int.reduceLT, Int.reduceToNat]
    exact Fin.ret (.tupL ⟨.same (Re.d_bl _), .v, .v, trivial⟩)
end Go.Proofs.YtdliolbjngcgcaaGreatDoor.W
set_option maxRecDepth 100000
/- The document's reader: which expressions may be, and what a text is read as. -/
namespace Go.Proofs.YtdliolbjngcgcaaGreatDoor.W
open Go Go.Proofs Go.Proofs.YtdliolbjngcgcaaGreatDoor.AWP
attribute [local irreducible] xl hide aop aops aopQ qops guardP condP
theorem rAllN (r : Re) : r.sz ≤ 1099511627776 → AP Tryz.prog 33 [.agg r.c] (Res r.pre) := by
  refine Re.ind (p := fun r => r.sz ≤ 1099511627776 → AP Tryz.prog 33 [.agg r.c] (Res r.pre)) ?_ r
  intro k a b c d ks ih hz
  rw [Re.sz] at hz
  have hlen := Re.len_szs ks
  have hh : (Re.mk k a b c d ks).pre = Re.mk k a b c d ks :: Re.pres ks := by rw [Re.pre]
  refine AC.lbody hT hm Tryz.func33 f33_nm f33_lc f33_res f33_nt ?_
  simp only [go_sem, Int.reduceEq, Int.reduceLE, Int.reduceLT, Int.reduceToNat]
  refine xl_loopM hT hm (fun i : Nat => ⟨f33_i7 (.pel (Re.mk k a b c d ks).c) (.own 0) (.i ks.length) (.i i), [lsOb (Re.mk k a b c d ks :: Re.pres (ks.take i))]⟩)
    (fun i => i ≤ ks.length) (fun i => ks.length - i) 0 (Nat.zero_le _) ?_ ?_
  · refine Mv.of [some 0] rfl ⟨?_, trivial⟩ (by simp [f33_i7, Re.c_mk, Re.cs_eq])
    exact .slcS (by simp [Re.c_mk, Re.cs_eq, Re.pres]) (Re.map_bl _)
  intro i hi
  simp only [go_sem, Int.reduceEq, Int.reduceLE, Int.reduceLT, Int.reduceToNat]
  by_cases h : i < ks.length
  case neg =>
    have ht : ks.take i = ks := List.take_of_length_le (by omega)
    simp only [go_sem, Int.reduceEq, Int.reduceLE, Int.reduceLT, Int.reduceToNat, h]
    rw [ht, hh]
    exact Fin.ret (cvLs rfl rfl)
  obtain ⟨x, hx⟩ := get_ex h
  have hxm := List.mem_of_getElem? hx
  have h1 := Re.pres_take hx
  have h2 := Re.szs_take hx
  have h3 := Re.szs_take_le ks (i + 1)
  have h4 := Re.sz_mem hxm
  have h5 := x.sz_kids
  have h6 := Re.pres_len (ks.take i)
  have h7 := x.pre_len
  simp only [go_sem, Int.reduceEq, Int.reduceLE, Int.reduceLT, Int.reduceToNat, h, hx, Re.c_5]
  refine (ih x hxm (by omega)).pd (by simp) (by simp) ?_
  simp only [go_sem, Int.reduceEq, Int.reduceLE, Int.reduceLT, Int.reduceToNat]
  refine ⟨by omega, i + 1, by omega, by omega, ?_⟩
  rw [wrap_succ i (by omega), h1]
  refine Mv.of [some 1] rfl ⟨.slcS (by simp [Re.c_mk, Re.cs_eq]) (Re.map_bl _), trivial⟩ (by simp [f33_i7, Re.c_mk, Re.cs_eq])
theorem rMay (r : Re) (hz : r.sz ≤ 1099511627776) : AP Tryz.prog 32 [.agg r.c] (.b (mayB r)) := by
  have hlen := r.pre_len
  have hmb : mayB r = (r.pre.all Re.nodeOk && decide (r.sz ≤ 2000)) := by unfold mayB; rw [r.nodesOk_pre]
  rw [hmb]
  refine AC.lbody hT hm Tryz.func32 f32_nm f32_lc f32_res f32_nt ?_
  simp only [go_sem, Int.reduceEq, Int.reduceLE, Int.reduceLT, Int.reduceToNat]
  refine (rAllN r hz).pd (by simp) (by simp) ?_
  simp only [go_sem, Int.reduceEq, Int.reduceLE, Int.reduceLT, Int.reduceToNat]
  refine xl_loopM hT hm (fun i : Nat => ⟨f32_i11 (Res r.pre) (.i r.pre.length) (.i i), []⟩)
    (fun i => i ≤ r.pre.length ∧ ∀ j x, j < i → r.pre[j]? = some x → x.nodeOk = true) (fun i => r.pre.length - i) 0 ⟨Nat.zero_le _, fun j x h => absurd h (Nat.not_lt_zero _)⟩ (Mv.none (by simp [f32_i11])) ?_
  rintro i ⟨hi, hn⟩
  simp only [go_sem, Int.reduceEq, Int.reduceLE, Int.reduceLT, Int.reduceToNat]
  by_cases h : i < r.pre.length
  case neg =>
    simp only [go_sem, Int.reduceEq, Int.reduceLE, Int.reduceLT, Int.reduceToNat, h]
    refine Fin.v ?_
    have : r.pre.all Re.nodeOk = true := by
      rw [List.all_eq_true]
      intro x hx
      obtain ⟨j, hj⟩ := List.getElem?_of_mem hx
      exact hn j x (by have := (List.getElem?_eq_some_iff.1 hj).1; omega) hj
    rw [this, hlen, Bool.true_and]
    congr 1
    exact decide_eq_decide.2 (by omega)
  obtain ⟨x, hx⟩ := get_ex h
  have bad : x.nodeOk = false → (r.pre.all Re.nodeOk && decide (r.sz ≤ 2000)) = false := by
    intro h0
    have : r.pre.all Re.nodeOk = false := by
      rw [List.all_eq_false]
      exact ⟨x, List.mem_of_getElem? hx, by rw [h0]; simp⟩
    rw [this]; rfl
  have good : x.nodeOk = true → (i < r.pre.length ∧ ∀ j y, j < i + 1 → r.pre[j]? = some y → y.nodeOk = true) := by
    intro h0
    refine ⟨h, fun j y hj hy => ?_⟩
    by_cases e : j = i
    · subst e; rw [hx] at hy; cases hy; exact h0
    · exact hn j y (by omega) hy
  obtain ⟨k, a, b, c, d, ks⟩ := x
  have nok : (Re.mk k a b c d ks).nodeOk = if k = 1 ∨ k = 2 then decide (ks.length = 0) && decide (a = 0 ∧ b = 0 ∧ c = 0 ∧ d = 0)
    else if k = 3 then decide (ks.length = 0) && !decide (a = 0 ∧ b = 0 ∧ c = 0 ∧ d = 0)
    else if k = 4 ∨ k = 5 then decide (ks.length = 2) && decide (a = 0 ∧ b = 0 ∧ c = 0 ∧ d = 0)
    else if k = 6 then decide (ks.length = 1) && decide (a = 0 ∧ b = 0 ∧ c = 0 ∧ d = 0)
    else false := rfl
  simp only [go_sem, Int.reduceEq, Int.reduceLE, Int.reduceLT, Int.reduceToNat, h, hx, Re.c_mk, intsEq, bareE]
  rw [nok] at bad good
  generalize decide (a = 0 ∧ b = 0 ∧ c = 0 ∧ d = 0) = bare at bad good ⊢
  by_cases k1 : k < 1
  · simp only [go_sem, Int.reduceEq, Int.reduceLE, Int.reduceLT, Int.reduceToNat, h, hx, Re.c_mk, k1]
    refine Fin.v ?_
    rw [bad (by rw [if_neg (by omega), if_neg (by omega), if_neg (by omega), if_neg (by omega)])]
  by_cases k6 : 6 < k
  · simp only [go_sem, Int.reduceEq, Int.reduceLE, Int.reduceLT, Int.reduceToNat, h, hx, Re.c_mk, k1, k6]
    refine Fin.v ?_
    rw [bad (by rw [if_neg (by omega), if_neg (by omega), if_neg (by omega), if_neg (by omega)])]
  have hk : k = 1 ∨ k = 2 ∨ k = 3 ∨ k = 4 ∨ k = 5 ∨ k = 6 := by omega
  have w0 : IntKind.u8.wrap 0 = 0 := rfl
  have w1 : IntKind.u8.wrap 1 = 1 := rfl
  have w2 : IntKind.u8.wrap 2 = 2 := rfl
  have w3 : IntKind.u8.wrap 3 = 3 := rfl
  have w4 : IntKind.u8.wrap 4 = 4 := rfl
  have w5 : IntKind.u8.wrap 5 = 5 := rfl
  have b0 : ((ks.length : Int) != 0) = !decide (ks.length = 0) := by rw [bne, ← lenE]; rfl
  have b1 : ((ks.length : Int) != 1) = !decide (ks.length = 1) := by rw [bne, ← lenE]; rfl
  have b2 : ((ks.length : Int) != 2) = !decide (ks.length = 2) := by rw [bne, ← lenE]; rfl
  clear nok
  rcases hk with rfl | rfl | rfl | rfl | rfl | rfl
  all_goals
    simp only [go_sem, Int.reduceEq, Int.reduceLE, Int.reduceLT, Int.reduceToNat, h, hx, Re.c_mk, k1, k6, Int.reduceBEq, Bool.true_beq, Bool.false_beq]
    cases bare
  all_goals simp only [go_sem, Int.reduceEq, Int.reduceLE, Int.reduceLT, Int.reduceToNat, h, hx, Re.c_mk, k1, k6, Bool.not_true, Bool.not_false, Int.reduceSub, w0, w1, w2, w3, w4, w5, b0, b1, b2]
  case neg.inl.false => exact Fin.v (by rw [bad (by simp)])
  case neg.inr.inl.false => exact Fin.v (by rw [bad (by simp)])
  case neg.inr.inr.inl.true => exact Fin.v (by rw [bad (by simp)])
  case neg.inr.inr.inr.inl.false => exact Fin.v (by rw [bad (by simp)])
  case neg.inr.inr.inr.inr.inl.false => exact Fin.v (by rw [bad (by simp)])
  case neg.inr.inr.inr.inr.inr.false => exact Fin.v (by rw [bad (by simp)])
  case neg.inl.true =>
    cases hl : decide (ks.length = 0)
    · simp only [go_sem, Int.reduceEq, Int.reduceLE, Int.reduceLT, Int.reduceToNat, Bool.not_false]
      exact Fin.v (by rw [bad (by rw [hl]; simp)])
    · simp only [go_sem, Int.reduceEq, Int.reduceLE, Int.reduceLT, Int.reduceToNat, Bool.not_true]
      rw [wrap_succ i (by omega)]
      exact ⟨i + 1, good (by rw [hl]; simp), by omega, Mv.none (by simp)⟩
  case neg.inr.inl.true =>
    cases hl : decide (ks.length = 0)
    · simp only [go_sem, Int.reduceEq, Int.reduceLE, Int.reduceLT, Int.reduceToNat, Bool.not_false]
      exact Fin.v (by rw [bad (by rw [hl]; simp)])
    · simp only [go_sem, Int.reduceEq, Int.reduceLE, Int.reduceLT, Int.reduceToNat, Bool.not_true]
      rw [wrap_succ i (by omega)]
      exact ⟨i + 1, good (by rw [hl]; simp), by omega, Mv.none (by simp)⟩
  case neg.inr.inr.inl.false =>
    cases hl : decide (ks.length = 0)
    · simp only [go_sem, Int.reduceEq, Int.reduceLE, Int.reduceLT, Int.reduceToNat, Bool.not_false]
      exact Fin.v (by rw [bad (by rw [hl]; simp)])
    · simp only [go_sem, Int.reduceEq, Int.reduceLE, Int.reduceLT, Int.reduceToNat, Bool.not_true]
      rw [wrap_succ i (by omega)]
      exact ⟨i + 1, good (by rw [hl]; simp), by omega, Mv.none (by simp)⟩
  case neg.inr.inr.inr.inl.true =>
    cases hl : decide (ks.length = 2)
    · simp only [go_sem, Int.reduceEq, Int.reduceLE, Int.reduceLT, Int.reduceToNat, Bool.not_false]
      exact Fin.v (by rw [bad (by rw [hl]; simp)])
    · simp only [go_sem, Int.reduceEq, Int.reduceLE, Int.reduceLT, Int.reduceToNat, Bool.not_true]
      rw [wrap_succ i (by omega)]
      exact ⟨i + 1, good (by rw [hl]; simp), by omega, Mv.none (by simp)⟩
  case neg.inr.inr.inr.inr.inl.true =>
    cases hl : decide (ks.length = 2)
    · simp only [go_sem, Int.reduceEq, Int.reduceLE, Int.reduceLT, Int.reduceToNat, Bool.not_false]
      exact Fin.v (by rw [bad (by rw [hl]; simp)])
    · simp only [go_sem, Int.reduceEq, Int.reduceLE, Int.reduceLT, Int.reduceToNat, Bool.not_true]
      rw [wrap_succ i (by omega)]
      exact ⟨i + 1, good (by rw [hl]; simp), by omega, Mv.none (by simp)⟩
  case neg.inr.inr.inr.inr.inr.true =>
    cases hl : decide (ks.length = 1)
    · simp only [go_sem, Int.reduceEq, Int.reduceLE, Int.reduceLT, Int.reduceToNat, Bool.not_false]
      exact Fin.v (by rw [bad (by rw [hl]; simp)])
    · simp only [go_sem, Int.reduceEq, Int.reduceLE, Int.reduceLT, Int.reduceToNat, Bool.not_true]
      rw [wrap_succ i (by omega)]
      exact ⟨i + 1, good (by rw [hl]; simp), by omega, Mv.none (by simp)⟩
end Go.Proofs.YtdliolbjngcgcaaGreatDoor.W
set_option maxRecDepth 100000
/- How many nodes, as far as some; which expressions are nullable, or void. -/
namespace Go.Proofs.YtdliolbjngcgcaaGreatDoor.W
open Go Go.Proofs Go.Proofs.YtdliolbjngcgcaaGreatDoor.AWP
attribute [local irreducible] xl hide aop aops aopQ qops guardP condP
end Go.Proofs.YtdliolbjngcgcaaGreatDoor.W
set_option maxRecDepth 100000
/- Whether expressions are nullable, or void: the program's and the document's. -/
namespace Go.Proofs.YtdliolbjngcgcaaGreatDoor.W
open Go Go.Proofs Go.Proofs.YtdliolbjngcgcaaGreatDoor.AWP
attribute [local irreducible] xl hide aop aops aopQ qops guardP condP
/-! ### First bytes -/
end Go.Proofs.YtdliolbjngcgcaaGreatDoor.W
set_option maxRecDepth 100000
/- What may be: two cases. -/
namespace Go.Proofs.YtdliolbjngcgcaaGreatDoor.W
open Go Go.Proofs Go.Proofs.YtdliolbjngcgcaaGreatDoor.AWP
theorem mayCase (r : Re) : mayB r = false ∨ mayB r = true := by cases mayB r <;> simp
theorem mayZ {r : Re} (h : mayB r = true) : r.nodesOk = true ∧ r.sz ≤ 2000 := by
  unfold mayB at h
  simpa using h
theorem wdD_bl (x : Re × Nat × Nat) : Bl 0 (wdD x) := by
  refine .tup ?_
  simp
end Go.Proofs.YtdliolbjngcgcaaGreatDoor.W
set_option maxRecDepth 100000
/- First bytes; the document's example; whether any expressions are nullable, or one is void, is the document's. -/
namespace Go.Proofs.YtdliolbjngcgcaaGreatDoor.W
open Go Go.Proofs Go.Proofs.YtdliolbjngcgcaaGreatDoor.AWP
attribute [local irreducible] xl hide aop aops aopQ qops guardP condP
end Go.Proofs.YtdliolbjngcgcaaGreatDoor.W
set_option maxRecDepth 100000
/- The place of a word's lowest bit, out of the table. -/
namespace Go.Proofs.YtdliolbjngcgcaaGreatDoor.W
open Go Go.Proofs Go.Proofs.YtdliolbjngcgcaaGreatDoor.AWP
attribute [local irreducible] xl hide aop aops aopQ qops guardP condP
theorem gt0 : gtD 1 = .pel gtbl := _root_.id rfl
theorem gt_get (k : Nat) (h : k < 64) : gtbl[2 ^ k * 285870213051353865 % 2 ^ 64 / 2 ^ 58]? = some (.v (.int .u8 (k : Int))) := by
  have key : ∀ n : _root_.Fin 64, gbytes[2 ^ n.val * 285870213051353865 % 2 ^ 64 / 2 ^ 58]? = some (n.val : Int) := by decide +kernel
  have := key ⟨k, h⟩
  unfold gtbl
  rw [List.getElem?_map, this]; rfl
theorem neg64 (w : Nat) (h : 0 < w) (h' : w < 2 ^ 64) : IntKind.wrap .u64 (0 - (w : Int)) = ((2 ^ 64 - w : Nat) : Int) := by
  rw [IntKind.wrap_u64]; omega
theorem and64 (m n : Nat) (hm : m < 2 ^ 64) (hn : n < 2 ^ 64) : bits .and .u64 (m : Int) (n : Int) = ((m &&& n : Nat) : Int) := by
  have h : m &&& n < 2 ^ 64 := Nat.and_lt_two_pow m hn
  show IntKind.wrap .u64 ((BitVec.ofInt 64 (m : Int) &&& BitVec.ofInt 64 (n : Int)).toNat : Int) = _
  have e1 : (BitVec.ofInt 64 (m : Int)).toNat = m := by simp [BitVec.toNat_ofInt]; omega
  have e2 : (BitVec.ofInt 64 (n : Int)).toNat = n := by simp [BitVec.toNat_ofInt]; omega
  rw [BitVec.toNat_and, e1, e2, u64_wrap _ h]
theorem mul64 (a : Nat) : IntKind.wrap .u64 ((a : Int) * 285870213051353865) = ((a * 285870213051353865 % 2 ^ 64 : Nat) : Int) := by
  rw [IntKind.wrap_u64]; omega
theorem tz_k {k q : Nat} (h : 2 ^ k * (2 * q + 1) < 2 ^ 64) : k < 64 := by
  rcases Nat.lt_or_ge k 64 with hk | hk
  · exact hk
  · have h1 : 2 ^ 64 ≤ 2 ^ k := Nat.pow_le_pow_right (by omega) hk
    have h2 : 2 ^ k ≤ 2 ^ k * (2 * q + 1) := Nat.le_mul_of_pos_right _ (by omega)
    omega
theorem tz_lt (x : Nat) : x % 2 ^ 64 / 2 ^ 58 < 64 := by
  have := Nat.mod_lt x (show 0 < 2 ^ 64 by decide)
  omega
theorem tzWalk (w v A M N k : Nat) (hne : ¬ (w : Int) = 0) (e1 : IntKind.wrap .u64 (0 - (w : Int)) = (v : Int)) (e2 : bits .and .u64 (w : Int) (v : Int) = (A : Int)) (e3 : IntKind.wrap .u64 ((A : Int) * 285870213051353865) = (M : Int))
    (e4 : (M : Int).fdiv (2 ^ 58) = (N : Int)) (hlt : N < 64) (hd : (gtbl.drop N)[0]? = some (.v (.int .u8 (k : Int)))) (hk : k < 64) : AP Tryz.prog 84 [.v (.int .u64 (w : Int))] (.i k) := by
  have hmin : min 58 64 = 58 := by decide
  have hif : (0 ≤ (N : Int) ∧ (N : Int) < ((64 : Nat) : Int)) := by omega
  have hw : IntKind.wrap .i64 (k : Int) = (k : Int) := wrap_nat _ (by omega)
  refine AC.lbody hT hm Tryz.func84 f84_nm f84_lc f84_res f84_nt ?_
  simp only [go_sem, Int.reduceEq, Int.reduceLE, Int.reduceLT, Int.reduceToNat, beq_false hne, e1, e2, e3, hmin, e4, if_pos hif, Int.toNat_natCast, gt0, hlt, hd, hw]
  exact Fin.v rfl
theorem tz64 (k q : Nat) (h : 2 ^ k * (2 * q + 1) < 2 ^ 64) : AP Tryz.prog 84 [.v (.int .u64 ((2 ^ k * (2 * q + 1) : Nat) : Int))] (.i k) := by
  have hk := tz_k h
  have hpos : 0 < 2 ^ k * (2 * q + 1) := Nat.mul_pos (Nat.two_pow_pos k) (by omega)
  have e2 := and64 _ _ h (Nat.sub_lt (Nat.two_pow_pos 64) hpos)
  rw [and_neg k q h] at e2
  exact tzWalk _ _ _ _ _ k (by omega) (neg64 _ hpos h) e2 (mul64 (2 ^ k)) (shrN _ 58) (tz_lt _) (by rw [List.getElem?_drop, Nat.add_zero, gt_get k hk]) hk
end Go.Proofs.YtdliolbjngcgcaaGreatDoor.W
set_option maxRecDepth 100000
/- A set's bytes, in order. -/
namespace Go.Proofs.YtdliolbjngcgcaaGreatDoor.W
open Go Go.Proofs Go.Proofs.YtdliolbjngcgcaaGreatDoor.AWP
attribute [local irreducible] xl hide aop aops aopQ qops guardP condP
def rowsN (l : List Nat) : List (List D) := l.map fun n : Nat => [.v (.int .u8 (n : Int))]
abbrev nbOb (l : List Nat) : Ob := .slc 5 1 (rowsN l)
abbrev ByN (l : List Nat) : D := .sl 1 (rowsN l)
theorem rowsN_bl (l : List Nat) : ∀ r ∈ rowsN l, ∀ d ∈ r, Bl 0 d := by
  intro r hr d hd
  obtain ⟨n, _, rfl⟩ := List.mem_map.1 hr
  rw [List.mem_singleton.1 hd]; exact .v _
theorem rowsN_len (l : List Nat) : (rowsN l).length = l.length := by simp [rowsN]
def bytesN (ms : List Nat) (i : Nat) : List Nat := (List.range i).flatMap fun j => (bitsL (ms.getD j 0)).map (64 * j + ·)
theorem bytesN_succ (ms : List Nat) (i : Nat) : bytesN ms (i + 1) = bytesN ms i ++ (bitsL (ms.getD i 0)).map (64 * i + ·) := by
  unfold bytesN; rw [List.range_succ, List.flatMap_append]; simp
theorem bitsL_len (w : Nat) : (bitsL w).length ≤ 64 := by
  have := List.length_filter_le (fun n => w.testBit n) (List.range 64)
  simpa [bitsL] using this
theorem bytesN_len (ms : List Nat) : ∀ i, (bytesN ms i).length ≤ 64 * i
  | 0 => by simp [bytesN]
  | i + 1 => by
    have h1 := bytesN_len ms i
    have h2 := bitsL_len (ms.getD i 0)
    rw [bytesN_succ, List.length_append, List.length_map]; omega
theorem frzB {l : List Nat} {k : Nat} {om : List Ob} (h : om[k]? = some (nbOb l)) : Cv om (fun _ => true) [] (.own k) (ByN l) := Cv.frzS h rfl (rowsN_bl l)
theorem sub64 (w : Nat) (h : 0 < w) (h' : w < 2 ^ 64) : IntKind.wrap .u64 ((w : Int) - 1) = ((w - 1 : Nat) : Int) := by
  rw [IntKind.wrap_u64]; omega
theorem u8_wrap (n : Nat) (h : n < 256) : IntKind.wrap .u8 (n : Int) = (n : Int) := by
  rw [IntKind.wrap_u8]; omega
abbrev msD (ms : List Nat) : D := .agg (ms.map fun m : Nat => .v (.int .u64 (m : Int)))
@[simp] theorem ms_bl (ms : List Nat) : Bl 0 (msD ms) := .agg fun d hd => by
  obtain ⟨n, _, rfl⟩ := List.mem_map.1 hd
  exact .v _
theorem ms_get {ms : List Nat} {i w : Nat} (h : ms[i]? = some w) : (ms.map fun m : Nat => D.v (.int .u64 (m : Int)))[i]? = some (.v (.int .u64 (w : Int))) := by
  rw [List.getElem?_map, h]; rfl
theorem mvN1 {l : List Nat} {k : Nat} {om : List Ob} {F : Nat → Bool} (h : om[k]? = some (nbOb l)) : MvL om F [some k] [some k] [nbOb l] := ⟨.slcS h (rowsN_bl l), trivial⟩
theorem setBytes (ms : List Nat) (h4 : ms.length = 4) (hlt : ∀ m ∈ ms, m < 2 ^ 64) : AP Tryz.prog 68 [.agg (ms.map fun m : Nat => .v (.int .u64 (m : Int)))] (ByN (bytesN ms 4)) := by
  refine AC.lbody hT hm Tryz.func68 f68_nm f68_lc f68_res f68_nt ?_
  have htk : List.take 4 (ms.map fun m : Nat => D.v (.int .u64 (m : Int))) = ms.map fun m : Nat => D.v (.int .u64 (m : Int)) := List.take_of_length_le (by simp [h4])
  have h44 : 4 ≤ ms.length := by omega
  simp only [go_sem, Int.reduceEq, Int.reduceLE, Int.reduceLT, Int.reduceToNat]
  rw [if_pos h44, htk]
  simp only [go_sem, Int.reduceEq, Int.reduceLE, Int.reduceLT, Int.reduceToNat]
  refine xl_loopM hT hm (fun i : Nat => ⟨f68_i10 (.own 0) (msD ms) (.i i), [nbOb (bytesN ms i)]⟩)
    (fun i => i ≤ 4) (fun i => 4 - i) 0 (Nat.zero_le _) (Mv.of [none] rfl ⟨.nil (by simp), trivial⟩ (by simp [f68_i10])) ?_
  intro i hi
  simp only [go_sem, Int.reduceEq, Int.reduceLE, Int.reduceLT, Int.reduceToNat]
  by_cases h : i < 4
  case neg =>
    obtain rfl : i = 4 := by omega
    have hf : decide (((4 : Nat) : Int) < 4) = false := rfl
    simp only [go_sem, Int.reduceEq, Int.reduceLE, Int.reduceLT, Int.reduceToNat, hf]
    exact Fin.ret (frzB rfl)
  have ht : decide ((i : Int) < 4) = true := by simp; omega
  obtain ⟨w0, hw0⟩ := get_ex (l := ms) (show i < ms.length by omega)
  have hg := ms_get hw0
  have hwl := hlt w0 (List.mem_of_getElem? hw0)
  have hsu := bytesN_succ ms i
  have hgd : ms.getD i 0 = w0 := by rw [List.getD_eq_getElem?_getD, hw0]; rfl
  rw [hgd] at hsu
  have hlen1 := bytesN_len ms i
  have hlen2 := bitsL_len w0
  simp only [go_sem, Int.reduceEq, Int.reduceLE, Int.reduceLT, Int.reduceToNat, ht, hg]
  rw [if_pos h]
  simp only [go_sem, Int.reduceEq, Int.reduceLE, Int.reduceLT, Int.reduceToNat]
  refine xl_loopM hT hm (fun p : Nat × List Nat => ⟨f68_i8 (.own 0) (.i i) (.v (.int .u64 (p.1 : Int))) (msD ms) (.i i), [nbOb p.2]⟩)
    (fun p => p.1 < 2 ^ 64 ∧ p.2 ++ (bitsL p.1).map (64 * i + ·) = bytesN ms (i + 1)) (fun p => p.1) (w0, bytesN ms i) ⟨hwl, hsu.symm⟩ (Mv.of [some 0] rfl (mvN1 rfl) (by simp [f68_i8])) ?_
  rintro ⟨w, L⟩ ⟨hw, hL⟩
  simp only at hw hL ⊢
  by_cases hz : w = 0
  · subst hz
    have hf : (((0 : Nat) : Int) != 0) = false := rfl
    rw [bitsL_zero, List.map_nil, List.append_nil] at hL
    simp only [go_sem, Int.reduceEq, Int.reduceLE, Int.reduceLT, Int.reduceToNat, hf]
    refine ⟨i + 1, h, by omega, ?_⟩
    rw [wrap_succ i (by omega), ← hL]
    exact Mv.of [some 0] rfl (mvN1 rfl) (by simp)
  have hne : ¬ (w : Int) = 0 := by omega
  obtain ⟨k, q, hkq⟩ := low_bit w hz
  have hk : k < 64 := tz_k (q := q) (by rw [← hkq]; exact hw)
  have hcl := clear_low k q
  have hst := bitsL_step k q hk
  have htz := tz64 k q (by rw [← hkq]; exact hw)
  rw [← hkq] at hcl hst htz
  have hlt2 : 2 ^ k * (2 * q) < w := by rw [hkq]; exact Nat.mul_lt_mul_of_pos_left (by omega) (Nat.two_pow_pos k)
  have g1 := sub64 w (by omega) hw
  have g2 := and64 w (w - 1) hw (by omega)
  rw [hcl] at g2
  have g3 : IntKind.wrap .i64 (64 * (i : Int)) = ((64 * i : Nat) : Int) := by rw [wrap_int _ (by omega) (by omega)]; omega
  have g4 : IntKind.wrap .i64 (((64 * i : Nat) : Int) + (k : Int)) = ((64 * i + k : Nat) : Int) := by rw [wrap_int _ (by omega) (by omega)]; omega
  have g5 := u8_wrap (64 * i + k) (by omega)
  rw [hst, List.map_cons] at hL
  have hLl : L.length ≤ 256 := by
    have := congrArg List.length hL
    have h5 := bytesN_len ms (i + 1)
    rw [List.length_append] at this; omega
  have hLr := rowsN_len L
  generalize 2 ^ k * (2 * q) = w' at *
  simp only [go_sem, Int.reduceEq, Int.reduceLE, Int.reduceLT, Int.reduceToNat, bne_true hne, g3]
  refine htz.pv ⟨.v, trivial⟩ ?_
  simp only [go_sem, Int.reduceEq, Int.reduceLE, Int.reduceLT, Int.reduceToNat, g3, g4, g5]
  refine ⟨by omega, (w', L ++ [64 * i + k]), ⟨by simp only; omega, by simp only; rw [List.append_assoc]; exact hL⟩, hlt2, ?_⟩
  simp only [g1, g2]
  exact Mv.of [some 1] rfl (mvN1 (by simp [rowsN])) (by simp [f68_i8])
end Go.Proofs.YtdliolbjngcgcaaGreatDoor.W
set_option maxRecDepth 100000
/- The document's bytes of a set. -/
namespace Go.Proofs.YtdliolbjngcgcaaGreatDoor.W
open Go Go.Proofs Go.Proofs.YtdliolbjngcgcaaGreatDoor.AWP
attribute [local irreducible] xl hide aop aops aopQ qops guardP condP
theorem hasL_bytes (ms : List Nat) (h4 : ms.length = 4) : ∀ i, i ≤ 4 → hasL (ms.map fun m : Nat => (m : Int)) (64 * i) = bytesN ms i := by
  intro i
  induction i with
  | zero => intro _; rfl
  | succ i ih =>
    intro hi
    have e : hasL (ms.map fun m : Nat => (m : Int)) (64 * (i + 1)) = hasL (ms.map fun m : Nat => (m : Int)) (64 * i) ++ ((List.range 64).map (64 * i + ·)).filter (fun b => hasB (ms.map fun m : Nat => (m : Int)) b) := by
      unfold hasL
      rw [Nat.mul_add, Nat.mul_one, List.range_add, List.filter_append]
    rw [e, ih (by omega), bytesN_succ, List.filter_map]
    congr 2
    unfold bitsL
    refine List.filter_congr fun n hn => ?_
    have hn' : n < 64 := List.mem_range.1 hn
    show hasB (ms.map fun m : Nat => (m : Int)) (64 * i + n) = _
    unfold hasB
    have h1 : (64 * i + n) / 64 = i := by omega
    have h2 : (64 * i + n) % 64 = n := by omega
    rw [h1, h2]
    congr 1
    have hil : i < ms.length := by omega
    simp [List.getD_eq_getElem?_getD, List.getElem?_eq_getElem hil]
end Go.Proofs.YtdliolbjngcgcaaGreatDoor.W
set_option maxRecDepth 100000
/- A strings.Builder: what it holds, at the world's own level. -/
namespace Go.Proofs.YtdliolbjngcgcaaGreatDoor.W
open Go Go.Proofs Go.Proofs.YtdliolbjngcgcaaGreatDoor.AWP
/-- A type that begins as a Builder does. -/
def BldT (T : Nat) : Prop := liesAt Tryz.prog Tryz.prog.depth T (2 / Tryz.prog.cellsOf T) 0 63 1 = true
theorem bldT : BldT 63 := by unfold BldT; kernel_rfl
theorem pageT : BldT 86 := by unfold BldT; kernel_rfl
theorem bldFresh {T : Nat} (lies : BldT T) (b : Nat) (w : World) (h0 : w.cell? ⟨b, 0, none⟩ = some (.pointer none)) (hsh : w.shape? b = some (T, 2)) (hfz : w.frozen? ⟨b, 0, none⟩ = false) :
    Calls Tryz.prog 35 #[.pointer (some ⟨b, 0, none⟩)] w fun e w' => e = .returned (.tuple #[]) ∧ w' = w.setCell ⟨b, 0, none⟩ (.pointer (some ⟨b, 0, none⟩)) := by
  have t1 : Tryz.prog.underlying 60 = some (.pointer 63) := by kernel_rfl
  have t2 : Tryz.prog.underlying 100 = some .unsafePointer := by kernel_rfl
  obtain ⟨j, hj, hjs⟩ : ∃ j, Tryz.prog.info? 63 = some j ∧ j.size = 2 := Option.map_eq_some_iff.1 (by kernel_rfl : (Tryz.prog.info? 63).map (·.size) = some 2)
  go_enter Tryz.func35, Tryz.ntmps35
  go_wp2
  rw [Lib.run_to_unsafe w ⟨b, 0, none⟩ t1 t2 hj (by rw [hjs]; decide) hsh (Nat.zero_lt_succ 1)]
  simp only [Result.andThen]
  rw [Oper.upon_value]
  go_wp2
  rw [run_callFunc_extern Tryz.func50 (by kernel_rfl) (by kernel_rfl) (by kernel_rfl) (e := Extern.AbiNoEscape.same) (by kernel_rfl)]
  rw [Lib.run_noEscape]
  simp only [Result.andThen]
  rw [Oper.upon_value]
  go_wp2
  rw [Lib.run_from_unsafe w ⟨b, 0, none⟩ t2 t1 hj hsh lies]
  simp only [Result.andThen]
  rw [Oper.upon_value]
  go_wp2
  go_end0
  exact ⟨rfl, rfl⟩
theorem bldUsed (b : Nat) (w : World) (h0 : w.cell? ⟨b, 0, none⟩ = some (.pointer (some ⟨b, 0, none⟩))) :
    Calls Tryz.prog 35 #[.pointer (some ⟨b, 0, none⟩)] w fun e w' => e = .returned (.tuple #[]) ∧ w' = w := by
  have t1 : Tryz.prog.underlying 60 = some (.pointer 63) := by kernel_rfl
  obtain ⟨j, hj, hjs⟩ : ∃ j, Tryz.prog.info? 63 = some j ∧ j.size = 2 := Option.map_eq_some_iff.1 (by kernel_rfl : (Tryz.prog.info? 63).map (·.size) = some 2)
  have e := fun w : World => Lib.run_neq_ptr_same w (P := Tryz.prog) (a := ⟨b, 0, none⟩) t1 hj
  go_enter Tryz.func35, Tryz.ntmps35
  go_wp2
  go_end0
  exact ⟨rfl, rfl⟩
theorem bldString {T : Nat} (b g cap : Nat) (p : Value) (l : List UInt8) (cs : Array Value) (w : World) (hb : w.heap[b]? = some (.cells #[p, .slice (some ⟨g, 0, none⟩) l.length cap] T (0, 0))) (h0 : l ≠ [])
    (hg : w.heap[g]? = some (.cells cs 5 (0, 0))) (hcs : l.length ≤ cs.size) (hcap : l.length ≤ cap) (hcm : cap ≤ maxLen) (hc : ∀ (j : Nat) (x : UInt8), l[j]? = some x → cs[j]? = some (.int .u8 x.toNat)) :
    Calls Tryz.prog 23 #[.pointer (some ⟨b, 0, none⟩)] w fun e w' => e = .returned (.string ⟨l.toArray⟩) ∧ w' = w.drew.freeze ⟨g, 0, none⟩ l.length := by
  have hl0 : l.length ≠ 0 := by simpa using h0
  have c1 : w.drew.cell? ⟨b, 1, none⟩ = some (.slice (some ⟨g, 0, none⟩) l.length cap) := by
    have : w.drew.heap[b]? = some (.cells #[p, .slice (some ⟨g, 0, none⟩) l.length cap] T (0, 0)) := hb
    rw [Lib.cell_of_heap this]; rfl
  have tp : Tryz.prog.underlying 88 = some (.pointer 5) := by kernel_rfl
  have tc : Tryz.prog.cellsOf 5 = 1 := by kernel_rfl
  have hSD : (Builtin.unsafeSliceData_ #[61] 88 #[.slice (some ⟨g, 0, none⟩) l.length cap]).run Tryz.prog w.drew = .ok (.pointer (some ⟨g, 0, none⟩)) w.drew :=
    Lib.run_unsafeSliceData_row _ _ _ _ _ _ (by omega)
  have hg' : w.drew.heap[g]? = some (.cells cs 5 (0, 0)) := hg
  have hUS : (Builtin.unsafeString_ #[88, 3] 9 #[.pointer (some ⟨g, 0, none⟩), .int .i64 l.length]).run Tryz.prog w.drew = .ok (.string ⟨l.toArray⟩) (w.drew.freeze ⟨g, 0, none⟩ l.length) := by
    refine Lib.run_unsafeString_row w.drew 88 3 9 5 tp tc g cs.size (by simp [World.shape?, hg']) l h0 hcs (by unfold maxLen at hcm; omega) ?_
    intro j x hx
    have e : (⟨g, 0, none⟩ : Addr).add j = ⟨g, j, none⟩ := by simp [Addr.add]; omega
    rw [e, Lib.cell_of_heap hg']
    exact hc j x hx
  have u1 := run_underlying (P := Tryz.prog) (t := 60) (d := .pointer 63) (by kernel_rfl)
  have mixed := hm
  go_enter Tryz.func23, Tryz.ntmps23
  go_wp2
  go_region_o
  all_goals (go_wp2; go_ret; exact ⟨rfl, rfl⟩)
end Go.Proofs.YtdliolbjngcgcaaGreatDoor.W
set_option maxRecDepth 100000
/- A strings.Builder: what its methods do. -/
namespace Go.Proofs.YtdliolbjngcgcaaGreatDoor.W
open Go Go.Proofs Go.Proofs.YtdliolbjngcgcaaGreatDoor.AWP
attribute [local irreducible] xl hide aop aops aopQ qops guardP condP
theorem finSelf {om0 om : List Ob} {o : Out} {R : Out → List Ob → Prop} (h : R o om) : Fin om0 om o R := fun E0 E e _ hx hR ho => ⟨E, o, om, h, rfl, hx, hR, ho⟩
/-- A builder's objects: fresh; with some bytes in it, behind rows that it has left. -/
def bst (T : Nat) : Option (Nat × List UInt8) → List Ob
  | none => [.var T [.v (.pointer none), .v (.slice none 0 0)]]
  | some p => .var T [.ref 0 0, .own (p.1 + 1)] :: (List.replicate p.1 .dead ++ [byOb p.2])
abbrev bTx : Option (Nat × List UInt8) → List UInt8
  | none => []
  | some p => p.2
/-- What it holds when something is written. -/
def bR (T : Nat) (d : D) (l : List UInt8) : Out → List Ob → Prop := fun o om' => o = .ret d ∧ ∃ n, om' = bst T (some (n, l))
theorem dead_row (n : Nat) (l : List UInt8) : ∃ R : List Ob, R = List.replicate n .dead ++ [byOb l] ∧ R[n]? = some (byOb l) ∧ R.length = n + 1 ∧ ∀ o, R.set n .dead ++ [o] = List.replicate (n + 1) .dead ++ [o] := by
  refine ⟨_, rfl, by simp, by simp, fun o => ?_⟩
  rw [List.set_append_right _ _ (by simp)]
  simp [List.replicate_succ']
theorem one_arg {E : Env} {d : D} {vs : Array Value} (h : RdA E [d] vs) : ∃ y, vs = #[y] ∧ Rd E d y := by
  refine ⟨vs.getD 0 undef, ?_, h.2 0 d rfl⟩
  have h1 : vs.size = 1 := h.1
  refine Array.ext (by simpa using h1) fun j a b => ?_
  have : j = 0 := by simp at b; omega
  subst this
  simp [Array.getD, h1]
theorem ref_block {E : Env} {om : List Ob} (hR : Rel E om) {k T off : Nat} {c : List D} (ho : om[k]? = some (.var T c)) {y : Value} (hy : Rd E (.ref k off) y) :
    ∃ b cs, y = .pointer (some ⟨b, off, none⟩) ∧ hb (E.g k) = some b ∧ E.w.heap[b]? = some (.cells cs T (0, 0)) ∧ cs.size = c.length ∧ CellsR E c cs := by
  obtain ⟨b, cs, h1, h2, h3, h4, h5⟩ := hR.ob k _ ho
  cases hy with
  | ref hk hg =>
    have hg' := hg
    rw [h1] at hg'
    simp only [hb, Option.some.injEq] at hg'
    subst hg'
    exact ⟨b, cs, rfl, hg, h2, h4, h5⟩
theorem ccFresh {T : Nat} (hT : BldT T) (x : D) (fr : List Ob) : AC Tryz.prog 35 [.ref 0 0] (.var T [.v (.pointer none), x] :: fr) (fun o om' => o = .ret (.tup []) ∧ om' = .var T [.ref 0 0, x] :: fr) := by
  refine ⟨rfl, fun E vs hR hA => ?_⟩
  obtain ⟨y, rfl, hy⟩ := one_arg hA
  obtain ⟨b, cs, rfl, hg, hbk, hcs, hc⟩ := ref_block hR (k := 0) rfl hy
  obtain ⟨y0, e0, _, r0⟩ := hc 0 _ rfl
  rw [r0.v_inv] at e0
  have hs := setCell_ok hR (k := 0) (p := 0) (o := .var T [.v (.pointer none), x]) (o' := .var T [.ref 0 0, x]) rfl rfl hg (by rfl) (by rfl) hy
  refine (bldFresh hT b E.w (by rw [Lib.cell_of_heap hbk]; exact e0) (by simp [World.shape?, hbk]; simpa using hcs) (Lib.frozen_of_heap hbk 0)).mono ?_
  rintro e w' ⟨rfl, rfl⟩
  exact ⟨_, _, _, ⟨rfl, rfl⟩, rfl, hs.2.2.1, hs.2.2.2.1, .tup #[] rfl (fun j d hj => by simp at hj)⟩
theorem ccUsed {T : Nat} (x : D) (fr : List Ob) : AC Tryz.prog 35 [.ref 0 0] (.var T [.ref 0 0, x] :: fr) (fun o om' => o = .ret (.tup []) ∧ om' = .var T [.ref 0 0, x] :: fr) := by
  refine ⟨rfl, fun E vs hR hA => ?_⟩
  obtain ⟨y, rfl, hy⟩ := one_arg hA
  obtain ⟨b, cs, rfl, hg, hbk, hcs, hc⟩ := ref_block hR (k := 0) rfl hy
  obtain ⟨y0, e0, _, r0⟩ := hc 0 _ rfl
  obtain ⟨b', _, rfl, hg', _⟩ := ref_block hR (k := 0) rfl r0
  have : b' = b := by rw [hg] at hg'; injection hg' with h; exact h.symm
  subst this
  refine (bldUsed b' E.w (by rw [Lib.cell_of_heap hbk]; exact e0)).mono ?_
  rintro e w' ⟨rfl, rfl⟩
  exact ⟨E, _, _, ⟨rfl, rfl⟩, rfl, Ext.refl _ _, hR, .tup #[] rfl (fun j d hj => by simp at hj)⟩
theorem wrByte {T : Nat} (hT' : BldT T) (st : Option (Nat × List UInt8)) (c : UInt8) (hl : (bTx st).length ≤ 1000000000) : AC Tryz.prog 52 [.ref 0 0, .y c] (bst T st) (bR T (.v .nilIface) (bTx st ++ [c])) := by
  cases st with
  | none =>
    refine AC.lbody hT hm Tryz.func52 f52_nm f52_lc f52_res f52_nt ?_
    simp only [go_sem, Int.reduceEq, Int.reduceLE, Int.reduceLT, Int.reduceToNat, bst]
    refine ⟨_, ccFresh hT' _ [], ?_⟩
    rintro _ _ ⟨rfl, rfl⟩
    simp only [go_sem, Int.reduceEq, Int.reduceLE, Int.reduceLT, Int.reduceToNat]
    exact finSelf ⟨rfl, 0, rfl⟩
  | some p =>
    obtain ⟨n, l⟩ := p
    have hl' : l.length ≤ 1000000000 := hl
    obtain ⟨R, hRe, hR1, hR2, hR3⟩ := dead_row n l
    refine AC.lbody hT hm Tryz.func52 f52_nm f52_lc f52_res f52_nt ?_
    simp only [go_sem, Int.reduceEq, Int.reduceLE, Int.reduceLT, Int.reduceToNat, bst]
    rw [← hRe]
    refine ⟨_, ccUsed _ R, ?_⟩
    rintro _ _ ⟨rfl, rfl⟩
    simp only [go_sem, Int.reduceEq, Int.reduceLE, Int.reduceLT, Int.reduceToNat, hR1, hR2]
    refine ⟨by omega, ?_⟩
    refine finSelf ⟨rfl, n + 1, ?_⟩
    rw [hR3]
    simp [bst, byteRows]
theorem strRows_of (m : List UInt8) : strRows ⟨m.toArray⟩ = byteRows m := by simp [strRows, byteRows]
theorem wrStr {T : Nat} (hT' : BldT T) (st : Option (Nat × List UInt8)) (m : List UInt8) (hl : (bTx st).length ≤ 1000000000) (hml : m.length ≤ 1000000000) :
    AC Tryz.prog 20 [.ref 0 0, .s ⟨m.toArray⟩] (bst T st) (bR T (.tup [.i m.length, .v .nilIface]) (bTx st ++ m)) := by
  have hsz : (⟨m.toArray⟩ : ByteArray).size = m.length := ba_size m
  have hrw := strRows_of m
  generalize hs : (⟨m.toArray⟩ : ByteArray) = s at hsz hrw
  cases st with
  | none =>
    refine AC.lbody hT hm Tryz.func20 f20_nm f20_lc f20_res f20_nt ?_
    simp only [go_sem, Int.reduceEq, Int.reduceLE, Int.reduceLT, Int.reduceToNat, bst]
    refine ⟨_, ccFresh hT' _ [], ?_⟩
    rintro _ _ ⟨rfl, rfl⟩
    simp only [go_sem, Int.reduceEq, Int.reduceLE, Int.reduceLT, Int.reduceToNat, hsz, hrw]
    refine ⟨by omega, ?_⟩
    exact finSelf ⟨rfl, 0, rfl⟩
  | some p =>
    obtain ⟨n, l⟩ := p
    have hl' : l.length ≤ 1000000000 := hl
    obtain ⟨R, hRe, hR1, hR2, hR3⟩ := dead_row n l
    refine AC.lbody hT hm Tryz.func20 f20_nm f20_lc f20_res f20_nt ?_
    simp only [go_sem, Int.reduceEq, Int.reduceLE, Int.reduceLT, Int.reduceToNat, bst]
    rw [← hRe]
    refine ⟨_, ccUsed _ R, ?_⟩
    rintro _ _ ⟨rfl, rfl⟩
    simp only [go_sem, Int.reduceEq, Int.reduceLE, Int.reduceLT, Int.reduceToNat, hR1, hR2, hsz, hrw]
    refine ⟨by omega, ?_⟩
    refine finSelf ⟨rfl, n + 1, ?_⟩
    rw [hR3]
    simp [bst, byteRows]
theorem byteRows_flat (l : List UInt8) : (byteRows l).flatten = l.map fun b => D.v (.int .u8 b.toNat) := by
  unfold byteRows
  induction l with
  | nil => rfl
  | cons b l ih => simp [ih]
theorem strOf {T : Nat} (n : Nat) (l : List UInt8) (h0 : l ≠ []) : AC Tryz.prog 23 [.ref 0 0] (bst T (some (n, l))) (fun o om' => o = .ret (.s ⟨l.toArray⟩) ∧ om' = (bst T (some (n, l))).set (n + 1) .dead) := by
  refine ⟨rfl, fun E vs hR hA => ?_⟩
  obtain ⟨y, rfl, hy⟩ := one_arg hA
  have hk1 : (bst T (some (n, l)))[n + 1]? = some (byOb l) := by simp [bst]
  obtain ⟨b, cs, rfl, hg, hbk, hcs, hc⟩ := ref_block hR (k := 0) (T := T) (c := [.ref 0 0, .own (n + 1)]) rfl hy
  obtain ⟨y1, e1, _, r1⟩ := hc 1 _ rfl
  obtain ⟨y0, e0, _, r0⟩ := hc 0 _ rfl
  obtain ⟨_, hall, hh⟩ := hR.ob (n + 1) _ hk1
  rcases hh with ⟨_, hnil⟩ | ⟨g, cs2, cap, q1, q2, q3, q4, q5, q6, q7⟩
  · exact absurd (by simpa [byteRows] using hnil) h0
  have hlen : (byteRows l).length = l.length := byteRows_len l
  rw [hlen] at q1 q5
  have hy1 : y1 = .slice (some ⟨g, 0, none⟩) l.length cap := by
    cases r1 with
    | own hk => exact q1
  subst hy1
  have hcsE : cs = #[y0, .slice (some ⟨g, 0, none⟩) l.length cap] := by
    refine Array.ext' (List.ext_getElem? fun i => ?_)
    match i with
    | 0 => simpa using e0
    | 1 => simpa using e1
    | i + 2 =>
      have : cs.size = 2 := hcs
      simp; omega
  rw [hcsE] at hbk
  refine (bldString b g cap y0 l cs2 E.w hbk h0 q2 (by omega) q5 q6 (fun j x hx => ?_)).mono ?_
  · have hf := byteRows_flat l
    obtain ⟨u, f1, _, f3⟩ := q7 j (.v (.int .u8 x.toNat)) (by rw [hf, List.getElem?_map, hx]; rfl)
    rw [f3.v_inv] at f1
    exact f1
  rintro e w' ⟨rfl, rfl⟩
  have hlt : g < E.w.heap.size := (Array.getElem?_eq_some_iff.1 q2).1
  have hl0 : l.length ≠ 0 := by simpa using h0
  have hw : E.w.freeze ⟨g, 0, none⟩ l.length = E.w.putObj g (.cells cs2 5 (0, l.length)) := by
    unfold World.freeze World.putObj
    rw [if_neg hl0]
    congr 1
    refine Array.ext_getElem? fun i => ?_
    rw [Array.getElem?_modify, Array.getElem?_setIfInBounds]
    by_cases hgi : g = i
    · subst hgi
      have q2' := (Array.getElem?_eq_some_iff.1 q2).2
      simp [hlt, q2']
    · simp [hgi]
  obtain ⟨hx, hR'⟩ := put_okG hR hk1 rfl (b := g) (by rw [q1]; rfl) (.cells cs2 5 (0, l.length)) .dead (fun _ => trivial)
  let E1 : Env := { E with w := { (E.w.putObj g (.cells cs2 5 (0, l.length))) with drawn := E.w.drawn + 1 } }
  have hx1 : Ext { E with w := E.w.putObj g (.cells cs2 5 (0, l.length)) } ((bst T (some (n, l))).set (n + 1) .dead) E1 ((bst T (some (n, l))).set (n + 1) .dead) :=
    ⟨Nat.le_refl _, fun _ _ => rfl, fun _ h => h, Nat.le_refl _, rfl, rfl, rfl, fun _ _ _ => rfl, fun b hl => .inl hl, fun b hA => .inl hA⟩
  have hR1 : Rel E1 ((bst T (some (n, l))).set (n + 1) .dead) := by
    refine ⟨hR'.len, fun k o hk => ?_, hR'.inj, hR'.old, hR'.one, fun g c h => (hR'.gt g c h).ext hR' hx1⟩
    exact ObR.keep hR' hx1 (by rw [← hR'.len]; exact (List.getElem?_eq_some_iff.1 hk).1) (hR'.ob k o hk) fun hl b hb => ⟨rfl, (hR'.live_lt ⟨k, o, hk, hl, hb⟩).2⟩
  refine ⟨E1, _, _, ⟨rfl, rfl⟩, ?_, hx.trans hx1, hR1, .v _⟩
  show _ = E.w.drew.freeze ⟨g, 0, none⟩ l.length
  have : E.w.drew.freeze ⟨g, 0, none⟩ l.length = { (E.w.freeze ⟨g, 0, none⟩ l.length) with drawn := E.w.drawn + 1 } := by
    unfold World.freeze World.drew
    rw [if_neg hl0, if_neg hl0]
  rw [this, hw]
end Go.Proofs.YtdliolbjngcgcaaGreatDoor.W
set_option maxRecDepth 100000
/- A set's text: the document's. -/
namespace Go.Proofs.YtdliolbjngcgcaaGreatDoor.W
open Go Go.Proofs Go.Proofs.YtdliolbjngcgcaaGreatDoor.AWP
attribute [local irreducible] xl hide aop aops aopQ qops guardP condP
abbrev txD (l : List UInt8) : D := .v (.string ⟨l.toArray⟩)
theorem setT_256 {ws : List Int} (h : (hasL ws 256).length = 256) : setT ws = [46] := by unfold setT; rw [if_pos h]
theorem setT_1 {ws : List Int} {x : Nat} (h : hasL ws 256 = [x]) : setT ws = signB (ub x) := by unfold setT; rw [if_neg (by rw [h]; simp), h]
theorem setT_n {ws : List Int} (h : ¬ (hasL ws 256).length = 256) (h1 : ¬ (hasL ws 256).length = 1) : setT ws = 91 :: (runsL (hasL ws 256) ++ [93]) := by
  unfold setT
  rw [if_neg h]
  split
  · rename_i x hx; rw [hx] at h1; exact absurd rfl h1
  · rfl
end Go.Proofs.YtdliolbjngcgcaaGreatDoor.W
set_option maxRecDepth 100000
/- A set's text: the program's. -/
namespace Go.Proofs.YtdliolbjngcgcaaGreatDoor.W
open Go Go.Proofs Go.Proofs.YtdliolbjngcgcaaGreatDoor.AWP
attribute [local irreducible] xl hide aop aops aopQ qops guardP condP
/-- Slots that are forgotten. -/
def WkL : List D → List D → Prop
  | [], [] => True
  | d :: l, d' :: l' => (d' = d ∨ d' = .any) ∧ WkL l l'
  | _, _ => False
theorem WkL.len : ∀ {l l' : List D}, WkL l l' → l'.length = l.length
  | [], [], _ => rfl
  | d :: l, d' :: l', h => by simp [h.2.len]
  | [], _ :: _, h => h.elim
  | _ :: _, [], h => h.elim
theorem WkL.get : ∀ {l l' : List D}, WkL l l' → ∀ t, l'.getD t .any = l.getD t .any ∨ l'.getD t .any = .any
  | [], [], _, t => .inl rfl
  | d :: l, d' :: l', h, 0 => by simpa using h.1
  | d :: l, d' :: l', h, t + 1 => by simpa using h.2.get t
  | [], _ :: _, h, _ => h.elim
  | _ :: _, [], h, _ => h.elim
theorem mvKeep {base : Nat} {env env' : List D} {om om' : List Ob} (h : WkL env env') (ho : om = om') : Mv base ⟨env, om⟩ ⟨env', om'⟩ := by
  subst ho
  intro lo E a hb hs
  refine ⟨E, rfl, (Ext.refl _ _).toB hb, hs.rel, hs.defs, by rw [hs.size]; exact h.len.symm, fun t => ?_⟩
  show Rd E (env'.getD t .any) _
  rcases h.get t with e | e
  · rw [e]; exact hs.rd t
  · rw [e]; exact .any _
def allS : List Int := [18446744073709551615, 18446744073709551615, 18446744073709551615, 18446744073709551615]
theorem allS_w : W64 allS := ⟨[18446744073709551615, 18446744073709551615, 18446744073709551615, 18446744073709551615], rfl, rfl, by simp⟩
theorem hasB_all {n : Nat} (h : n < 256) : hasB allS n = true := by
  have : ∀ n : _root_.Fin 256, hasB allS n.val = true := by decide +kernel
  exact this ⟨n, h⟩
theorem allS_iff {ws : List Int} (hw : W64 ws) : ws = allS ↔ (hasL ws 256).length = 256 := by
  constructor
  · rintro rfl
    have : hasL allS 256 = List.range 256 := List.filter_eq_self.2 fun n hn => hasB_all (List.mem_range.1 hn)
    rw [this, List.length_range]
  · intro h
    exact hw.ext allS_w fun k hk => by rw [hasL_full h hk, hasB_all hk]
theorem sAll : AP Tryz.prog 69 [] (.agg [wD 18446744073709551615, wD 18446744073709551615, wD 18446744073709551615, wD 18446744073709551615]) := by
  refine AC.lbody hT hm Tryz.func69 f69_nm f69_lc f69_res f69_nt ?_
  simp only [go_sem, Int.reduceEq, Int.reduceLE, Int.reduceLT, Int.reduceToNat]
  exact Fin.ret (.same (.agg (by simp [wD])))
theorem sBytes (ws : List Int) (hw : W64 ws) : AP Tryz.prog 68 [Ws ws] (ByN (hasL ws 256)) := by
  obtain ⟨ms, rfl, h4, hlt⟩ := hw
  have := setBytes ms h4 hlt
  rw [← hasL_bytes ms h4 4 (Nat.le_refl _)] at this
  have e : (ms.map fun m : Nat => (m : Int)).map wD = ms.map fun m : Nat => D.v (.int .u64 (m : Int)) := by rw [List.map_map]; rfl
  show AP _ _ [.agg ((ms.map fun m : Nat => (m : Int)).map wD)] _
  rw [e]
  exact this
theorem rowsN_get {l : List Nat} {i x : Nat} (h : l[i]? = some x) : (rowsN l)[i]? = some [.v (.int .u8 (x : Int))] := by simp [rowsN, h]
theorem drop_cons {l : List Nat} {i x : Nat} (h : l[i]? = some x) : l.drop i = x :: l.drop (i + 1) := drop_get h
theorem wrB {T : Nat} (hT' : BldT T) (n : Nat) (l : List UInt8) (c : UInt8) (hl : l.length ≤ 1000000000) : AC Tryz.prog 52 [.ref 0 0, .y c] (bst T (some (n, l))) (bR T (.v .nilIface) (l ++ [c])) := wrByte hT' (some (n, l)) c hl
theorem wrS {T : Nat} (hT' : BldT T) (n : Nat) (l m : List UInt8) (hl : l.length ≤ 1000000000) (hml : m.length ≤ 1000000000) : AC Tryz.prog 20 [.ref 0 0, .s ⟨m.toArray⟩] (bst T (some (n, l))) (bR T (.tup [.i m.length, .v .nilIface]) (l ++ m)) := wrStr hT' (some (n, l)) m hl hml
theorem byteE {n : Nat} (h : n < 256) : D.v (.int .u8 (n : Int)) = .y (ub n) := by show _ = D.v (.int .u8 ((ub n).toNat : Int)); rw [ub_nat h]
set_option maxHeartbeats 1000000 in
theorem sText (ws : List Int) (hw : W64 ws) : AP Tryz.prog 53 [Ws ws] (txD (setT ws)) := by
  have h4 := hw.len
  have hB := sBytes ws hw
  have hlen := hasL_len ws 256
  have hrl := rowsN_len (hasL ws 256)
  have hall := allS_iff hw
  have hlt256 : ∀ x ∈ hasL ws 256, x < 256 := fun x hx => (hasL_mem.1 hx).1
  have hsrt := hasL_sorted ws 256
  have hT1 := @setT_256 ws
  have hT2 := @setT_1 ws
  have hT3 := @setT_n ws
  obtain ⟨a, b, c, d, rfl⟩ := four h4
  have heq : intsEq [wD a, wD b, wD c, wD d] [wD 18446744073709551615, wD 18446744073709551615, wD 18446744073709551615, wD 18446744073709551615] = some (decide ([a, b, c, d] = allS)) := intsEq_W [a, b, c, d] allS rfl
  refine AC.lbody hT hm Tryz.func53 f53_nm f53_lc f53_res f53_nt ?_
  simp only [go_sem, Int.reduceEq, Int.reduceLE, Int.reduceLT, Int.reduceToNat]
  refine hB.pd ⟨.same (.agg (W_bl [a, b, c, d])), trivial⟩ (.sl (rowsN_bl _)) ?_
  simp only [go_sem, Int.reduceEq, Int.reduceLE, Int.reduceLT, Int.reduceToNat, hrl]
  refine sAll.qd trivial (.agg (by simp [wD])) ?_
  simp only [go_sem, Int.reduceEq, Int.reduceLE, Int.reduceLT, Int.reduceToNat, heq]
  by_cases h256 : (hasL [a, b, c, d] 256).length = 256
  · rw [hT1 h256]
    simp only [go_sem, Int.reduceEq, Int.reduceLE, Int.reduceLT, Int.reduceToNat, hall.2 h256, decide_true]
    exact Fin.v rfl
  have hne : ¬ [a, b, c, d] = allS := fun h => h256 (hall.1 h)
  simp only [go_sem, Int.reduceEq, Int.reduceLE, Int.reduceLT, Int.reduceToNat, hne, hrl]
  by_cases h1 : (hasL [a, b, c, d] 256).length = 1
  · obtain ⟨x, hx⟩ := List.length_eq_one_iff.1 h1
    have hx256 : x < 256 := hlt256 x (by rw [hx]; simp)
    have e2 : ((1 : Nat) : Int) = 1 := rfl
    have ex : D.v (.int .u8 (x : Int)) = .y (ub x) := by show _ = D.v (.int .u8 ((ub x).toNat : Int)); rw [ub_nat hx256]
    rw [hT2 hx, hx]
    simp only [go_sem, Int.reduceEq, Int.reduceLE, Int.reduceLT, Int.reduceToNat, List.length_singleton, e2, beq_self_eq_true, rowsN, List.map_cons, List.map_nil]
    refine (signN (ub x)).pv ⟨.eq ex (.v _), trivial⟩ ?_
    simp only [go_sem, Int.reduceEq, Int.reduceLE, Int.reduceLT, Int.reduceToNat]
    exact Fin.v rfl
  have e2 : (((hasL [a, b, c, d] 256).length : Int) == 1) = false := beq_false (by omega)
  rw [hT3 h256 h1]
  have hrun := runs_len _ (hasL [a, b, c, d] 256) 0 (Nat.le_refl _) hsrt (fun x hx => ⟨by omega, hlt256 x hx⟩) (by omega)
  simp only [go_sem, Int.reduceEq, Int.reduceLE, Int.reduceLT, Int.reduceToNat, e2]
  generalize hasL [a, b, c, d] 256 = L at *
  refine ⟨_, wrByte bldT none 91 (by simp), ?_⟩
  rintro _ _ ⟨rfl, n0, rfl⟩
  simp only [go_sem, Int.reduceEq, Int.reduceLE, Int.reduceLT, Int.reduceToNat]
  refine xl_loopM hT hm (fun p : Nat × List UInt8 × Nat => ⟨f53_i20 (ByN L) (.ref 0 0) (.i p.1), bst 63 (some (p.2.2, p.2.1))⟩)
    (fun p => p.1 ≤ L.length ∧ p.2.1 ++ runsL (L.drop p.1) = 91 :: runsL L ∧ p.2.1.length ≤ 10 * p.1 + 1) (fun p => L.length - p.1) (0, [91], n0) ⟨Nat.zero_le _, rfl, by simp⟩ (mvKeep (by simp [f53_i20, WkL]) rfl) ?_
  rintro ⟨i, acc, n⟩ ⟨hi, hacc, hal⟩
  simp only at hi hacc hal ⊢
  simp only [go_sem, Int.reduceEq, Int.reduceLE, Int.reduceLT, Int.reduceToNat, hrl]
  by_cases h : i < L.length
  case neg =>
    obtain rfl : i = L.length := by omega
    rw [List.drop_length, runsL, List.append_nil] at hacc
    simp only [go_sem, Int.reduceEq, Int.reduceLE, Int.reduceLT, Int.reduceToNat, h]
    refine ⟨_, wrB bldT n acc 93 (by omega), ?_⟩
    rintro _ _ ⟨rfl, n1, rfl⟩
    simp only [go_sem, Int.reduceEq, Int.reduceLE, Int.reduceLT, Int.reduceToNat]
    refine ⟨_, strOf n1 _ (by simp), ?_⟩
    rintro _ _ ⟨rfl, rfl⟩
    simp only [go_sem, Int.reduceEq, Int.reduceLE, Int.reduceLT, Int.reduceToNat]
    refine Fin.v ?_
    rw [hacc]; rfl
  obtain ⟨b, hb⟩ := get_ex h
  have hb256 := hlt256 b (List.mem_of_getElem? hb)
  simp only [go_sem, Int.reduceEq, Int.reduceLE, Int.reduceLT, Int.reduceToNat, h]
  refine xl_loopM hT hm (fun k : Nat => ⟨f53_i13 (ByN L) (.ref 0 0) (.i i) (.i k), bst 63 (some (n, acc))⟩)
    (fun k => i ≤ k ∧ k < L.length ∧ L[k]? = some (b + (k - i)) ∧ (k - i) + runLen (b + (k - i)) (L.drop (k + 1)) = runLen b (L.drop (i + 1))) (fun k => L.length - k) i
    ⟨Nat.le_refl _, h, by simpa using hb, by simp⟩ (mvKeep (by simp [f53_i13, WkL]) rfl) ?_
  rintro k ⟨hik, hkl, hLk, hrn⟩
  have hkk0 := wrap_succ k (by omega)
  simp only [go_sem, Int.reduceEq, Int.reduceLE, Int.reduceLT, Int.reduceToNat, hkk0, hrl]
  by_cases hk1 : k + 1 < L.length
  case neg =>
    have h0 : runLen (b + (k - i)) (L.drop (k + 1)) = 0 := by rw [List.drop_of_length_le (by omega)]; rfl
    simp only [go_sem, Int.reduceEq, Int.reduceLE, Int.reduceLT, Int.reduceToNat, hk1]
    have hk256 := hlt256 _ (List.mem_of_getElem? hLk)
    have hii := wrap_succ i (by omega)
    have hkk := wrap_succ k (by omega)
    have h0' := h0
    rw [h0, Nat.add_zero] at hrn
    have hrl2 : runsL (L.drop i) = rng b (k - i) ++ runsL (L.drop (k + 1)) := by
      rw [drop_cons hb, runsL, ← hrn, List.drop_drop, show i + 1 + (k - i) = k + 1 by omega]
    have hdone : (acc ++ rng b (k - i)) ++ runsL (L.drop (k + 1)) = 91 :: runsL L := by rw [List.append_assoc, ← hrl2]; exact hacc
    have h7 := rng_len7 b (k - i)
    have hdl : (acc ++ rng b (k - i)).length ≤ 10 * (k + 1) + 1 := by rw [List.length_append]; omega
    have hs1 := signB_len (ub b)
    have hs2 := signB_len (ub (b + (k - i)))
    have hfin : (acc ++ signB (ub b)) ++ ((if 1 < k - i then [45] else []) ++ (if 0 < k - i then signB (ub (b + (k - i))) else [])) = acc ++ rng b (k - i) := by
      unfold rng
      rw [List.append_assoc]
    simp only [go_sem, Int.reduceEq, Int.reduceLE, Int.reduceLT, Int.reduceToNat, h, hrl, rowsN_get hb]
    refine (signN (ub b)).pv ⟨.eq (byteE hb256) (.v _), trivial⟩ ?_
    simp only [go_sem, Int.reduceEq, Int.reduceLE, Int.reduceLT, Int.reduceToNat]
    refine ⟨_, wrS bldT n acc (signB (ub b)) (by omega) (by omega), ?_⟩
    rintro _ _ ⟨rfl, n1, rfl⟩
    have hBl : (acc ++ signB (ub b)).length ≤ 10 * i + 4 := by rw [List.length_append]; omega
    generalize acc ++ signB (ub b) = B at hfin hBl ⊢
    simp only [go_sem, Int.reduceEq, Int.reduceLE, Int.reduceLT, Int.reduceToNat, hii]
    by_cases hgt : i + 1 < k
    · have hg2 : i < k := by omega
      rw [if_pos (show 1 < k - i by omega), if_pos (show 0 < k - i by omega), ← List.append_assoc] at hfin
      simp only [go_sem, Int.reduceEq, Int.reduceLE, Int.reduceLT, Int.reduceToNat, hgt]
      refine ⟨_, wrB bldT n1 B 45 (by omega), ?_⟩
      rintro _ _ ⟨rfl, n2, rfl⟩
      have hCl : (B ++ [45]).length ≤ 10 * i + 5 := by rw [List.length_append]; simp; omega
      generalize B ++ [45] = C at hfin hCl ⊢
      simp only [go_sem, Int.reduceEq, Int.reduceLE, Int.reduceLT, Int.reduceToNat, hg2, hkl, hrl, rowsN_get hLk]
      refine (signN (ub (b + (k - i)))).pv ⟨.eq (byteE hk256) (.v _), trivial⟩ ?_
      simp only [go_sem, Int.reduceEq, Int.reduceLE, Int.reduceLT, Int.reduceToNat]
      refine ⟨_, wrS bldT n2 C (signB (ub (b + (k - i)))) (by omega) (by omega), ?_⟩
      rintro _ _ ⟨rfl, n3, rfl⟩
      simp only [go_sem, Int.reduceEq, Int.reduceLE, Int.reduceLT, Int.reduceToNat, hkk]
      rw [hfin]
      exact ⟨(k + 1, acc ++ rng b (k - i), n3), ⟨hkl, hdone, hdl⟩, by simp only; omega, mvKeep (by simp [f53_i20, WkL]) rfl⟩
    by_cases hgt2 : i < k
    · rw [if_neg (show ¬ 1 < k - i by omega), if_pos (show 0 < k - i by omega), List.nil_append] at hfin
      simp only [go_sem, Int.reduceEq, Int.reduceLE, Int.reduceLT, Int.reduceToNat, hgt, hgt2, hkl, hrl, rowsN_get hLk]
      refine (signN (ub (b + (k - i)))).pv ⟨.eq (byteE hk256) (.v _), trivial⟩ ?_
      simp only [go_sem, Int.reduceEq, Int.reduceLE, Int.reduceLT, Int.reduceToNat]
      refine ⟨_, wrS bldT n1 B (signB (ub (b + (k - i)))) (by omega) (by omega), ?_⟩
      rintro _ _ ⟨rfl, n3, rfl⟩
      simp only [go_sem, Int.reduceEq, Int.reduceLE, Int.reduceLT, Int.reduceToNat, hkk]
      rw [hfin]
      exact ⟨(k + 1, acc ++ rng b (k - i), n3), ⟨hkl, hdone, hdl⟩, by simp only; omega, mvKeep (by simp [f53_i20, WkL]) rfl⟩
    · rw [if_neg (show ¬ 1 < k - i by omega), if_neg (show ¬ 0 < k - i by omega), List.nil_append, List.append_nil] at hfin
      simp only [go_sem, Int.reduceEq, Int.reduceLE, Int.reduceLT, Int.reduceToNat, hgt, hgt2, hkk]
      rw [hfin]
      exact ⟨(k + 1, acc ++ rng b (k - i), n1), ⟨hkl, hdone, hdl⟩, by simp only; omega, mvKeep (by simp [f53_i20, WkL]) rfl⟩
  obtain ⟨y, hy⟩ := get_ex hk1
  have hkn := hlt256 _ (List.mem_of_getElem? hLk)
  have hyn := hlt256 _ (List.mem_of_getElem? hy)
  have hylt : b + (k - i) < y := by
    obtain ⟨_, e1⟩ := List.getElem?_eq_some_iff.1 hLk
    obtain ⟨_, e2⟩ := List.getElem?_eq_some_iff.1 hy
    rw [← e1, ← e2]
    exact List.pairwise_iff_getElem.1 hsrt k (k + 1) _ _ (by omega)
  have hw1 : IntKind.wrap .u8 (((b + (k - i) : Nat) : Int) + 1) = ((b + (k - i) + 1 : Nat) : Int) := by
    have := u8_wrap (b + (k - i) + 1) (by omega)
    rw [← this]; rfl
  simp only [go_sem, Int.reduceEq, Int.reduceLE, Int.reduceLT, Int.reduceToNat, hk1, hkk0, hrl, rowsN_get hy, rowsN_get hLk, hkl, hw1]
  by_cases hyy : y = b + (k - i) + 1
  · have e : ((y : Int) == ((b + (k - i) + 1 : Nat) : Int)) = true := by rw [hyy]; exact beq_self_eq_true _
    simp only [go_sem, Int.reduceEq, Int.reduceLE, Int.reduceLT, Int.reduceToNat, e, hkk0]
    refine ⟨k + 1, ⟨by omega, hk1, ?_, ?_⟩, by omega, mvKeep (by simp [WkL]) rfl⟩
    · rw [hy, hyy]; congr 1; omega
    · rw [← hrn, drop_cons hy, runLen, if_pos hyy]
      have e2 : b + (k + 1 - i) = y := by omega
      rw [e2]; omega
  · have e : ((y : Int) == ((b + (k - i) + 1 : Nat) : Int)) = false := beq_false (by omega)
    have h0 : runLen (b + (k - i)) (L.drop (k + 1)) = 0 := by rw [drop_cons hy, runLen, if_neg hyy]
    simp only [go_sem, Int.reduceEq, Int.reduceLE, Int.reduceLT, Int.reduceToNat, e]
    have hk256 := hlt256 _ (List.mem_of_getElem? hLk)
    have hii := wrap_succ i (by omega)
    have hkk := wrap_succ k (by omega)
    have h0' := h0
    rw [h0, Nat.add_zero] at hrn
    have hrl2 : runsL (L.drop i) = rng b (k - i) ++ runsL (L.drop (k + 1)) := by
      rw [drop_cons hb, runsL, ← hrn, List.drop_drop, show i + 1 + (k - i) = k + 1 by omega]
    have hdone : (acc ++ rng b (k - i)) ++ runsL (L.drop (k + 1)) = 91 :: runsL L := by rw [List.append_assoc, ← hrl2]; exact hacc
    have h7 := rng_len7 b (k - i)
    have hdl : (acc ++ rng b (k - i)).length ≤ 10 * (k + 1) + 1 := by rw [List.length_append]; omega
    have hs1 := signB_len (ub b)
    have hs2 := signB_len (ub (b + (k - i)))
    have hfin : (acc ++ signB (ub b)) ++ ((if 1 < k - i then [45] else []) ++ (if 0 < k - i then signB (ub (b + (k - i))) else [])) = acc ++ rng b (k - i) := by
      unfold rng
      rw [List.append_assoc]
    simp only [go_sem, Int.reduceEq, Int.reduceLE, Int.reduceLT, Int.reduceToNat, h, hrl, rowsN_get hb]
    refine (signN (ub b)).pv ⟨.eq (byteE hb256) (.v _), trivial⟩ ?_
    simp only [go_sem, Int.reduceEq, Int.reduceLE, Int.reduceLT, Int.reduceToNat]
    refine ⟨_, wrS bldT n acc (signB (ub b)) (by omega) (by omega), ?_⟩
    rintro _ _ ⟨rfl, n1, rfl⟩
    have hBl : (acc ++ signB (ub b)).length ≤ 10 * i + 4 := by rw [List.length_append]; omega
    generalize acc ++ signB (ub b) = B at hfin hBl ⊢
    simp only [go_sem, Int.reduceEq, Int.reduceLE, Int.reduceLT, Int.reduceToNat, hii]
    by_cases hgt : i + 1 < k
    · have hg2 : i < k := by omega
      rw [if_pos (show 1 < k - i by omega), if_pos (show 0 < k - i by omega), ← List.append_assoc] at hfin
      simp only [go_sem, Int.reduceEq, Int.reduceLE, Int.reduceLT, Int.reduceToNat, hgt]
      refine ⟨_, wrB bldT n1 B 45 (by omega), ?_⟩
      rintro _ _ ⟨rfl, n2, rfl⟩
      have hCl : (B ++ [45]).length ≤ 10 * i + 5 := by rw [List.length_append]; simp; omega
      generalize B ++ [45] = C at hfin hCl ⊢
      simp only [go_sem, Int.reduceEq, Int.reduceLE, Int.reduceLT, Int.reduceToNat, hg2, hkl, hrl, rowsN_get hLk]
      refine (signN (ub (b + (k - i)))).pv ⟨.eq (byteE hk256) (.v _), trivial⟩ ?_
      simp only [go_sem, Int.reduceEq, Int.reduceLE, Int.reduceLT, Int.reduceToNat]
      refine ⟨_, wrS bldT n2 C (signB (ub (b + (k - i)))) (by omega) (by omega), ?_⟩
      rintro _ _ ⟨rfl, n3, rfl⟩
      simp only [go_sem, Int.reduceEq, Int.reduceLE, Int.reduceLT, Int.reduceToNat, hkk]
      rw [hfin]
      exact ⟨(k + 1, acc ++ rng b (k - i), n3), ⟨hkl, hdone, hdl⟩, by simp only; omega, mvKeep (by simp [f53_i20, WkL]) rfl⟩
    by_cases hgt2 : i < k
    · rw [if_neg (show ¬ 1 < k - i by omega), if_pos (show 0 < k - i by omega), List.nil_append] at hfin
      simp only [go_sem, Int.reduceEq, Int.reduceLE, Int.reduceLT, Int.reduceToNat, hgt, hgt2, hkl, hrl, rowsN_get hLk]
      refine (signN (ub (b + (k - i)))).pv ⟨.eq (byteE hk256) (.v _), trivial⟩ ?_
      simp only [go_sem, Int.reduceEq, Int.reduceLE, Int.reduceLT, Int.reduceToNat]
      refine ⟨_, wrS bldT n1 B (signB (ub (b + (k - i)))) (by omega) (by omega), ?_⟩
      rintro _ _ ⟨rfl, n3, rfl⟩
      simp only [go_sem, Int.reduceEq, Int.reduceLE, Int.reduceLT, Int.reduceToNat, hkk]
      rw [hfin]
      exact ⟨(k + 1, acc ++ rng b (k - i), n3), ⟨hkl, hdone, hdl⟩, by simp only; omega, mvKeep (by simp [f53_i20, WkL]) rfl⟩
    · rw [if_neg (show ¬ 1 < k - i by omega), if_neg (show ¬ 0 < k - i by omega), List.nil_append, List.append_nil] at hfin
      simp only [go_sem, Int.reduceEq, Int.reduceLE, Int.reduceLT, Int.reduceToNat, hgt, hgt2, hkk]
      rw [hfin]
      exact ⟨(k + 1, acc ++ rng b (k - i), n1), ⟨hkl, hdone, hdl⟩, by simp only; omega, mvKeep (by simp [f53_i20, WkL]) rfl⟩
end Go.Proofs.YtdliolbjngcgcaaGreatDoor.W
set_option maxRecDepth 100000
/- An expression's text: the program's. -/
namespace Go.Proofs.YtdliolbjngcgcaaGreatDoor.W
open Go Go.Proofs Go.Proofs.YtdliolbjngcgcaaGreatDoor.AWP
attribute [local irreducible] xl hide aop aops aopQ qops guardP condP
def kRows (l : List Int) : List (List D) := l.map fun n => [.v (.int .u8 n)]
abbrev Ks (l : List Int) : D := .sl 1 (kRows l)
theorem kRows_len (l : List Int) : (kRows l).length = l.length := by simp [kRows]
theorem kRows_get {l : List Int} {i : Nat} {x : Int} (h : l[i]? = some x) : (kRows l)[i]? = some [.v (.int .u8 x)] := by simp [kRows, h]
def idxK : List Int → Int → Nat → Int
  | [], _, _ => -1
  | y :: l, x, i => if x = y then (i : Int) else idxK l x (i + 1)
theorem ixK (l : List Int) (x : Int) (hl : l.length ≤ 1000) : AP Tryz.prog 67 [Ks l, .v (.int .u8 x)] (.i (idxK l x 0)) := by
  have hrl := kRows_len l
  refine AC.lbody hT hm Tryz.func67 f67_nm f67_lc f67_res f67_nt ?_
  simp only [go_sem, Int.reduceEq, Int.reduceLE, Int.reduceLT, Int.reduceToNat, hrl]
  refine xl_loopM hT hm (fun i : Nat => ⟨f67_i7 (Ks l) (.v (.int .u8 x)) (.i l.length) (.i i), []⟩)
    (fun i => i ≤ l.length ∧ idxK (l.drop i) x i = idxK l x 0) (fun i => l.length - i) 0 ⟨Nat.zero_le _, rfl⟩ (Mv.none (by simp [f67_i7, kRows])) ?_
  rintro i ⟨hi, hx⟩
  simp only [go_sem, Int.reduceEq, Int.reduceLE, Int.reduceLT, Int.reduceToNat, hrl]
  by_cases h : i < l.length
  case neg =>
    rw [List.drop_of_length_le (by omega)] at hx
    simp only [go_sem, Int.reduceEq, Int.reduceLE, Int.reduceLT, Int.reduceToNat, h]
    exact Fin.v (by rw [← hx]; rfl)
  obtain ⟨y, hy⟩ := get_ex h
  rw [drop_get hy, idxK] at hx
  simp only [go_sem, Int.reduceEq, Int.reduceLE, Int.reduceLT, Int.reduceToNat, h, hrl, kRows_get hy]
  by_cases hxy : x = y
  · rw [if_pos hxy] at hx
    have e : (x == y) = true := by simp [hxy]
    simp only [go_sem, Int.reduceEq, Int.reduceLE, Int.reduceLT, Int.reduceToNat, e]
    exact Fin.v (by rw [← hx])
  · rw [if_neg hxy] at hx
    have e : (x == y) = false := by simp [hxy]
    simp only [go_sem, Int.reduceEq, Int.reduceLE, Int.reduceLT, Int.reduceToNat, e]
    refine ⟨i + 1, ⟨h, hx⟩, by omega, ?_⟩
    rw [wrap_succ i (by omega)]
    exact Mv.none (by simp [kRows])
theorem idxK_ge : ∀ (l : List Int) (x : Int) (i : Nat), decide (0 ≤ idxK l x i) = l.contains x
  | [], x, i => by simp [idxK]
  | y :: l, x, i => by
    rw [idxK]
    split
    · rename_i h; subst h; simp
    · rename_i h
      rw [idxK_ge l x (i + 1), List.contains_cons, beq_false h, Bool.false_or]
theorem hasK (l : List Int) (x : Int) (hl : l.length ≤ 1000) : AP Tryz.prog 51 [Ks l, .v (.int .u8 x)] (.b (l.contains x)) := by
  have h := idxK_ge l x 0
  refine AC.lbody hT hm Tryz.func51 f51_nm f51_lc f51_res f51_nt ?_
  simp only [go_sem, Int.reduceEq, Int.reduceLE, Int.reduceLT, Int.reduceToNat]
  refine (ixK l x hl).pv ⟨.same (.sl fun r hr d hd => ?_), .v, trivial⟩ ?_
  · obtain ⟨n, _, rfl⟩ := List.mem_map.1 hr
    rw [List.mem_singleton.1 hd]; exact .v _
  simp only [go_sem, Int.reduceEq, Int.reduceLE, Int.reduceLT, Int.reduceToNat]
  exact Fin.v (by rw [h])
/-- In brackets, if it is of some kinds. -/
def putT (r : Re) (ks : List Int) : List UInt8 := brk (ks.contains r.kd) r.txt
/-- Kinds as they are handed in. -/
def KsD (K : D) (ks : List Int) : Prop := K = Ks ks ∨ (ks = [] ∧ K = .v (.slice none 0 0))
def putGo (r : Re) : Prop := ∀ (K : D) (ks : List Int) (st : Option (Nat × List UInt8)), KsD K ks → ks.length ≤ 10 → (bTx st).length + r.sz * 520 ≤ 100000000 →
  AC Tryz.prog 36 [.ref 0 0, .agg r.c, K] (bst 86 st) (bR 86 (.tup []) (bTx st ++ putT r ks))
theorem putGo.at {r : Re} (h : putGo r) (K : D) (ks : List Int) (n : Nat) (l : List UInt8) (hK : KsD K ks) (hk : ks.length ≤ 10) (hl : l.length + r.sz * 520 ≤ 100000000) :
    AC Tryz.prog 36 [.ref 0 0, .agg r.c, K] (bst 86 (some (n, l))) (bR 86 (.tup []) (l ++ putT r ks)) := h K ks (some (n, l)) hK hk hl
theorem Ks_bl (ks : List Int) : Bl 0 (Ks ks) := .sl fun r hr d hd => by
  obtain ⟨n, _, rfl⟩ := List.mem_map.1 hr
  rw [List.mem_singleton.1 hd]; exact .v _
theorem KsD.cv {K : D} {ks : List Int} (h : KsD K ks) {om : List Ob} {F : Nat → Bool} : Cv om F [] K (Ks ks) := by
  rcases h with rfl | ⟨rfl, rfl⟩
  · exact .same (Ks_bl ks)
  · exact .nil
theorem txt_le (r : Re) (h : r.nodesOk = true) : r.txt.length + 4 ≤ 520 * r.sz := by have := txt_len r h; have := r.sz_pos; omega
theorem has45 (x : Re) : putT x [4, 5] = brk x.is45 x.txt := by unfold putT; congr 1; simp [Re.is45]
theorem has5 (x : Re) : putT x [5] = brk x.is5 x.txt := by unfold putT; congr 1; simp [Re.is5]
theorem has0 (x : Re) : putT x [] = x.txt := by unfold putT; rfl
theorem brkT (l : List UInt8) : brk true l = 40 :: (l ++ [41]) := _root_.id rfl
theorem brkF (l : List UInt8) : brk false l = l := _root_.id rfl
theorem bSame {T n : Nat} {l l' : List UInt8} (h : l = l') : ∃ m, bst T (some (n, l)) = bst T (some (m, l')) := ⟨n, by rw [h]⟩
set_option maxHeartbeats 1000000 in
theorem put1 : putGo (.mk 1 0 0 0 0 []) := by
  intro K ks st hK hk hl
  have e := (Re.mk 1 0 0 0 0 []).sz_pos
  have hc0 := hasK ks (Re.mk 1 0 0 0 0 []).kd (by omega)
  have hp : putT (.mk 1 0 0 0 0 []) ks = brk (ks.contains 1) (Re.mk 1 0 0 0 0 []).txt := rfl
  rw [hp, txt_1]
  change AP _ _ [Ks ks, .v (.int .u8 1)] (.b (ks.contains 1)) at hc0
  refine AC.lbody hT hm Tryz.func36 f36_nm f36_lc f36_res f36_nt ?_
  simp only [go_sem, Int.reduceEq, Int.reduceLE, Int.reduceLT, Int.reduceToNat, Re.c_mk]
  refine hc0.pv ⟨hK.cv, .v, trivial⟩ ?_
  cases hc : ks.contains 1 with
  | true =>
    · simp only [go_sem, Int.reduceEq, Int.reduceLE, Int.reduceLT, Int.reduceToNat, Re.c_mk, Re.cs_eq, Int.reduceBEq]
      refine ⟨_, wrByte pageT st 40 (by omega), ?_⟩
      rintro _ _ ⟨rfl, n1, rfl⟩
      obtain ⟨B1, hB1⟩ : ∃ B, B = bTx st ++ [40] := ⟨_, rfl⟩
      have hL1 : B1.length = (bTx st).length + 1 := by rw [hB1, List.length_append]; try rfl
      rw [← hB1]
      simp only [go_sem, Int.reduceEq, Int.reduceLE, Int.reduceLT, Int.reduceToNat, Re.c_mk, Re.cs_eq, Int.reduceBEq]
      refine ⟨_, wrS pageT n1 B1 [91, 93] (by omega) (by simp), ?_⟩
      rintro _ _ ⟨rfl, n2, rfl⟩
      obtain ⟨B2, hB2⟩ : ∃ B, B = B1 ++ [91, 93] := ⟨_, rfl⟩
      have hL2 : B2.length = (B1).length + 2 := by rw [hB2, List.length_append]; try rfl
      rw [← hB2]
      simp only [go_sem, Int.reduceEq, Int.reduceLE, Int.reduceLT, Int.reduceToNat]
      refine ⟨_, wrB pageT n2 B2 41 (by omega), ?_⟩
      rintro _ _ ⟨rfl, n3, rfl⟩
      obtain ⟨B3, hB3⟩ : ∃ B, B = B2 ++ [41] := ⟨_, rfl⟩
      have hL3 : B3.length = (B2).length + 1 := by rw [hB3, List.length_append]; try rfl
      rw [← hB3]
      simp only [go_sem, Int.reduceEq, Int.reduceLE, Int.reduceLT, Int.reduceToNat]
      exact finSelf ⟨rfl, bSame (by rw [hB3, hB2, hB1]; simp only [has45, has5, has0, brkT, brkF, List.append_assoc, List.cons_append, List.nil_append])⟩
  | false =>
    · simp only [go_sem, Int.reduceEq, Int.reduceLE, Int.reduceLT, Int.reduceToNat, Re.c_mk, Re.cs_eq, Int.reduceBEq]
      refine ⟨_, wrStr pageT st [91, 93] (by omega) (by simp), ?_⟩
      rintro _ _ ⟨rfl, n1, rfl⟩
      obtain ⟨B1, hB1⟩ : ∃ B, B = bTx st ++ [91, 93] := ⟨_, rfl⟩
      have hL1 : B1.length = (bTx st).length + 2 := by rw [hB1, List.length_append]; try rfl
      rw [← hB1]
      simp only [go_sem, Int.reduceEq, Int.reduceLE, Int.reduceLT, Int.reduceToNat]
      exact finSelf ⟨rfl, bSame (by rw [hB1]; simp only [has45, has5, has0, brkT, brkF, List.append_assoc, List.cons_append, List.nil_append])⟩
set_option maxHeartbeats 1000000 in
theorem put2 : putGo (.mk 2 0 0 0 0 []) := by
  intro K ks st hK hk hl
  have e := (Re.mk 2 0 0 0 0 []).sz_pos
  have hc0 := hasK ks (Re.mk 2 0 0 0 0 []).kd (by omega)
  have hp : putT (.mk 2 0 0 0 0 []) ks = brk (ks.contains 2) (Re.mk 2 0 0 0 0 []).txt := rfl
  rw [hp, txt_2]
  change AP _ _ [Ks ks, .v (.int .u8 2)] (.b (ks.contains 2)) at hc0
  refine AC.lbody hT hm Tryz.func36 f36_nm f36_lc f36_res f36_nt ?_
  simp only [go_sem, Int.reduceEq, Int.reduceLE, Int.reduceLT, Int.reduceToNat, Re.c_mk]
  refine hc0.pv ⟨hK.cv, .v, trivial⟩ ?_
  cases hc : ks.contains 2 with
  | true =>
    · simp only [go_sem, Int.reduceEq, Int.reduceLE, Int.reduceLT, Int.reduceToNat, Re.c_mk, Re.cs_eq, Int.reduceBEq]
      refine ⟨_, wrByte pageT st 40 (by omega), ?_⟩
      rintro _ _ ⟨rfl, n1, rfl⟩
      obtain ⟨B1, hB1⟩ : ∃ B, B = bTx st ++ [40] := ⟨_, rfl⟩
      have hL1 : B1.length = (bTx st).length + 1 := by rw [hB1, List.length_append]; try rfl
      rw [← hB1]
      simp only [go_sem, Int.reduceEq, Int.reduceLE, Int.reduceLT, Int.reduceToNat, Re.c_mk, Re.cs_eq, Int.reduceBEq]
      refine ⟨_, wrS pageT n1 B1 [40, 41] (by omega) (by simp), ?_⟩
      rintro _ _ ⟨rfl, n2, rfl⟩
      obtain ⟨B2, hB2⟩ : ∃ B, B = B1 ++ [40, 41] := ⟨_, rfl⟩
      have hL2 : B2.length = (B1).length + 2 := by rw [hB2, List.length_append]; try rfl
      rw [← hB2]
      simp only [go_sem, Int.reduceEq, Int.reduceLE, Int.reduceLT, Int.reduceToNat]
      refine ⟨_, wrB pageT n2 B2 41 (by omega), ?_⟩
      rintro _ _ ⟨rfl, n3, rfl⟩
      obtain ⟨B3, hB3⟩ : ∃ B, B = B2 ++ [41] := ⟨_, rfl⟩
      have hL3 : B3.length = (B2).length + 1 := by rw [hB3, List.length_append]; try rfl
      rw [← hB3]
      simp only [go_sem, Int.reduceEq, Int.reduceLE, Int.reduceLT, Int.reduceToNat]
      exact finSelf ⟨rfl, bSame (by rw [hB3, hB2, hB1]; simp only [has45, has5, has0, brkT, brkF, List.append_assoc, List.cons_append, List.nil_append])⟩
  | false =>
    · simp only [go_sem, Int.reduceEq, Int.reduceLE, Int.reduceLT, Int.reduceToNat, Re.c_mk, Re.cs_eq, Int.reduceBEq]
      refine ⟨_, wrStr pageT st [40, 41] (by omega) (by simp), ?_⟩
      rintro _ _ ⟨rfl, n1, rfl⟩
      obtain ⟨B1, hB1⟩ : ∃ B, B = bTx st ++ [40, 41] := ⟨_, rfl⟩
      have hL1 : B1.length = (bTx st).length + 2 := by rw [hB1, List.length_append]; try rfl
      rw [← hB1]
      simp only [go_sem, Int.reduceEq, Int.reduceLE, Int.reduceLT, Int.reduceToNat]
      exact finSelf ⟨rfl, bSame (by rw [hB1]; simp only [has45, has5, has0, brkT, brkF, List.append_assoc, List.cons_append, List.nil_append])⟩
set_option maxHeartbeats 1000000 in
theorem put3 (a b c d : Int) (hw : W64 [a, b, c, d]) : putGo (.mk 3 a b c d []) := by
  intro K ks st hK hk hl
  have hTx := sText [a, b, c, d] hw
  have hTl := setT_len [a, b, c, d]
  have e := (Re.mk 3 a b c d []).sz_pos
  have hc0 := hasK ks (Re.mk 3 a b c d []).kd (by omega)
  have hp : putT (.mk 3 a b c d []) ks = brk (ks.contains 3) (Re.mk 3 a b c d []).txt := rfl
  rw [hp, txt_3]
  change AP _ _ [Ks ks, .v (.int .u8 3)] (.b (ks.contains 3)) at hc0
  refine AC.lbody hT hm Tryz.func36 f36_nm f36_lc f36_res f36_nt ?_
  simp only [go_sem, Int.reduceEq, Int.reduceLE, Int.reduceLT, Int.reduceToNat, Re.c_mk]
  refine hc0.pv ⟨hK.cv, .v, trivial⟩ ?_
  cases hc : ks.contains 3 with
  | true =>
    · simp only [go_sem, Int.reduceEq, Int.reduceLE, Int.reduceLT, Int.reduceToNat, Re.c_mk, Re.cs_eq, Int.reduceBEq]
      refine ⟨_, wrByte pageT st 40 (by omega), ?_⟩
      rintro _ _ ⟨rfl, n1, rfl⟩
      obtain ⟨B1, hB1⟩ : ∃ B, B = bTx st ++ [40] := ⟨_, rfl⟩
      have hL1 : B1.length = (bTx st).length + 1 := by rw [hB1, List.length_append]; try rfl
      rw [← hB1]
      simp only [go_sem, Int.reduceEq, Int.reduceLE, Int.reduceLT, Int.reduceToNat, Re.c_mk, Re.cs_eq, Int.reduceBEq]
      refine hTx.qv ⟨.same (.agg (W_bl [a, b, c, d])), trivial⟩ ?_
      simp only [go_sem, Int.reduceEq, Int.reduceLE, Int.reduceLT, Int.reduceToNat]
      refine ⟨_, wrS pageT n1 B1 (setT [a, b, c, d]) (by omega) (by omega), ?_⟩
      rintro _ _ ⟨rfl, n2, rfl⟩
      obtain ⟨B2, hB2⟩ : ∃ B, B = B1 ++ (setT [a, b, c, d]) := ⟨_, rfl⟩
      have hL2 : B2.length = (B1).length + (setT [a, b, c, d]).length := by rw [hB2, List.length_append]; try rfl
      rw [← hB2]
      simp only [go_sem, Int.reduceEq, Int.reduceLE, Int.reduceLT, Int.reduceToNat]
      refine ⟨_, wrB pageT n2 B2 41 (by omega), ?_⟩
      rintro _ _ ⟨rfl, n3, rfl⟩
      obtain ⟨B3, hB3⟩ : ∃ B, B = B2 ++ [41] := ⟨_, rfl⟩
      have hL3 : B3.length = (B2).length + 1 := by rw [hB3, List.length_append]; try rfl
      rw [← hB3]
      simp only [go_sem, Int.reduceEq, Int.reduceLE, Int.reduceLT, Int.reduceToNat]
      exact finSelf ⟨rfl, bSame (by rw [hB3, hB2, hB1]; simp only [has45, has5, has0, brkT, brkF, List.append_assoc, List.cons_append, List.nil_append])⟩
  | false =>
    · simp only [go_sem, Int.reduceEq, Int.reduceLE, Int.reduceLT, Int.reduceToNat, Re.c_mk, Re.cs_eq, Int.reduceBEq]
      refine hTx.qv ⟨.same (.agg (W_bl [a, b, c, d])), trivial⟩ ?_
      simp only [go_sem, Int.reduceEq, Int.reduceLE, Int.reduceLT, Int.reduceToNat]
      refine ⟨_, wrStr pageT st (setT [a, b, c, d]) (by omega) (by omega), ?_⟩
      rintro _ _ ⟨rfl, n1, rfl⟩
      obtain ⟨B1, hB1⟩ : ∃ B, B = bTx st ++ (setT [a, b, c, d]) := ⟨_, rfl⟩
      have hL1 : B1.length = (bTx st).length + (setT [a, b, c, d]).length := by rw [hB1, List.length_append]; try rfl
      rw [← hB1]
      simp only [go_sem, Int.reduceEq, Int.reduceLE, Int.reduceLT, Int.reduceToNat]
      exact finSelf ⟨rfl, bSame (by rw [hB1]; simp only [has45, has5, has0, brkT, brkF, List.append_assoc, List.cons_append, List.nil_append])⟩
set_option maxHeartbeats 1000000 in
theorem put4 (x y : Re) (hx : x.nodesOk = true) (hy : y.nodesOk = true) (ihx : putGo x) (ihy : putGo y) : putGo (.mk 4 0 0 0 0 [x, y]) := by
  intro K ks st hK hk hl
  have hxl := txt_le x hx
  have hyl := txt_le y hy
  have e : (Re.mk 4 0 0 0 0 [x, y]).sz = 1 + (x.sz + y.sz) := by simp [Re.sz, Re.szs]
  rw [e] at hl
  have bx1 : (putT x [4, 5]).length ≤ x.txt.length + 2 := (brk_len _ _).2
  have bx2 : (putT x [5]).length ≤ x.txt.length + 2 := (brk_len _ _).2
  have bx3 : (putT x []).length ≤ x.txt.length + 2 := (brk_len _ _).2
  have by1 : (putT y [4, 5]).length ≤ y.txt.length + 2 := (brk_len _ _).2
  have by2 : (putT y [5]).length ≤ y.txt.length + 2 := (brk_len _ _).2
  have by3 : (putT y []).length ≤ y.txt.length + 2 := (brk_len _ _).2
  have hc0 := hasK ks (Re.mk 4 0 0 0 0 [x, y]).kd (by omega)
  have hp : putT (.mk 4 0 0 0 0 [x, y]) ks = brk (ks.contains 4) (Re.mk 4 0 0 0 0 [x, y]).txt := rfl
  rw [hp, txt_4]
  change AP _ _ [Ks ks, .v (.int .u8 4)] (.b (ks.contains 4)) at hc0
  refine AC.lbody hT hm Tryz.func36 f36_nm f36_lc f36_res f36_nt ?_
  simp only [go_sem, Int.reduceEq, Int.reduceLE, Int.reduceLT, Int.reduceToNat, Re.c_mk]
  refine hc0.pv ⟨hK.cv, .v, trivial⟩ ?_
  cases hc : ks.contains 4 with
  | true =>
    · simp only [go_sem, Int.reduceEq, Int.reduceLE, Int.reduceLT, Int.reduceToNat, Re.c_mk, Re.cs_eq, Int.reduceBEq]
      refine ⟨_, wrByte pageT st 40 (by omega), ?_⟩
      rintro _ _ ⟨rfl, n1, rfl⟩
      obtain ⟨B1, hB1⟩ : ∃ B, B = bTx st ++ [40] := ⟨_, rfl⟩
      have hL1 : B1.length = (bTx st).length + 1 := by rw [hB1, List.length_append]; try rfl
      rw [← hB1]
      simp only [go_sem, Int.reduceEq, Int.reduceLE, Int.reduceLT, Int.reduceToNat, Re.c_mk, Re.cs_eq, Int.reduceBEq]
      refine ⟨_, ihx.at _ [4, 5] n1 B1 (.inl rfl) (by simp) (by omega), ?_⟩
      rintro _ _ ⟨rfl, n2, rfl⟩
      obtain ⟨B2, hB2⟩ : ∃ B, B = B1 ++ putT x [4, 5] := ⟨_, rfl⟩
      have hL2 : B2.length = (B1).length + (putT x [4, 5]).length := by rw [hB2, List.length_append]; try rfl
      rw [← hB2]
      simp only [go_sem, Int.reduceEq, Int.reduceLE, Int.reduceLT, Int.reduceToNat]
      refine ⟨_, ihy.at _ [5] n2 B2 (.inl rfl) (by simp) (by omega), ?_⟩
      rintro _ _ ⟨rfl, n3, rfl⟩
      obtain ⟨B3, hB3⟩ : ∃ B, B = B2 ++ putT y [5] := ⟨_, rfl⟩
      have hL3 : B3.length = (B2).length + (putT y [5]).length := by rw [hB3, List.length_append]; try rfl
      rw [← hB3]
      simp only [go_sem, Int.reduceEq, Int.reduceLE, Int.reduceLT, Int.reduceToNat]
      refine ⟨_, wrB pageT n3 B3 41 (by omega), ?_⟩
      rintro _ _ ⟨rfl, n4, rfl⟩
      obtain ⟨B4, hB4⟩ : ∃ B, B = B3 ++ [41] := ⟨_, rfl⟩
      have hL4 : B4.length = (B3).length + 1 := by rw [hB4, List.length_append]; try rfl
      rw [← hB4]
      simp only [go_sem, Int.reduceEq, Int.reduceLE, Int.reduceLT, Int.reduceToNat]
      exact finSelf ⟨rfl, bSame (by rw [hB4, hB3, hB2, hB1]; simp only [has45, has5, has0, brkT, brkF, List.append_assoc, List.cons_append, List.nil_append])⟩
  | false =>
    · simp only [go_sem, Int.reduceEq, Int.reduceLE, Int.reduceLT, Int.reduceToNat, Re.c_mk, Re.cs_eq, Int.reduceBEq]
      refine ⟨_, ihx _ [4, 5] st (.inl rfl) (by simp) (by omega), ?_⟩
      rintro _ _ ⟨rfl, n1, rfl⟩
      obtain ⟨B1, hB1⟩ : ∃ B, B = bTx st ++ putT x [4, 5] := ⟨_, rfl⟩
      have hL1 : B1.length = (bTx st).length + (putT x [4, 5]).length := by rw [hB1, List.length_append]; try rfl
      rw [← hB1]
      simp only [go_sem, Int.reduceEq, Int.reduceLE, Int.reduceLT, Int.reduceToNat]
      refine ⟨_, ihy.at _ [5] n1 B1 (.inl rfl) (by simp) (by omega), ?_⟩
      rintro _ _ ⟨rfl, n2, rfl⟩
      obtain ⟨B2, hB2⟩ : ∃ B, B = B1 ++ putT y [5] := ⟨_, rfl⟩
      have hL2 : B2.length = (B1).length + (putT y [5]).length := by rw [hB2, List.length_append]; try rfl
      rw [← hB2]
      simp only [go_sem, Int.reduceEq, Int.reduceLE, Int.reduceLT, Int.reduceToNat]
      exact finSelf ⟨rfl, bSame (by rw [hB2, hB1]; simp only [has45, has5, has0, brkT, brkF, List.append_assoc, List.cons_append, List.nil_append])⟩
set_option maxHeartbeats 1000000 in
theorem put5 (x y : Re) (hx : x.nodesOk = true) (hy : y.nodesOk = true) (ihx : putGo x) (ihy : putGo y) : putGo (.mk 5 0 0 0 0 [x, y]) := by
  intro K ks st hK hk hl
  have hxl := txt_le x hx
  have hyl := txt_le y hy
  have e : (Re.mk 5 0 0 0 0 [x, y]).sz = 1 + (x.sz + y.sz) := by simp [Re.sz, Re.szs]
  rw [e] at hl
  have bx1 : (putT x [4, 5]).length ≤ x.txt.length + 2 := (brk_len _ _).2
  have bx2 : (putT x [5]).length ≤ x.txt.length + 2 := (brk_len _ _).2
  have bx3 : (putT x []).length ≤ x.txt.length + 2 := (brk_len _ _).2
  have by1 : (putT y [4, 5]).length ≤ y.txt.length + 2 := (brk_len _ _).2
  have by2 : (putT y [5]).length ≤ y.txt.length + 2 := (brk_len _ _).2
  have by3 : (putT y []).length ≤ y.txt.length + 2 := (brk_len _ _).2
  have hc0 := hasK ks (Re.mk 5 0 0 0 0 [x, y]).kd (by omega)
  have hp : putT (.mk 5 0 0 0 0 [x, y]) ks = brk (ks.contains 5) (Re.mk 5 0 0 0 0 [x, y]).txt := rfl
  rw [hp, txt_5]
  change AP _ _ [Ks ks, .v (.int .u8 5)] (.b (ks.contains 5)) at hc0
  refine AC.lbody hT hm Tryz.func36 f36_nm f36_lc f36_res f36_nt ?_
  simp only [go_sem, Int.reduceEq, Int.reduceLE, Int.reduceLT, Int.reduceToNat, Re.c_mk]
  refine hc0.pv ⟨hK.cv, .v, trivial⟩ ?_
  cases hc : ks.contains 5 with
  | true =>
    · simp only [go_sem, Int.reduceEq, Int.reduceLE, Int.reduceLT, Int.reduceToNat, Re.c_mk, Re.cs_eq, Int.reduceBEq]
      refine ⟨_, wrByte pageT st 40 (by omega), ?_⟩
      rintro _ _ ⟨rfl, n1, rfl⟩
      obtain ⟨B1, hB1⟩ : ∃ B, B = bTx st ++ [40] := ⟨_, rfl⟩
      have hL1 : B1.length = (bTx st).length + 1 := by rw [hB1, List.length_append]; try rfl
      rw [← hB1]
      simp only [go_sem, Int.reduceEq, Int.reduceLE, Int.reduceLT, Int.reduceToNat, Re.c_mk, Re.cs_eq, Int.reduceBEq]
      refine ⟨_, ihx.at _ [5] n1 B1 (.inl rfl) (by simp) (by omega), ?_⟩
      rintro _ _ ⟨rfl, n2, rfl⟩
      obtain ⟨B2, hB2⟩ : ∃ B, B = B1 ++ putT x [5] := ⟨_, rfl⟩
      have hL2 : B2.length = (B1).length + (putT x [5]).length := by rw [hB2, List.length_append]; try rfl
      rw [← hB2]
      simp only [go_sem, Int.reduceEq, Int.reduceLE, Int.reduceLT, Int.reduceToNat]
      refine ⟨_, wrB pageT n2 B2 124 (by omega), ?_⟩
      rintro _ _ ⟨rfl, n3, rfl⟩
      obtain ⟨B3, hB3⟩ : ∃ B, B = B2 ++ [124] := ⟨_, rfl⟩
      have hL3 : B3.length = (B2).length + 1 := by rw [hB3, List.length_append]; try rfl
      rw [← hB3]
      simp only [go_sem, Int.reduceEq, Int.reduceLE, Int.reduceLT, Int.reduceToNat]
      refine ⟨_, ihy.at _ [] n3 B3 (.inr ⟨rfl, rfl⟩) (by simp) (by omega), ?_⟩
      rintro _ _ ⟨rfl, n4, rfl⟩
      obtain ⟨B4, hB4⟩ : ∃ B, B = B3 ++ putT y [] := ⟨_, rfl⟩
      have hL4 : B4.length = (B3).length + (putT y []).length := by rw [hB4, List.length_append]; try rfl
      rw [← hB4]
      simp only [go_sem, Int.reduceEq, Int.reduceLE, Int.reduceLT, Int.reduceToNat]
      refine ⟨_, wrB pageT n4 B4 41 (by omega), ?_⟩
      rintro _ _ ⟨rfl, n5, rfl⟩
      obtain ⟨B5, hB5⟩ : ∃ B, B = B4 ++ [41] := ⟨_, rfl⟩
      have hL5 : B5.length = (B4).length + 1 := by rw [hB5, List.length_append]; try rfl
      rw [← hB5]
      simp only [go_sem, Int.reduceEq, Int.reduceLE, Int.reduceLT, Int.reduceToNat]
      exact finSelf ⟨rfl, bSame (by rw [hB5, hB4, hB3, hB2, hB1]; simp only [has45, has5, has0, brkT, brkF, List.append_assoc, List.cons_append, List.nil_append])⟩
  | false =>
    · simp only [go_sem, Int.reduceEq, Int.reduceLE, Int.reduceLT, Int.reduceToNat, Re.c_mk, Re.cs_eq, Int.reduceBEq]
      refine ⟨_, ihx _ [5] st (.inl rfl) (by simp) (by omega), ?_⟩
      rintro _ _ ⟨rfl, n1, rfl⟩
      obtain ⟨B1, hB1⟩ : ∃ B, B = bTx st ++ putT x [5] := ⟨_, rfl⟩
      have hL1 : B1.length = (bTx st).length + (putT x [5]).length := by rw [hB1, List.length_append]; try rfl
      rw [← hB1]
      simp only [go_sem, Int.reduceEq, Int.reduceLE, Int.reduceLT, Int.reduceToNat]
      refine ⟨_, wrB pageT n1 B1 124 (by omega), ?_⟩
      rintro _ _ ⟨rfl, n2, rfl⟩
      obtain ⟨B2, hB2⟩ : ∃ B, B = B1 ++ [124] := ⟨_, rfl⟩
      have hL2 : B2.length = (B1).length + 1 := by rw [hB2, List.length_append]; try rfl
      rw [← hB2]
      simp only [go_sem, Int.reduceEq, Int.reduceLE, Int.reduceLT, Int.reduceToNat]
      refine ⟨_, ihy.at _ [] n2 B2 (.inr ⟨rfl, rfl⟩) (by simp) (by omega), ?_⟩
      rintro _ _ ⟨rfl, n3, rfl⟩
      obtain ⟨B3, hB3⟩ : ∃ B, B = B2 ++ putT y [] := ⟨_, rfl⟩
      have hL3 : B3.length = (B2).length + (putT y []).length := by rw [hB3, List.length_append]; try rfl
      rw [← hB3]
      simp only [go_sem, Int.reduceEq, Int.reduceLE, Int.reduceLT, Int.reduceToNat]
      exact finSelf ⟨rfl, bSame (by rw [hB3, hB2, hB1]; simp only [has45, has5, has0, brkT, brkF, List.append_assoc, List.cons_append, List.nil_append])⟩
set_option maxHeartbeats 1000000 in
theorem put6 (x : Re) (hx : x.nodesOk = true) (ihx : putGo x) : putGo (.mk 6 0 0 0 0 [x]) := by
  intro K ks st hK hk hl
  have hxl := txt_le x hx
  have e : (Re.mk 6 0 0 0 0 [x]).sz = 1 + x.sz := by simp [Re.sz, Re.szs]
  rw [e] at hl
  have bx1 : (putT x [4, 5]).length ≤ x.txt.length + 2 := (brk_len _ _).2
  have hc0 := hasK ks (Re.mk 6 0 0 0 0 [x]).kd (by omega)
  have hp : putT (.mk 6 0 0 0 0 [x]) ks = brk (ks.contains 6) (Re.mk 6 0 0 0 0 [x]).txt := rfl
  rw [hp, txt_6]
  change AP _ _ [Ks ks, .v (.int .u8 6)] (.b (ks.contains 6)) at hc0
  refine AC.lbody hT hm Tryz.func36 f36_nm f36_lc f36_res f36_nt ?_
  simp only [go_sem, Int.reduceEq, Int.reduceLE, Int.reduceLT, Int.reduceToNat, Re.c_mk]
  refine hc0.pv ⟨hK.cv, .v, trivial⟩ ?_
  cases hc : ks.contains 6 with
  | true =>
    · simp only [go_sem, Int.reduceEq, Int.reduceLE, Int.reduceLT, Int.reduceToNat, Re.c_mk, Re.cs_eq, Int.reduceBEq]
      refine ⟨_, wrByte pageT st 40 (by omega), ?_⟩
      rintro _ _ ⟨rfl, n1, rfl⟩
      obtain ⟨B1, hB1⟩ : ∃ B, B = bTx st ++ [40] := ⟨_, rfl⟩
      have hL1 : B1.length = (bTx st).length + 1 := by rw [hB1, List.length_append]; try rfl
      rw [← hB1]
      simp only [go_sem, Int.reduceEq, Int.reduceLE, Int.reduceLT, Int.reduceToNat, Re.c_mk, Re.cs_eq, Int.reduceBEq]
      refine ⟨_, ihx.at _ [4, 5] n1 B1 (.inl rfl) (by simp) (by omega), ?_⟩
      rintro _ _ ⟨rfl, n2, rfl⟩
      obtain ⟨B2, hB2⟩ : ∃ B, B = B1 ++ putT x [4, 5] := ⟨_, rfl⟩
      have hL2 : B2.length = (B1).length + (putT x [4, 5]).length := by rw [hB2, List.length_append]; try rfl
      rw [← hB2]
      simp only [go_sem, Int.reduceEq, Int.reduceLE, Int.reduceLT, Int.reduceToNat]
      refine ⟨_, wrB pageT n2 B2 42 (by omega), ?_⟩
      rintro _ _ ⟨rfl, n3, rfl⟩
      obtain ⟨B3, hB3⟩ : ∃ B, B = B2 ++ [42] := ⟨_, rfl⟩
      have hL3 : B3.length = (B2).length + 1 := by rw [hB3, List.length_append]; try rfl
      rw [← hB3]
      simp only [go_sem, Int.reduceEq, Int.reduceLE, Int.reduceLT, Int.reduceToNat]
      refine ⟨_, wrB pageT n3 B3 41 (by omega), ?_⟩
      rintro _ _ ⟨rfl, n4, rfl⟩
      obtain ⟨B4, hB4⟩ : ∃ B, B = B3 ++ [41] := ⟨_, rfl⟩
      have hL4 : B4.length = (B3).length + 1 := by rw [hB4, List.length_append]; try rfl
      rw [← hB4]
      simp only [go_sem, Int.reduceEq, Int.reduceLE, Int.reduceLT, Int.reduceToNat]
      exact finSelf ⟨rfl, bSame (by rw [hB4, hB3, hB2, hB1]; simp only [has45, has5, has0, brkT, brkF, List.append_assoc, List.cons_append, List.nil_append])⟩
  | false =>
    · simp only [go_sem, Int.reduceEq, Int.reduceLE, Int.reduceLT, Int.reduceToNat, Re.c_mk, Re.cs_eq, Int.reduceBEq]
      refine ⟨_, ihx _ [4, 5] st (.inl rfl) (by simp) (by omega), ?_⟩
      rintro _ _ ⟨rfl, n1, rfl⟩
      obtain ⟨B1, hB1⟩ : ∃ B, B = bTx st ++ putT x [4, 5] := ⟨_, rfl⟩
      have hL1 : B1.length = (bTx st).length + (putT x [4, 5]).length := by rw [hB1, List.length_append]; try rfl
      rw [← hB1]
      simp only [go_sem, Int.reduceEq, Int.reduceLE, Int.reduceLT, Int.reduceToNat]
      refine ⟨_, wrB pageT n1 B1 42 (by omega), ?_⟩
      rintro _ _ ⟨rfl, n2, rfl⟩
      obtain ⟨B2, hB2⟩ : ∃ B, B = B1 ++ [42] := ⟨_, rfl⟩
      have hL2 : B2.length = (B1).length + 1 := by rw [hB2, List.length_append]; try rfl
      rw [← hB2]
      simp only [go_sem, Int.reduceEq, Int.reduceLE, Int.reduceLT, Int.reduceToNat]
      exact finSelf ⟨rfl, bSame (by rw [hB2, hB1]; simp only [has45, has5, has0, brkT, brkF, List.append_assoc, List.cons_append, List.nil_append])⟩
end Go.Proofs.YtdliolbjngcgcaaGreatDoor.W
set_option maxRecDepth 100000
/- An expression's text: both. -/
namespace Go.Proofs.YtdliolbjngcgcaaGreatDoor.W
open Go Go.Proofs Go.Proofs.YtdliolbjngcgcaaGreatDoor.AWP
attribute [local irreducible] xl hide aop aops aopQ qops guardP condP
theorem putAll (r : Re) (hok : r.nodesOk = true) (hw : r.wd) : putGo r := by
  revert hw
  refine Re.indOk (p := fun r => r.wd → putGo r) ?_ ?_ ?_ ?_ r hok
  · intro k hk _
    rcases hk with rfl | rfl
    · exact put1
    · exact put2
  · intro a b c d _ hw
    rw [Re.wd] at hw
    exact put3 a b c d hw.1
  · intro k x y hk hx hy ihx ihy hw
    rw [Re.wd, Re.wds, Re.wds] at hw
    rcases hk with rfl | rfl
    · exact put4 x y hx hy (ihx hw.2.1) (ihy hw.2.2.1)
    · exact put5 x y hx hy (ihx hw.2.1) (ihy hw.2.2.1)
  · intro x hx ihx hw
    rw [Re.wd, Re.wds, Re.wds] at hw
    exact put6 x hx (ihx hw.2.1)
/-- What Text hands back. -/
def shT (r : Re) : List UInt8 := if mayB r = true then r.txt else []
theorem showText (r : Re) (hz : r.sz ≤ 1048576) (hw : r.wd) : AP Tryz.prog 21 [.agg r.c] (txD (shT r)) := by
  have c1 := may r (by omega)
  refine AC.lbody hT hm Tryz.func21 f21_nm f21_lc f21_res f21_nt ?_
  simp only [go_sem, Int.reduceEq, Int.reduceLE, Int.reduceLT, Int.reduceToNat]
  refine c1.pv ⟨.same (Res_bl' [r]), trivial⟩ ?_
  unfold shT
  rcases mayCase r with hm | hm
  · simp only [go_sem, Int.reduceEq, Int.reduceLE, Int.reduceLT, Int.reduceToNat, hm, Bool.not_false]
    exact Fin.v rfl
  obtain ⟨hok, h2⟩ := mayZ hm
  obtain ⟨c, l, hcl, _⟩ := txt_cons r hok
  simp only [go_sem, Int.reduceEq, Int.reduceLE, Int.reduceLT, Int.reduceToNat, hm, Bool.not_true]
  refine ⟨_, putAll r hok hw _ [] none (.inr ⟨rfl, rfl⟩) (by simp) (by simp; omega), ?_⟩
  rintro _ _ ⟨rfl, n, rfl⟩
  have e : bTx none ++ putT r [] = r.txt := by rw [has0]; rfl
  rw [e]
  simp only [go_sem, Int.reduceEq, Int.reduceLE, Int.reduceLT, Int.reduceToNat]
  refine ⟨_, strOf n r.txt (by rw [hcl]; simp), ?_⟩
  rintro _ _ ⟨rfl, rfl⟩
  simp only [go_sem, Int.reduceEq, Int.reduceLE, Int.reduceLT, Int.reduceToNat]
  exact Fin.v rfl
end Go.Proofs.YtdliolbjngcgcaaGreatDoor.W
set_option maxRecDepth 100000
/- Where a byte stands first; a text cut in two; a text's end cut off; names. -/
namespace Go.Proofs.YtdliolbjngcgcaaGreatDoor.W
open Go Go.Proofs Go.Proofs.YtdliolbjngcgcaaGreatDoor.AWP
attribute [local irreducible] xl hide aop aops aopQ qops guardP condP
theorem idxW (s : ByteArray) (c : UInt8) (w : World) : Calls Tryz.prog 37 #[.string s, .int .u8 c.toNat] w fun e w' => e = .returned (.int .i64 (ixS c s)) ∧ w' = w := by
  go_enter Tryz.func37, Tryz.ntmps37
  go_wp2
  rw [run_callFunc_extern Tryz.func54 (by kernel_rfl) (by kernel_rfl) (by kernel_rfl) (e := Extern.BytealgIndexByte.indexByte) (by kernel_rfl)]
  rw [Lib.run_indexByteString]
  simp only [Result.andThen]
  rw [Oper.upon_value]
  go_wp2
  go_ret
  refine ⟨?_, rfl⟩
  rw [ixS_lib]
  rfl
theorem idx1 (s : ByteArray) (c : UInt8) : AP Tryz.prog 37 [.s s, .y c] (.i (ixS c s)) :=
  AO.of_calls (vs := [.string s, .int .u8 c.toNat]) (by kernel_rfl) fun w => idxW s c w
theorem idx2 (s : ByteArray) (c : UInt8) : AP Tryz.prog 25 [.s s, .y c] (.i (ixS c s)) := by
  refine AC.lbody hT hm Tryz.func25 f25_nm f25_lc f25_res f25_nt ?_
  simp only [go_sem, Int.reduceEq, Int.reduceLE, Int.reduceLT, Int.reduceToNat]
  refine (idx1 s c).pv ⟨.v, .v, trivial⟩ ?_
  simp only [go_sem, Int.reduceEq, Int.reduceLE, Int.reduceLT, Int.reduceToNat]
  exact Fin.v rfl
theorem idx3 (s : ByteArray) (c : UInt8) : AP Tryz.prog 55 [.s s, .s ⟨#[c]⟩] (.i (ixS c s)) := by
  have hs : (⟨#[c]⟩ : ByteArray).size = 1 := rfl
  refine AC.lbody hT hm Tryz.func55 f55_nm f55_lc f55_res f55_nt ?_
  have z1 : (((1 : Nat) : Int) == 0) = false := rfl
  have z2 : (((1 : Nat) : Int) == 1) = true := rfl
  have hu : (⟨#[c]⟩ : ByteArray).data[0]? = some c := rfl
  by_cases he : [c] = s.data.toList
  · have zb : ([c] == s.data.toList) = true := beq_iff_eq.2 he
    have h1 : s.size = 1 := by
      have : s.data.toList.length = s.size := Array.length_toList
      rw [← he] at this
      exact this.symm
    have h0 : ixS c s = 0 := by
      unfold ixS
      rw [← he, h1]
      simp [ixN]
    rw [h0]
    simp only [go_sem, Int.reduceEq, Int.reduceLE, Int.reduceLT, Int.reduceToNat, hs, z1, z2, hu, zb]
    exact Fin.v rfl
  have zb : ([c] == s.data.toList) = false := beq_eq_false_iff_ne.2 he
  simp only [go_sem, Int.reduceEq, Int.reduceLE, Int.reduceLT, Int.reduceToNat, hs, z1, z2, hu, zb]
  refine (idx1 s c).pv ⟨.v, .v, trivial⟩ ?_
  simp only [go_sem, Int.reduceEq, Int.reduceLE, Int.reduceLT, Int.reduceToNat]
  exact Fin.v rfl
/-- A text cut in two. -/
def cutS (c : UInt8) (s : ByteArray) : ByteArray × ByteArray × Bool :=
  if ixN c s.data.toList < s.size then (s.extract 0 (ixN c s.data.toList), s.extract (ixN c s.data.toList + 1) s.size, true) else (s, ⟨#[]⟩, false)
abbrev cutD (x : ByteArray × ByteArray × Bool) : D := .tup [.s x.1, .s x.2.1, .b x.2.2]
theorem cutD_bl (x : ByteArray × ByteArray × Bool) : Bl 0 (cutD x) := .tup (by simp)
theorem cut1 (s : ByteArray) (c : UInt8) (hs : s.size ≤ 1000000) : AP Tryz.prog 39 [.s s, .s ⟨#[c]⟩] (cutD (cutS c s)) := by
  have hI := idx3 s c
  have h1 : (⟨#[c]⟩ : ByteArray).size = 1 := rfl
  unfold ixS at hI
  unfold cutS
  refine AC.lbody hT hm Tryz.func39 f39_nm f39_lc f39_res f39_nt ?_
  simp only [go_sem, Int.reduceEq, Int.reduceLE, Int.reduceLT, Int.reduceToNat]
  refine hI.pv ⟨.v, .v, trivial⟩ ?_
  by_cases h : ixN c s.data.toList < s.size
  · rw [if_pos h, if_pos h]
    generalize ixN c s.data.toList = n at h
    have hw : IntKind.i64.wrap ((n : Int) + ((1 : Nat) : Int)) = ((n + 1 : Nat) : Int) := wrap_succ n (by omega)
    have h3 : n + 1 ≤ s.size := h
    have h2 : n ≤ s.size := by omega
    simp only [go_sem, Int.reduceEq, Int.reduceLE, Int.reduceLT, Int.reduceToNat, h1, hw, h2, h3, Nat.zero_le, Nat.le_refl, Int.natCast_nonneg]
    exact Fin.ret (.tupL ⟨.v, .v, .v, trivial⟩)
  · rw [if_neg h, if_neg h]
    simp only [go_sem, Int.reduceEq, Int.reduceLE, Int.reduceLT, Int.reduceToNat]
    exact Fin.ret (.tupL ⟨.v, .v, .v, trivial⟩)
theorem cut2 (s : ByteArray) (c : UInt8) (hs : s.size ≤ 1000000) : AP Tryz.prog 27 [.s s, .s ⟨#[c]⟩] (cutD (cutS c s)) := by
  refine AC.lbody hT hm Tryz.func27 f27_nm f27_lc f27_res f27_nt ?_
  simp only [go_sem, Int.reduceEq, Int.reduceLE, Int.reduceLT, Int.reduceToNat]
  refine (cut1 s c hs).pd ⟨.v, .v, trivial⟩ (cutD_bl _) ?_
  simp only [go_sem, Int.reduceEq, Int.reduceLE, Int.reduceLT, Int.reduceToNat]
  exact Fin.ret (.tupL ⟨.v, .v, .v, trivial⟩)
/-- Does a text end in a byte? -/
def sufB (c : UInt8) (s : ByteArray) : Bool := decide (1 ≤ s.size) && ((s.extract (s.size - 1) s.size).data.toList == [c])
def csuf (c : UInt8) (s : ByteArray) : ByteArray × Bool := if sufB c s = true then (s.extract 0 (s.size - 1), true) else (s, false)
abbrev csufD (x : ByteArray × Bool) : D := .tup [.s x.1, .b x.2]
theorem csufD_bl (x : ByteArray × Bool) : Bl 0 (csufD x) := .tup (by simp)
theorem hasSuf (s : ByteArray) (c : UInt8) (hs : s.size ≤ 1000000) : AP Tryz.prog 38 [.s s, .s ⟨#[c]⟩] (.b (sufB c s)) := by
  have h1 : (⟨#[c]⟩ : ByteArray).size = 1 := rfl
  have hl : (⟨#[c]⟩ : ByteArray).data.toList = [c] := rfl
  unfold sufB
  refine AC.lbody hT hm Tryz.func38 f38_nm f38_lc f38_res f38_nt ?_
  simp only [go_sem, Int.reduceEq, Int.reduceLE, Int.reduceLT, Int.reduceToNat, h1]
  by_cases h : 1 ≤ s.size
  · have hw : IntKind.i64.wrap ((s.size : Int) - ((1 : Nat) : Int)) = ((s.size - 1 : Nat) : Int) := by rw [wrap_int _ (by omega) (by omega)]; omega
    have h2 : s.size - 1 ≤ s.size := by omega
    simp only [go_sem, Int.reduceEq, Int.reduceLE, Int.reduceLT, Int.reduceToNat, h, hw, h2, Nat.le_refl, Nat.zero_le, hl, Int.natCast_nonneg]
    exact Fin.v rfl
  · simp only [go_sem, Int.reduceEq, Int.reduceLE, Int.reduceLT, Int.reduceToNat, h]
    exact Fin.v rfl
theorem csuf1 (s : ByteArray) (c : UInt8) (hs : s.size ≤ 1000000) : AP Tryz.prog 26 [.s s, .s ⟨#[c]⟩] (csufD (csuf c s)) := by
  have hH := hasSuf s c hs
  have h1 : (⟨#[c]⟩ : ByteArray).size = 1 := rfl
  unfold csuf
  refine AC.lbody hT hm Tryz.func26 f26_nm f26_lc f26_res f26_nt ?_
  simp only [go_sem, Int.reduceEq, Int.reduceLE, Int.reduceLT, Int.reduceToNat]
  refine hH.pv ⟨.v, .v, trivial⟩ ?_
  cases hb : sufB c s with
  | false =>
    simp only [go_sem, Int.reduceEq, Int.reduceLE, Int.reduceLT, Int.reduceToNat, hb]
    exact Fin.ret (.tupL ⟨.v, .v, trivial⟩)
  | true =>
    have h : 1 ≤ s.size := by
      unfold sufB at hb
      simp only [Bool.and_eq_true, decide_eq_true_eq] at hb
      exact hb.1
    have hw : IntKind.i64.wrap ((s.size : Int) - ((1 : Nat) : Int)) = ((s.size - 1 : Nat) : Int) := by rw [wrap_int _ (by omega) (by omega)]; omega
    have h2 : s.size - 1 ≤ s.size := by omega
    simp only [go_sem, Int.reduceEq, Int.reduceLE, Int.reduceLT, Int.reduceToNat, hb, h1, hw, h2, Nat.zero_le, Nat.le_refl, Int.natCast_nonneg]
    exact Fin.ret (.tupL ⟨.v, .v, trivial⟩)
theorem csuf2 (s : ByteArray) (c : UInt8) (hs : s.size ≤ 1000000) : AP Tryz.prog 10 [.s s, .s ⟨#[c]⟩] (csufD (csuf c s)) := by
  refine AC.lbody hT hm Tryz.func10 f10_nm f10_lc f10_res f10_nt ?_
  simp only [go_sem, Int.reduceEq, Int.reduceLE, Int.reduceLT, Int.reduceToNat]
  refine (csuf1 s c hs).pd ⟨.v, .v, trivial⟩ (csufD_bl _) ?_
  simp only [go_sem, Int.reduceEq, Int.reduceLE, Int.reduceLT, Int.reduceToNat]
  exact Fin.ret (.tupL ⟨.v, .v, trivial⟩)
end Go.Proofs.YtdliolbjngcgcaaGreatDoor.W
set_option maxRecDepth 100000
/- Names of rules. -/
namespace Go.Proofs.YtdliolbjngcgcaaGreatDoor.W
open Go Go.Proofs Go.Proofs.YtdliolbjngcgcaaGreatDoor.AWP
attribute [local irreducible] xl hide aop aops aopQ qops guardP condP
def okI (z : Bool) (C : Int) : Bool := (decide (97 ≤ C) && decide (C ≤ 122)) || (!z && (decide (C = 95) || (decide (48 ≤ C) && decide (C ≤ 57))))
theorem okB_I (i n : Nat) : okB i n = okI ((i : Int) == 0) n := by
  unfold okB okI
  congr 1
  · congr 1
    · exact decide_eq_decide.2 (by omega)
    · exact decide_eq_decide.2 (by omega)
  · congr 1
    · rw [Bool.eq_iff_iff]; simp
    · congr 1
      · exact decide_eq_decide.2 (by omega)
      · congr 1
        · exact decide_eq_decide.2 (by omega)
        · exact decide_eq_decide.2 (by omega)
theorem ba_len (s : ByteArray) : s.data.toList.length = s.size := Array.length_toList
set_option maxHeartbeats 1000000 in
theorem numName (s : ByteArray) (hs : s.size ≤ 1000000) : AP Tryz.prog 42 [.s s] (.b (nameB s)) := by
  have hln := ba_len s
  unfold nameB
  refine AC.lbody hT hm Tryz.func42 f42_nm f42_lc f42_res f42_nt ?_
  simp only [go_sem, Int.reduceEq, Int.reduceLE, Int.reduceLT, Int.reduceToNat]
  refine xl_loopM hT hm (fun i : Nat => ⟨f42_i7 (.s s) (.ref 0 0), [.it s i]⟩)
    (fun i => i ≤ s.size ∧ nameL 0 s.data.toList = nameL i (s.data.toList.drop i)) (fun i => s.size - i) 0 ⟨Nat.zero_le _, by rw [List.drop_zero]⟩ ?_ ?_
  · exact Mv.of [some 0] rfl ⟨.it rfl, trivial⟩ (by simp [f42_i7])
  rintro i ⟨hi, hinv⟩
  simp only [go_sem, Int.reduceEq, Int.reduceLE, Int.reduceLT, Int.reduceToNat]
  by_cases h : i < s.size
  case neg =>
    have hd : s.data.toList.drop i = [] := List.drop_eq_nil_of_le (by omega)
    rw [hinv, hd, nameL, Bool.true_and]
    by_cases p1 : 1 ≤ s.size
    · have q1 : (1 : Int) ≤ s.size := by omega
      by_cases p2 : s.size ≤ 30
      · have q2 : (s.size : Int) ≤ 30 := by omega
        simp only [go_sem, Int.reduceEq, Int.reduceLE, Int.reduceLT, Int.reduceToNat, h, p1, p2, q1, q2]
        exact Fin.v rfl
      · have q2 : ¬ (s.size : Int) ≤ 30 := by omega
        simp only [go_sem, Int.reduceEq, Int.reduceLE, Int.reduceLT, Int.reduceToNat, h, p1, p2, q1, q2]
        exact Fin.v rfl
    · have q1 : ¬ (1 : Int) ≤ s.size := by omega
      simp only [go_sem, Int.reduceEq, Int.reduceLE, Int.reduceLT, Int.reduceToNat, h, p1, q1]
      exact Fin.v (by simp)
  obtain ⟨b, hb⟩ := get_ex (l := s.data.toList) (show i < s.data.toList.length by omega)
  have hstep := nameL_drop _ _ _ hb
  rw [hstep] at hinv
  have hok : okB i b.toNat = okI ((i : Int) == 0) (Utf8.decode s i).1 := by
    by_cases hb1 : b.toNat < 128
    · rw [dec_lt h hb hb1, okB_I]
    · have := dec_ge h hb hb1
      rw [okB_I]
      unfold okI
      rw [Bool.eq_iff_iff]
      simp
      omega
  have hw : okI ((i : Int) == 0) (Utf8.decode s i).1 = true → (Utf8.decode s i).2 = 1 := by
    intro h0
    by_cases hb1 : b.toNat < 128
    · rw [dec_lt h hb hb1]
    · have := dec_ge h hb hb1
      unfold okI at h0
      simp at h0
      omega
  rw [hok] at hinv
  generalize (Utf8.decode s i).2 = w at hw
  generalize ((Utf8.decode s i).1 : Int) = C at hw hinv
  have no : okI ((i : Int) == 0) C = false → AWP.Fin [] [.it s (i + w)] (.ret (.v (.bool false))) (fun o' om' => o' = .ret (.b (nameL 0 s.data.toList && (decide (1 ≤ s.size) && decide (s.size ≤ 30)))) ∧ om' = []) := fun h0 => by
    rw [hinv, h0]
    exact Fin.v (by simp)
  have yes : okI ((i : Int) == 0) C = true → w = 1 ∧ nameL 0 s.data.toList = nameL (i + 1) (s.data.toList.drop (i + 1)) := fun h0 => ⟨hw h0, by rw [hinv, h0, Bool.true_and]⟩
  have hwi := wrap_succ i (by omega)
  have z95 : (C != 95) = !decide (C = 95) := by rw [Bool.eq_iff_iff]; simp
  clear hw
  by_cases a1 : 97 ≤ C <;> by_cases a2 : C ≤ 122 <;> cases a3 : ((i : Int) == 0) <;> by_cases a4 : C = 95 <;> by_cases a5 : C < 48 <;> by_cases a6 : 57 < C
  all_goals first
    | omega
    | (have h0 : okI ((i : Int) == 0) C = false := by
        unfold okI
        simp [a1, a2, a3, a4]
        try omega
       simp only [go_sem, Int.reduceEq, Int.reduceLE, Int.reduceLT, Int.reduceToNat, h, a1, a2, z95, a3, a4, a5, a6, decide_true, decide_false, Bool.not_true, Bool.not_false]
       exact no h0)
    | (have h0 : okI ((i : Int) == 0) C = true := by
        unfold okI
        simp [a1, a2, a3, a4]
        try omega
       obtain ⟨rfl, h1⟩ := yes h0
       simp only [go_sem, Int.reduceEq, Int.reduceLE, Int.reduceLT, Int.reduceToNat, h, a1, a2, z95, a3, a4, a5, a6, decide_true, decide_false, Bool.not_true, Bool.not_false]
       refine ⟨i + 1, ⟨h, h1⟩, by omega, ?_⟩
       exact Mv.of [some 0] rfl ⟨.it rfl, trivial⟩ (by simp))
end Go.Proofs.YtdliolbjngcgcaaGreatDoor.W
