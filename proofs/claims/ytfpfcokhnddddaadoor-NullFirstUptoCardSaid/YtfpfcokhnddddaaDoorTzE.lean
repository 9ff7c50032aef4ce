/- The law NullFirst. -/
import Derived.Test.YtfpfcokhnddddaaDoorTzA
import Derived.Test.YtfpfcokhnddddaaDoorMath
set_option linter.unusedVariables false
set_option linter.unusedSimpArgs false
set_option linter.unusedSectionVars false
set_option maxRecDepth 100000
/- The first one of the shortest texts. -/
namespace Go.Proofs.YtfpfcokhnddddaaDoor.W
open Go Go.Proofs Go.Proofs.YtfpfcokhnddddaaDoor.AWP
attribute [local irreducible] xl hide aop aops aopQ qops guardP condP

abbrev noT : ByteArray := ⟨#[]⟩
def shTwo (k : Int) (p q : ByteArray × Bool) : ByteArray × Bool :=
  if k = 4 then (if p.2 = true ∧ q.2 = true ∧ p.1.size + q.1.size ≤ 100 then (p.1 ++ q.1, true) else (noT, false))
  else if p.2 = false ∨ (q.2 = true ∧ lessB q.1 p.1 = true) then q else (p.1, true)
def shR : Re → ByteArray × Bool
  | .mk k _ _ _ _ [x, y] => shTwo k (shR x) (shR y)
  | .mk k a b c d _ => if k = 3 then (⟨#[UInt8.ofNat ((hasL [a, b, c, d] 256).headD 0)]⟩, true) else (noT, decide (k = 2 ∨ k = 6))
theorem shR_bare {k : Int} (hk : k = 1 ∨ k = 2) : shR (.mk k 0 0 0 0 []) = (noT, decide (k = 2 ∨ k = 6)) := by
  rw [shR]
  · rw [if_neg (by omega)]
  · intro x y h; cases h
theorem shR_cls (a b c d : Int) : shR (.mk 3 a b c d []) = (⟨#[UInt8.ofNat ((hasL [a, b, c, d] 256).headD 0)]⟩, true) := by
  rw [shR]
  · rw [if_pos rfl]
  · intro x y h; cases h
theorem shR_star (x : Re) : shR (.mk 6 0 0 0 0 [x]) = (noT, true) := by
  rw [shR]
  · rw [if_neg (by omega)]; simp
  · intro x y h; cases h
theorem shR_two (k : Int) (x y : Re) : shR (.mk k 0 0 0 0 [x, y]) = shTwo k (shR x) (shR y) := by rw [shR]
theorem shR_len (r : Re) : r.nodesOk = true → (shR r).1.size ≤ 100 := by
  refine Re.indOk (p := fun r => (shR r).1.size ≤ 100) ?_ ?_ ?_ ?_ r
  · intro k hk; rw [shR_bare hk]; exact Nat.zero_le _
  · intro a b c d _; rw [shR_cls]; show 1 ≤ 100; decide
  · intro k x y hk hx hy ihx ihy
    rw [shR_two]
    unfold shTwo
    split
    · split
      · rename_i h; rw [ByteArray.size_append]; exact h.2.2
      · decide
    · split
      · exact ihy
      · exact ihx
  · intro x _ _; rw [shR_star]; decide
theorem nShort (r : Re) : r.nodesOk = true → r.wd → AP Tryd.prog 33 [.agg r.c] (.tup [.s (shR r).1, .b (shR r).2]) := by
  refine Re.indOk (p := fun r => r.wd → AP Tryd.prog 33 [.agg r.c] (.tup [.s (shR r).1, .b (shR r).2])) ?_ ?_ ?_ ?_ r
  · intro k hk hw
    have e : shR (.mk k 0 0 0 0 []) = (noT, decide (k = 2 ∨ k = 6)) := by
      rw [shR]
      · rw [if_neg (by omega)]
      · intro x y h; cases h
    rw [e]
    refine AC.lbody hT hm Tryd.func33 f33_nm f33_lc f33_res f33_nt ?_
    rcases hk with rfl | rfl
    all_goals
      simp only [go_sem, Int.reduceEq, Int.reduceLE, Int.reduceLT, Int.reduceToNat, Re.c_mk, Int.reduceBEq]
      exact Fin.ret (.tupL ⟨.eq (by simp [noT]) (by simp), .eq (by simp) (by simp), trivial⟩)
  · intro a b c d hn hw
    have hws := Re.wd_set hw
    have e : shR (.mk 3 a b c d []) = (⟨#[UInt8.ofNat ((hasL [a, b, c, d] 256).headD 0)]⟩, true) := by
      rw [shR]
      · rw [if_pos rfl]
      · intro x y h; cases h
    rw [e]
    obtain ⟨ms, hms, h4, hlt⟩ := hws
    have hms' : [a, b, c, d] = ms.map (fun m : Nat => (m : Int)) := hms
    have hb := setBytes ms h4 hlt
    rw [← hasL_bytes ms h4 4 (Nat.le_refl _), ← hms'] at hb
    have ed : msD ms = .agg [.v (.int .u64 a), .v (.int .u64 b), .v (.int .u64 c), .v (.int .u64 d)] := by
      have : (ms.map fun m : Nat => D.v (.int .u64 (m : Int))) = (ms.map (fun m : Nat => (m : Int))).map wD := by simp [wD]
      unfold msD
      rw [this, ← hms']; rfl
    rw [show (D.agg (ms.map fun m : Nat => .v (.int .u64 (m : Int)))) = msD ms from rfl, ed] at hb
    have hne : hasL [a, b, c, d] 256 ≠ [] := by
      intro h0
      have hw4 : W64 [a, b, c, d] := ⟨ms, hms, h4, hlt⟩
      obtain ⟨n, hn1, hn2⟩ := set_bit hw4 (fun hh => hn (by have hh' : [a, b, c, d] = [0, 0, 0, 0] := hh; simpa using hh'))
      have : n ∈ hasL [a, b, c, d] 256 := List.mem_filter.2 ⟨List.mem_range.2 hn1, hn2⟩
      rw [h0] at this; cases this
    obtain ⟨z, t, hz⟩ := List.exists_cons_of_ne_nil hne
    have hz256 : z < 256 := by
      have : z ∈ hasL [a, b, c, d] 256 := by rw [hz]; simp
      exact List.mem_range.1 (List.mem_filter.1 this).1
    rw [show 64 * 4 = 256 from rfl, hz] at hb
    rw [hz, List.headD_cons]
    refine AC.lbody hT hm Tryd.func33 f33_nm f33_lc f33_res f33_nt ?_
    simp only [go_sem, Int.reduceEq, Int.reduceLE, Int.reduceLT, Int.reduceToNat, Re.c_mk, Int.reduceBEq]
    refine hb.pd ⟨.same (.agg (W_bl [a, b, c, d])), trivial⟩ (.sl (rowsN_bl _)) ?_
    have el : (rowsN (z :: t)) = [.v (.int .u8 (z : Int))] :: rowsN t := rfl
    simp only [go_sem, Int.reduceEq, Int.reduceLE, Int.reduceLT, Int.reduceToNat, el]
    have hbr : bytesOfRows [[.v (.int .u8 (z : Int))]] = some [UInt8.ofNat z] := by
      have : (z : Int) < 256 := by omega
      simp [bytesOfRows, this]
    simp only [go_sem, Int.reduceEq, Int.reduceLE, Int.reduceLT, Int.reduceToNat, hbr]
    exact Fin.ret (.tupL ⟨.v, .v, trivial⟩)
  · intro k x y hk hx hy ihx ihy hw
    obtain ⟨w1, w2⟩ := wd2 hw
    have h1 := ihx w1
    have h2 := ihy w2
    have z1 := shR_len x hx
    have z2 := shR_len y hy
    rw [shR_two]
    generalize shR x = p at *
    generalize shR y = q at *
    obtain ⟨p, pb⟩ := p
    obtain ⟨q, qb⟩ := q
    simp only at z1 z2
    have hl := nLess q p
    have hw1 : IntKind.wrap .i64 ((p.size : Int) + (q.size : Int)) = ((p.size + q.size : Nat) : Int) := by rw [wrap_int _ (by omega) (by omega)]; omega
    have hsz : p.size + q.size ≤ 9223372036854775807 := by omega
    rcases hk with rfl | rfl
    · cases pb with
      | false =>
        refine AC.lbody hT hm Tryd.func33 f33_nm f33_lc f33_res f33_nt ?_
        simp only [go_sem, Int.reduceEq, Int.reduceLE, Int.reduceLT, Int.reduceToNat, Re.c_mk, Int.reduceBEq]
        refine h1.pd ⟨.same (Re.d_bl _), trivial⟩ (by simp) ?_
        simp only [go_sem, Int.reduceEq, Int.reduceLE, Int.reduceLT, Int.reduceToNat]
        refine h2.pd ⟨.same (Re.d_bl _), trivial⟩ (by simp) ?_
        simp only [go_sem, Int.reduceEq, Int.reduceLE, Int.reduceLT, Int.reduceToNat, Int.reduceBEq, Bool.not_false]
        exact Fin.ret (.tupL ⟨.eq (by simp [noT, shTwo]) (by simp), .eq (by simp [shTwo]) (by simp), trivial⟩)
      | true =>
        cases qb with
        | false =>
          refine AC.lbody hT hm Tryd.func33 f33_nm f33_lc f33_res f33_nt ?_
          simp only [go_sem, Int.reduceEq, Int.reduceLE, Int.reduceLT, Int.reduceToNat, Re.c_mk, Int.reduceBEq]
          refine h1.pd ⟨.same (Re.d_bl _), trivial⟩ (by simp) ?_
          simp only [go_sem, Int.reduceEq, Int.reduceLE, Int.reduceLT, Int.reduceToNat]
          refine h2.pd ⟨.same (Re.d_bl _), trivial⟩ (by simp) ?_
          simp only [go_sem, Int.reduceEq, Int.reduceLE, Int.reduceLT, Int.reduceToNat, Int.reduceBEq, Bool.not_false, Bool.not_true]
          exact Fin.ret (.tupL ⟨.eq (by simp [noT, shTwo]) (by simp), .eq (by simp [shTwo]) (by simp), trivial⟩)
        | true =>
          by_cases hs : p.size + q.size ≤ 100
          · have hg : decide ((100 : Int) < ((p.size + q.size : Nat) : Int)) = false := by simp; omega
            refine AC.lbody hT hm Tryd.func33 f33_nm f33_lc f33_res f33_nt ?_
            simp only [go_sem, Int.reduceEq, Int.reduceLE, Int.reduceLT, Int.reduceToNat, Re.c_mk, Int.reduceBEq]
            refine h1.pd ⟨.same (Re.d_bl _), trivial⟩ (by simp) ?_
            simp only [go_sem, Int.reduceEq, Int.reduceLE, Int.reduceLT, Int.reduceToNat]
            refine h2.pd ⟨.same (Re.d_bl _), trivial⟩ (by simp) ?_
            simp only [go_sem, Int.reduceEq, Int.reduceLE, Int.reduceLT, Int.reduceToNat, Int.reduceBEq, Bool.not_true, hw1, hg, if_pos hsz]
            exact Fin.ret (.tupL ⟨.eq (by simp [shTwo, hs]) (by simp), .eq (by simp [shTwo, hs]) (by simp), trivial⟩)
          · have hg : decide ((100 : Int) < ((p.size + q.size : Nat) : Int)) = true := by simp; omega
            refine AC.lbody hT hm Tryd.func33 f33_nm f33_lc f33_res f33_nt ?_
            simp only [go_sem, Int.reduceEq, Int.reduceLE, Int.reduceLT, Int.reduceToNat, Re.c_mk, Int.reduceBEq]
            refine h1.pd ⟨.same (Re.d_bl _), trivial⟩ (by simp) ?_
            simp only [go_sem, Int.reduceEq, Int.reduceLE, Int.reduceLT, Int.reduceToNat]
            refine h2.pd ⟨.same (Re.d_bl _), trivial⟩ (by simp) ?_
            simp only [go_sem, Int.reduceEq, Int.reduceLE, Int.reduceLT, Int.reduceToNat, Int.reduceBEq, Bool.not_true, hw1, hg]
            exact Fin.ret (.tupL ⟨.eq (by simp [noT, shTwo, hs]) (by simp), .eq (by simp [shTwo, hs]) (by simp), trivial⟩)
    · cases pb with
      | false =>
        refine AC.lbody hT hm Tryd.func33 f33_nm f33_lc f33_res f33_nt ?_
        simp only [go_sem, Int.reduceEq, Int.reduceLE, Int.reduceLT, Int.reduceToNat, Re.c_mk, Int.reduceBEq]
        refine h1.pd ⟨.same (Re.d_bl _), trivial⟩ (by simp) ?_
        simp only [go_sem, Int.reduceEq, Int.reduceLE, Int.reduceLT, Int.reduceToNat]
        refine h2.pd ⟨.same (Re.d_bl _), trivial⟩ (by simp) ?_
        simp only [go_sem, Int.reduceEq, Int.reduceLE, Int.reduceLT, Int.reduceToNat, Int.reduceBEq, Bool.not_false]
        exact Fin.ret (.tupL ⟨.eq (by simp [shTwo]) (by simp), .eq (by simp [shTwo]) (by simp), trivial⟩)
      | true =>
        cases qb with
        | false =>
          refine AC.lbody hT hm Tryd.func33 f33_nm f33_lc f33_res f33_nt ?_
          simp only [go_sem, Int.reduceEq, Int.reduceLE, Int.reduceLT, Int.reduceToNat, Re.c_mk, Int.reduceBEq]
          refine h1.pd ⟨.same (Re.d_bl _), trivial⟩ (by simp) ?_
          simp only [go_sem, Int.reduceEq, Int.reduceLE, Int.reduceLT, Int.reduceToNat]
          refine h2.pd ⟨.same (Re.d_bl _), trivial⟩ (by simp) ?_
          simp only [go_sem, Int.reduceEq, Int.reduceLE, Int.reduceLT, Int.reduceToNat, Int.reduceBEq, Bool.not_true]
          exact Fin.ret (.tupL ⟨.eq (by simp [shTwo]) (by simp), .eq (by simp [shTwo]) (by simp), trivial⟩)
        | true =>
          cases hlb : lessB q p with
          | false =>
            rw [hlb] at hl
            refine AC.lbody hT hm Tryd.func33 f33_nm f33_lc f33_res f33_nt ?_
            simp only [go_sem, Int.reduceEq, Int.reduceLE, Int.reduceLT, Int.reduceToNat, Re.c_mk, Int.reduceBEq]
            refine h1.pd ⟨.same (Re.d_bl _), trivial⟩ (by simp) ?_
            simp only [go_sem, Int.reduceEq, Int.reduceLE, Int.reduceLT, Int.reduceToNat]
            refine h2.pd ⟨.same (Re.d_bl _), trivial⟩ (by simp) ?_
            simp only [go_sem, Int.reduceEq, Int.reduceLE, Int.reduceLT, Int.reduceToNat, Int.reduceBEq, Bool.not_true]
            refine hl.pv (by simp) ?_
            simp only [go_sem, Int.reduceEq, Int.reduceLE, Int.reduceLT, Int.reduceToNat]
            exact Fin.ret (.tupL ⟨.eq (by simp [shTwo, hlb]) (by simp), .eq (by simp [shTwo, hlb]) (by simp), trivial⟩)
          | true =>
            rw [hlb] at hl
            refine AC.lbody hT hm Tryd.func33 f33_nm f33_lc f33_res f33_nt ?_
            simp only [go_sem, Int.reduceEq, Int.reduceLE, Int.reduceLT, Int.reduceToNat, Re.c_mk, Int.reduceBEq]
            refine h1.pd ⟨.same (Re.d_bl _), trivial⟩ (by simp) ?_
            simp only [go_sem, Int.reduceEq, Int.reduceLE, Int.reduceLT, Int.reduceToNat]
            refine h2.pd ⟨.same (Re.d_bl _), trivial⟩ (by simp) ?_
            simp only [go_sem, Int.reduceEq, Int.reduceLE, Int.reduceLT, Int.reduceToNat, Int.reduceBEq, Bool.not_true]
            refine hl.pv (by simp) ?_
            simp only [go_sem, Int.reduceEq, Int.reduceLE, Int.reduceLT, Int.reduceToNat]
            exact Fin.ret (.tupL ⟨.eq (by simp [shTwo, hlb]) (by simp), .eq (by simp [shTwo, hlb]) (by simp), trivial⟩)
  · intro x hx ih hw
    have e : shR (.mk 6 0 0 0 0 [x]) = (noT, true) := by
      rw [shR]
      · rw [if_neg (by omega)]; simp
      · intro x y h; cases h
    rw [e]
    refine AC.lbody hT hm Tryd.func33 f33_nm f33_lc f33_res f33_nt ?_
    simp only [go_sem, Int.reduceEq, Int.reduceLE, Int.reduceLT, Int.reduceToNat, Re.c_mk, Int.reduceBEq]
    exact Fin.ret (.tupL ⟨.eq (by simp [noT]) (by simp), .eq (by simp) (by simp), trivial⟩)
end Go.Proofs.YtfpfcokhnddddaaDoor.W

set_option maxRecDepth 100000
/- The document's: the first one of the shortest texts. -/
namespace Go.Proofs.YtfpfcokhnddddaaDoor.W
open Go Go.Proofs Go.Proofs.YtfpfcokhnddddaaDoor.AWP
attribute [local irreducible] xl hide aop aops aopQ qops guardP condP

theorem rShort (r : Re) : r.nodesOk = true → r.wd → AP Tryd.prog 34 [.agg r.c] (.tup [.s (shR r).1, .b (shR r).2]) := by
  refine Re.indOk (p := fun r => r.wd → AP Tryd.prog 34 [.agg r.c] (.tup [.s (shR r).1, .b (shR r).2])) ?_ ?_ ?_ ?_ r
  · intro k hk hw
    have e : shR (.mk k 0 0 0 0 []) = (noT, decide (k = 2 ∨ k = 6)) := by
      rw [shR]
      · rw [if_neg (by omega)]
      · intro x y h; cases h
    rw [e]
    refine AC.lbody hT hm Tryd.func34 f34_nm f34_lc f34_res f34_nt ?_
    rcases hk with rfl | rfl
    all_goals
      simp only [go_sem, Int.reduceEq, Int.reduceLE, Int.reduceLT, Int.reduceToNat, Re.c_mk, Int.reduceBEq]
      exact Fin.ret (.tupL ⟨.eq (by simp [noT]) (by simp), .eq (by simp) (by simp), trivial⟩)
  · intro a b c d hn hw
    rw [shR_cls]
    have hb := rBytes [a, b, c, d] (Re.wd_set hw)
    have hne : hasL [a, b, c, d] 256 ≠ [] := by
      intro h0
      have hw4 : W64 [a, b, c, d] := Re.wd_set hw
      obtain ⟨n, hn1, hn2⟩ := set_bit hw4 (fun hh => hn (by have hh' : [a, b, c, d] = [0, 0, 0, 0] := hh; simpa using hh'))
      have : n ∈ hasL [a, b, c, d] 256 := List.mem_filter.2 ⟨List.mem_range.2 hn1, hn2⟩
      rw [h0] at this; cases this
    obtain ⟨z, t, hz⟩ := List.exists_cons_of_ne_nil hne
    have hz256 : z < 256 := by
      have : z ∈ hasL [a, b, c, d] 256 := by rw [hz]; simp
      exact List.mem_range.1 (List.mem_filter.1 this).1
    rw [hz] at hb
    rw [hz, List.headD_cons]
    refine AC.lbody hT hm Tryd.func34 f34_nm f34_lc f34_res f34_nt ?_
    simp only [go_sem, Int.reduceEq, Int.reduceLE, Int.reduceLT, Int.reduceToNat, Re.c_mk, Int.reduceBEq]
    refine hb.pd ⟨.same (.agg (W_bl [a, b, c, d])), trivial⟩ (.sl (rowsN_bl _)) ?_
    have el : (rowsN (z :: t)) = [.v (.int .u8 (z : Int))] :: rowsN t := rfl
    simp only [go_sem, Int.reduceEq, Int.reduceLE, Int.reduceLT, Int.reduceToNat, el]
    have hbr : bytesOfRows [[.v (.int .u8 (z : Int))]] = some [UInt8.ofNat z] := by
      have : (z : Int) < 256 := by omega
      simp [bytesOfRows, this]
    simp only [go_sem, Int.reduceEq, Int.reduceLE, Int.reduceLT, Int.reduceToNat, hbr]
    exact Fin.ret (.tupL ⟨.v, .v, trivial⟩)
  · intro k x y hk hx hy ihx ihy hw
    obtain ⟨w1, w2⟩ := wd2 hw
    have h1 := ihx w1
    have h2 := ihy w2
    have z1 := shR_len x hx
    have z2 := shR_len y hy
    rw [shR_two]
    generalize shR x = p at *
    generalize shR y = q at *
    obtain ⟨p, pb⟩ := p
    obtain ⟨q, qb⟩ := q
    simp only at z1 z2
    have hl := rAhead q p (by omega)
    have hw1 : IntKind.wrap .i64 ((p.size : Int) + (q.size : Int)) = ((p.size + q.size : Nat) : Int) := by rw [wrap_int _ (by omega) (by omega)]; omega
    have hsz : p.size + q.size ≤ 9223372036854775807 := by omega
    rcases hk with rfl | rfl
    · cases pb with
      | false =>
        refine AC.lbody hT hm Tryd.func34 f34_nm f34_lc f34_res f34_nt ?_
        simp only [go_sem, Int.reduceEq, Int.reduceLE, Int.reduceLT, Int.reduceToNat, Re.c_mk, Int.reduceBEq]
        refine h1.pd ⟨.same (Re.d_bl _), trivial⟩ (by simp) ?_
        simp only [go_sem, Int.reduceEq, Int.reduceLE, Int.reduceLT, Int.reduceToNat]
        refine h2.pd ⟨.same (Re.d_bl _), trivial⟩ (by simp) ?_
        simp only [go_sem, Int.reduceEq, Int.reduceLE, Int.reduceLT, Int.reduceToNat, Int.reduceBEq, Bool.not_false]
        exact Fin.ret (.tupL ⟨.eq (by simp [noT, shTwo]) (by simp), .eq (by simp [shTwo]) (by simp), trivial⟩)
      | true =>
        cases qb with
        | false =>
          refine AC.lbody hT hm Tryd.func34 f34_nm f34_lc f34_res f34_nt ?_
          simp only [go_sem, Int.reduceEq, Int.reduceLE, Int.reduceLT, Int.reduceToNat, Re.c_mk, Int.reduceBEq]
          refine h1.pd ⟨.same (Re.d_bl _), trivial⟩ (by simp) ?_
          simp only [go_sem, Int.reduceEq, Int.reduceLE, Int.reduceLT, Int.reduceToNat]
          refine h2.pd ⟨.same (Re.d_bl _), trivial⟩ (by simp) ?_
          simp only [go_sem, Int.reduceEq, Int.reduceLE, Int.reduceLT, Int.reduceToNat, Int.reduceBEq, Bool.not_false, Bool.not_true]
          exact Fin.ret (.tupL ⟨.eq (by simp [noT, shTwo]) (by simp), .eq (by simp [shTwo]) (by simp), trivial⟩)
        | true =>
          by_cases hs : p.size + q.size ≤ 100
          · have hg : decide (((p.size + q.size : Nat) : Int) ≤ 100) = true := by simp; omega
            refine AC.lbody hT hm Tryd.func34 f34_nm f34_lc f34_res f34_nt ?_
            simp only [go_sem, Int.reduceEq, Int.reduceLE, Int.reduceLT, Int.reduceToNat, Re.c_mk, Int.reduceBEq]
            refine h1.pd ⟨.same (Re.d_bl _), trivial⟩ (by simp) ?_
            simp only [go_sem, Int.reduceEq, Int.reduceLE, Int.reduceLT, Int.reduceToNat]
            refine h2.pd ⟨.same (Re.d_bl _), trivial⟩ (by simp) ?_
            simp only [go_sem, Int.reduceEq, Int.reduceLE, Int.reduceLT, Int.reduceToNat, Int.reduceBEq, Bool.not_true, hw1, hg, if_pos hsz]
            exact Fin.ret (.tupL ⟨.eq (by simp [shTwo, hs]) (by simp), .eq (by simp [shTwo, hs]) (by simp), trivial⟩)
          · have hg : decide (((p.size + q.size : Nat) : Int) ≤ 100) = false := by simp; omega
            refine AC.lbody hT hm Tryd.func34 f34_nm f34_lc f34_res f34_nt ?_
            simp only [go_sem, Int.reduceEq, Int.reduceLE, Int.reduceLT, Int.reduceToNat, Re.c_mk, Int.reduceBEq]
            refine h1.pd ⟨.same (Re.d_bl _), trivial⟩ (by simp) ?_
            simp only [go_sem, Int.reduceEq, Int.reduceLE, Int.reduceLT, Int.reduceToNat]
            refine h2.pd ⟨.same (Re.d_bl _), trivial⟩ (by simp) ?_
            simp only [go_sem, Int.reduceEq, Int.reduceLE, Int.reduceLT, Int.reduceToNat, Int.reduceBEq, Bool.not_true, hw1, hg]
            exact Fin.ret (.tupL ⟨.eq (by simp [noT, shTwo, hs]) (by simp), .eq (by simp [shTwo, hs]) (by simp), trivial⟩)
    · cases pb with
      | false =>
        refine AC.lbody hT hm Tryd.func34 f34_nm f34_lc f34_res f34_nt ?_
        simp only [go_sem, Int.reduceEq, Int.reduceLE, Int.reduceLT, Int.reduceToNat, Re.c_mk, Int.reduceBEq]
        refine h1.pd ⟨.same (Re.d_bl _), trivial⟩ (by simp) ?_
        simp only [go_sem, Int.reduceEq, Int.reduceLE, Int.reduceLT, Int.reduceToNat]
        refine h2.pd ⟨.same (Re.d_bl _), trivial⟩ (by simp) ?_
        simp only [go_sem, Int.reduceEq, Int.reduceLE, Int.reduceLT, Int.reduceToNat, Int.reduceBEq, Bool.not_false]
        exact Fin.ret (.tupL ⟨.eq (by simp [shTwo]) (by simp), .eq (by simp [shTwo]) (by simp), trivial⟩)
      | true =>
        cases qb with
        | false =>
          refine AC.lbody hT hm Tryd.func34 f34_nm f34_lc f34_res f34_nt ?_
          simp only [go_sem, Int.reduceEq, Int.reduceLE, Int.reduceLT, Int.reduceToNat, Re.c_mk, Int.reduceBEq]
          refine h1.pd ⟨.same (Re.d_bl _), trivial⟩ (by simp) ?_
          simp only [go_sem, Int.reduceEq, Int.reduceLE, Int.reduceLT, Int.reduceToNat]
          refine h2.pd ⟨.same (Re.d_bl _), trivial⟩ (by simp) ?_
          simp only [go_sem, Int.reduceEq, Int.reduceLE, Int.reduceLT, Int.reduceToNat, Int.reduceBEq, Bool.not_true]
          exact Fin.ret (.tupL ⟨.eq (by simp [shTwo]) (by simp), .eq (by simp [shTwo]) (by simp), trivial⟩)
        | true =>
          cases hlb : lessB q p with
          | false =>
            rw [hlb] at hl
            refine AC.lbody hT hm Tryd.func34 f34_nm f34_lc f34_res f34_nt ?_
            simp only [go_sem, Int.reduceEq, Int.reduceLE, Int.reduceLT, Int.reduceToNat, Re.c_mk, Int.reduceBEq]
            refine h1.pd ⟨.same (Re.d_bl _), trivial⟩ (by simp) ?_
            simp only [go_sem, Int.reduceEq, Int.reduceLE, Int.reduceLT, Int.reduceToNat]
            refine h2.pd ⟨.same (Re.d_bl _), trivial⟩ (by simp) ?_
            simp only [go_sem, Int.reduceEq, Int.reduceLE, Int.reduceLT, Int.reduceToNat, Int.reduceBEq, Bool.not_true]
            refine hl.pv (by simp) ?_
            simp only [go_sem, Int.reduceEq, Int.reduceLE, Int.reduceLT, Int.reduceToNat]
            exact Fin.ret (.tupL ⟨.eq (by simp [shTwo, hlb]) (by simp), .eq (by simp [shTwo, hlb]) (by simp), trivial⟩)
          | true =>
            rw [hlb] at hl
            refine AC.lbody hT hm Tryd.func34 f34_nm f34_lc f34_res f34_nt ?_
            simp only [go_sem, Int.reduceEq, Int.reduceLE, Int.reduceLT, Int.reduceToNat, Re.c_mk, Int.reduceBEq]
            refine h1.pd ⟨.same (Re.d_bl _), trivial⟩ (by simp) ?_
            simp only [go_sem, Int.reduceEq, Int.reduceLE, Int.reduceLT, Int.reduceToNat]
            refine h2.pd ⟨.same (Re.d_bl _), trivial⟩ (by simp) ?_
            simp only [go_sem, Int.reduceEq, Int.reduceLE, Int.reduceLT, Int.reduceToNat, Int.reduceBEq, Bool.not_true]
            refine hl.pv (by simp) ?_
            simp only [go_sem, Int.reduceEq, Int.reduceLE, Int.reduceLT, Int.reduceToNat]
            exact Fin.ret (.tupL ⟨.eq (by simp [shTwo, hlb]) (by simp), .eq (by simp [shTwo, hlb]) (by simp), trivial⟩)
  · intro x hx ih hw
    have e : shR (.mk 6 0 0 0 0 [x]) = (noT, true) := by
      rw [shR]
      · rw [if_neg (by omega)]; simp
      · intro x y h; cases h
    rw [e]
    refine AC.lbody hT hm Tryd.func34 f34_nm f34_lc f34_res f34_nt ?_
    simp only [go_sem, Int.reduceEq, Int.reduceLE, Int.reduceLT, Int.reduceToNat, Re.c_mk, Int.reduceBEq]
    exact Fin.ret (.tupL ⟨.eq (by simp [noT]) (by simp), .eq (by simp) (by simp), trivial⟩)
end Go.Proofs.YtfpfcokhnddddaaDoor.W

set_option maxRecDepth 100000
/- The first one of the shortest texts, of what may be; it begins with a first byte. -/
namespace Go.Proofs.YtfpfcokhnddddaaDoor.W
open Go Go.Proofs Go.Proofs.YtfpfcokhnddddaaDoor.AWP
attribute [local irreducible] xl hide aop aops aopQ qops guardP condP

def shB (r : Re) : ByteArray × Bool := if mayB r = true then shR r else (noT, false)
theorem nShortest (r : Re) (hz : r.sz ≤ 1048576) (hw : r.wd) : AP Tryd.prog 10 [.agg r.c] (.tup [.s (shB r).1, .b (shB r).2]) := by
  have hmy := may r (by omega)
  unfold shB
  rcases mayCase r with h | h
  · rw [h] at hmy
    rw [if_neg (by simp [h])]
    refine AC.lbody hT hm Tryd.func10 f10_nm f10_lc f10_res f10_nt ?_
    simp only [go_sem, Int.reduceEq, Int.reduceLE, Int.reduceLT, Int.reduceToNat]
    refine hmy.pv ⟨.same (Res_bl' [r]), trivial⟩ ?_
    simp only [go_sem, Int.reduceEq, Int.reduceLE, Int.reduceLT, Int.reduceToNat, Bool.not_false]
    exact Fin.ret (.tupL ⟨.v, .v, trivial⟩)
  · have hs := nShort r (mayZ h).1 hw
    rw [h] at hmy
    rw [if_pos h]
    generalize shR r = p at *
    refine AC.lbody hT hm Tryd.func10 f10_nm f10_lc f10_res f10_nt ?_
    simp only [go_sem, Int.reduceEq, Int.reduceLE, Int.reduceLT, Int.reduceToNat]
    refine hmy.pv ⟨.same (Res_bl' [r]), trivial⟩ ?_
    simp only [go_sem, Int.reduceEq, Int.reduceLE, Int.reduceLT, Int.reduceToNat, Bool.not_true]
    refine hs.pd ⟨.same (Re.d_bl _), trivial⟩ (by simp) ?_
    simp only [go_sem, Int.reduceEq, Int.reduceLE, Int.reduceLT, Int.reduceToNat]
    exact Fin.ret (.tupL ⟨.v, .v, trivial⟩)
theorem rShortest (r : Re) (hz : r.sz ≤ 1048576) (hw : r.wd) : AP Tryd.prog 11 [.agg r.c] (.tup [.s (shB r).1, .b (shB r).2]) := by
  have hmy := rMay r (by omega)
  unfold shB
  rcases mayCase r with h | h
  · rw [h] at hmy
    rw [if_neg (by simp [h])]
    refine AC.lbody hT hm Tryd.func11 f11_nm f11_lc f11_res f11_nt ?_
    simp only [go_sem, Int.reduceEq, Int.reduceLE, Int.reduceLT, Int.reduceToNat]
    refine hmy.pv ⟨.same (Re.d_bl _), trivial⟩ ?_
    simp only [go_sem, Int.reduceEq, Int.reduceLE, Int.reduceLT, Int.reduceToNat, Bool.not_false]
    exact Fin.ret (.tupL ⟨.v, .v, trivial⟩)
  · have hs := rShort r (mayZ h).1 hw
    rw [h] at hmy
    rw [if_pos h]
    generalize shR r = p at *
    refine AC.lbody hT hm Tryd.func11 f11_nm f11_lc f11_res f11_nt ?_
    simp only [go_sem, Int.reduceEq, Int.reduceLE, Int.reduceLT, Int.reduceToNat]
    refine hmy.pv ⟨.same (Re.d_bl _), trivial⟩ ?_
    simp only [go_sem, Int.reduceEq, Int.reduceLE, Int.reduceLT, Int.reduceToNat, Bool.not_true]
    refine hs.pd ⟨.same (Re.d_bl _), trivial⟩ (by simp) ?_
    simp only [go_sem, Int.reduceEq, Int.reduceLE, Int.reduceLT, Int.reduceToNat]
    exact Fin.ret (.tupL ⟨.v, .v, trivial⟩)
/-- A text's first byte. -/
def hd0 (w : ByteArray) : Nat := (w.data.getD 0 0).toNat
theorem sh_first (r : Re) : r.nodesOk = true → r.wd → (shR r).2 = true → r.fit = true ∧ ((shR r).1.size = 0 → r.nul = true) ∧ ((shR r).1.size ≠ 0 → r.hf (hd0 (shR r).1) = true) := by
  refine Re.indOk (p := fun r => r.wd → (shR r).2 = true → r.fit = true ∧ ((shR r).1.size = 0 → r.nul = true) ∧ ((shR r).1.size ≠ 0 → r.hf (hd0 (shR r).1) = true)) ?_ ?_ ?_ ?_ r
  · intro k hk hw h
    rw [shR_bare hk] at h ⊢
    rcases hk with rfl | rfl
    · simp at h
    · exact ⟨by rw [fit_leaf]; rfl, fun _ => by rw [nul_leaf]; rfl, fun h => absurd rfl h⟩
  · intro a b c d hn hw h
    rw [shR_cls]
    refine ⟨by rw [fit_leaf]; simp, (fun h => absurd (show (1 : Nat) = 0 from h) (by omega)), fun _ => ?_⟩
    obtain ⟨n, hn1, hn2⟩ := set_bit (Re.wd_set hw) (fun hh => hn (by have hh' : [a, b, c, d] = [0, 0, 0, 0] := hh; simpa using hh'))
    have hm : n ∈ hasL [a, b, c, d] 256 := List.mem_filter.2 ⟨List.mem_range.2 hn1, hn2⟩
    obtain ⟨z, t, hz⟩ : ∃ z t, hasL [a, b, c, d] 256 = z :: t := List.exists_cons_of_ne_nil (by intro h0; rw [h0] at hm; cases hm)
    have hzm : z ∈ hasL [a, b, c, d] 256 := by rw [hz]; simp
    obtain ⟨q1, q2⟩ := List.mem_filter.1 hzm
    have hz256 : z < 256 := List.mem_range.1 q1
    rw [Re.hf, fst_cls, hz]
    have e : hd0 ⟨#[UInt8.ofNat z]⟩ = z := by
      show (UInt8.ofNat z).toNat = z
      rw [UInt8.toNat_ofNat']; omega
    rw [List.headD_cons, e]
    exact q2
  · intro k x y hk hx hy ihx ihy hw h
    obtain ⟨w1, w2⟩ := wd2 hw
    have i1 := ihx w1
    have i2 := ihy w2
    have lt : ∀ w : ByteArray, hd0 w < 256 := fun w => (w.data.getD 0 0).toNat_lt
    have f1 := fst_w64 x hx w1
    have f2 := fst_w64 y hy w2
    rw [shR_two] at h ⊢
    rw [fit_two _ _ _ hk, nul_two _ _ _ hk]
    generalize shR x = p at *
    generalize shR y = q at *
    obtain ⟨p, pb⟩ := p
    obtain ⟨q, qb⟩ := q
    rcases hk with rfl | rfl
    · simp only [shTwo, if_true] at h ⊢
      split at h
      · rename_i hc
        simp only at hc i1 i2
        obtain ⟨a1, a2, a3⟩ := i1 hc.1
        obtain ⟨b1, b2, b3⟩ := i2 hc.2.1
        rw [if_pos hc]
        refine ⟨by simp [a1, b1], fun hs => ?_, fun hs => ?_⟩
        · simp only [ByteArray.size_append] at hs
          simp [a2 (by omega), b2 (by omega)]
        · simp only [ByteArray.size_append] at hs
          rw [hf_seq (lt _) f1 f2, a1, b1]
          by_cases hp : p.size = 0
          · have ep : p ++ q = q := by
              have hp0 : p.data = #[] := Array.eq_empty_of_size_eq_zero hp
              apply ByteArray.ext
              rw [ByteArray.data_append, hp0, Array.empty_append]
            rw [ep, a2 hp, b3 (by omega)]; simp
          · have e : hd0 (p ++ q) = hd0 p := by
              unfold hd0
              have hp' : 0 < p.data.size := Nat.pos_of_ne_zero hp
              rw [Array.getD_eq_getD_getElem?, Array.getD_eq_getD_getElem?, ByteArray.data_append, Array.getElem?_append_left hp']
            rw [e, a3 hp]; simp
      · simp at h
    · have e5 : shTwo 5 (p, pb) (q, qb) = if pb = false ∨ (qb = true ∧ lessB q p = true) then (q, qb) else (p, true) := by simp [shTwo]
      rw [e5] at h ⊢
      rw [if_neg (show ¬ (5 : Int) = 4 by omega), if_neg (show ¬ (5 : Int) = 4 by omega)]
      split at h
      · rename_i hc
        rw [if_pos hc]
        obtain ⟨b1, b2, b3⟩ := i2 h
        refine ⟨by simp [b1], fun hs => by simp [b2 hs], fun hs => ?_⟩
        rw [hf_alt (lt _) f1 f2]
        have := b3 hs
        simp only at this ⊢
        rw [this]; simp
      · rename_i hc
        rw [if_neg hc]
        have hpb : pb = true := by
          cases pb
          · exact absurd (.inl rfl) hc
          · rfl
        obtain ⟨a1, a2, a3⟩ := i1 hpb
        refine ⟨by simp [a1], fun hs => by simp [a2 hs], fun hs => ?_⟩
        rw [hf_alt (lt _) f1 f2]
        have := a3 hs
        simp only at this ⊢
        rw [this]; simp
  · intro x hx ih hw h
    rw [shR_star]
    exact ⟨fit_star x, fun _ => nul_star x, fun h => absurd rfl h⟩
end Go.Proofs.YtfpfcokhnddddaaDoor.W

set_option maxRecDepth 100000
/- The document's first bytes. -/
namespace Go.Proofs.YtfpfcokhnddddaaDoor.W
open Go Go.Proofs Go.Proofs.YtfpfcokhnddddaaDoor.AWP
attribute [local irreducible] xl hide aop aops aopQ qops guardP condP

theorem fst_unfit {r : Re} (h : r.nodesOk = true) (hw : r.wd) (hf : r.fit = false) : r.fst = noneS := by
  refine (fst_w64 r h hw).ext W64.none fun n hn => ?_
  rw [hasB_none n hn, Bool.eq_false_iff]
  intro hh
  rw [hf_fit hn r h hw hh] at hf
  cases hf
theorem Ws4 {a b c d : Int} {om : List Ob} {R : Out → List Ob → Prop} {s : List Int} (e : [a, b, c, d] = s) (hR : R = fun o om' => o = .ret (Ws s) ∧ om' = []) : AWP.Fin [] om (.ret (.agg [wD a, wD b, wD c, wD d])) R := by
  subst hR; subst e
  exact Fin.ret (Cv.same (.agg (W_bl [a, b, c, d])))
theorem rBegins (r : Re) : r.nodesOk = true → r.wd → AP Tryd.prog 35 [.agg r.c] (Ws r.fst) := by
  refine Re.indOk (p := fun r => r.wd → AP Tryd.prog 35 [.agg r.c] (Ws r.fst)) ?_ ?_ ?_ ?_ r
  · intro k hk hw
    have hf := rFit (.mk k 0 0 0 0 []) (nodesOk_bare hk)
    rw [fit_leaf] at hf
    rw [fst_leaf k hk]
    refine AC.lbody hT hm Tryd.func35 f35_nm f35_lc f35_res f35_nt ?_
    rcases hk with rfl | rfl
    · simp only [go_sem, Int.reduceEq, Int.reduceLE, Int.reduceLT, Int.reduceToNat, Re.c_mk, Int.reduceBEq]
      refine hf.pv (by simp [Re.c_mk, Re.cs_eq]) ?_
      have e1 : decide (¬ (1 : Int) = 1) = false := by decide
      simp only [go_sem, Int.reduceEq, Int.reduceLE, Int.reduceLT, Int.reduceToNat, ne_eq, e1, Bool.not_false]
      exact Ws4 (s := noneS) rfl rfl
    · simp only [go_sem, Int.reduceEq, Int.reduceLE, Int.reduceLT, Int.reduceToNat, Re.c_mk, Int.reduceBEq]
      refine hf.pv (by simp [Re.c_mk, Re.cs_eq]) ?_
      have e1 : decide (¬ (2 : Int) = 1) = true := by decide
      have e2 : (((0 : Nat) : Int) == 0) = true := rfl
      simp only [go_sem, Int.reduceEq, Int.reduceLE, Int.reduceLT, Int.reduceToNat, ne_eq, e1, Bool.not_true, List.map_nil, List.length_nil, e2]
      exact Ws4 (s := noneS) rfl rfl
  · intro a b c d hn hw
    rw [fst_cls]
    refine AC.lbody hT hm Tryd.func35 f35_nm f35_lc f35_res f35_nt ?_
    simp only [go_sem, Int.reduceEq, Int.reduceLE, Int.reduceLT, Int.reduceToNat, Re.c_mk, Int.reduceBEq]
    exact Ws4 (s := [a, b, c, d]) rfl rfl
  · intro k x y hk hx hy ihx ihy hw
    obtain ⟨w1, w2⟩ := wd2 hw
    have hf := rFit (.mk k 0 0 0 0 [x, y]) (nodesOk_two hk hx hy)
    have h1 := ihx w1
    have h2 := ihy w2
    have f1 := fst_w64 x hx w1
    have f2 := fst_w64 y hy w2
    have hj := rJoin x.fst y.fst f1 f2
    have l1 := f1.len
    have l2 := f2.len
    have l3 := (f1.joinAll2 f2).len
    have hnu := rNul x hx
    by_cases hfit : (Re.mk k 0 0 0 0 [x, y]).fit = true
    case neg =>
      have hfit' : (Re.mk k 0 0 0 0 [x, y]).fit = false := by simpa using hfit
      have e : (Re.mk k 0 0 0 0 [x, y]).fst = noneS := fst_unfit (nodesOk_two hk hx hy) hw hfit'
      rw [e]
      rw [hfit'] at hf
      refine AC.lbody hT hm Tryd.func35 f35_nm f35_lc f35_res f35_nt ?_
      rcases hk with rfl | rfl
      all_goals
        simp only [go_sem, Int.reduceEq, Int.reduceLE, Int.reduceLT, Int.reduceToNat, Re.c_mk, Int.reduceBEq]
        refine hf.pv (by simp [Re.c_mk, Re.cs_eq]) ?_
        simp only [go_sem, Int.reduceEq, Int.reduceLE, Int.reduceLT, Int.reduceToNat, Bool.not_false]
        exact Ws4 (s := noneS) rfl rfl
    rw [hfit] at hf
    have hkk : (((2 : Nat) : Int) == 0) = false := rfl
    rcases hk with rfl | rfl
    · have e : (Re.mk 4 0 0 0 0 [x, y]).fst = if x.nul then joinAll [x.fst, y.fst] else x.fst := by
        rw [fst_seq]
        rw [fit_two _ _ _ (.inl rfl), if_pos rfl] at hfit
        rw [if_pos hfit]
      rw [e]
      generalize joinAll [x.fst, y.fst] = J at *
      generalize x.fst = X at *
      generalize y.fst = Y at *
      obtain ⟨j1, j2, j3, j4, rfl⟩ := four l3
      obtain ⟨x1, x2, x3, x4, rfl⟩ := four l1
      obtain ⟨y1, y2, y3, y4, rfl⟩ := four l2
      refine AC.lbody hT hm Tryd.func35 f35_nm f35_lc f35_res f35_nt ?_
      simp only [go_sem, Int.reduceEq, Int.reduceLE, Int.reduceLT, Int.reduceToNat, Re.c_mk, Int.reduceBEq]
      refine hf.pv (by simp [Re.c_mk, Re.cs_eq]) ?_
      simp only [go_sem, Int.reduceEq, Int.reduceLE, Int.reduceLT, Int.reduceToNat, Bool.not_true, List.map_cons, List.map_nil, List.length_cons, List.length_nil, Nat.reduceAdd, hkk]
      refine h1.pd ⟨.same (Re.d_bl _), trivial⟩ (.agg (W_bl [x1, x2, x3, x4])) ?_
      simp only [go_sem, Int.reduceEq, Int.reduceLE, Int.reduceLT, Int.reduceToNat, Int.reduceBEq]
      refine hnu.pv ⟨.same (Re.d_bl _), trivial⟩ ?_
      cases hn : x.nul with
      | false =>
        simp only [go_sem, Int.reduceEq, Int.reduceLE, Int.reduceLT, Int.reduceToNat]
        exact Ws4 (s := _) (by simp) rfl
      | true =>
        simp only [go_sem, Int.reduceEq, Int.reduceLE, Int.reduceLT, Int.reduceToNat]
        refine h2.qd ⟨.same (Re.d_bl _), trivial⟩ (.agg (W_bl [y1, y2, y3, y4])) ?_
        simp only [go_sem, Int.reduceEq, Int.reduceLE, Int.reduceLT, Int.reduceToNat]
        refine hj.pd ⟨.same (.agg (W_bl [x1, x2, x3, x4])), .same (.agg (W_bl [y1, y2, y3, y4])), trivial⟩ (.agg (W_bl [j1, j2, j3, j4])) ?_
        simp only [go_sem, Int.reduceEq, Int.reduceLE, Int.reduceLT, Int.reduceToNat]
        exact Ws4 (s := _) (by simp) rfl
    · have e : (Re.mk 5 0 0 0 0 [x, y]).fst = joinAll [x.fst, y.fst] := fst_alt x y
      rw [e]
      generalize joinAll [x.fst, y.fst] = J at *
      generalize x.fst = X at *
      generalize y.fst = Y at *
      obtain ⟨j1, j2, j3, j4, rfl⟩ := four l3
      obtain ⟨x1, x2, x3, x4, rfl⟩ := four l1
      obtain ⟨y1, y2, y3, y4, rfl⟩ := four l2
      refine AC.lbody hT hm Tryd.func35 f35_nm f35_lc f35_res f35_nt ?_
      simp only [go_sem, Int.reduceEq, Int.reduceLE, Int.reduceLT, Int.reduceToNat, Re.c_mk, Int.reduceBEq]
      refine hf.pv (by simp [Re.c_mk, Re.cs_eq]) ?_
      simp only [go_sem, Int.reduceEq, Int.reduceLE, Int.reduceLT, Int.reduceToNat, Bool.not_true, List.map_cons, List.map_nil, List.length_cons, List.length_nil, Nat.reduceAdd, hkk]
      refine h1.pd ⟨.same (Re.d_bl _), trivial⟩ (.agg (W_bl [x1, x2, x3, x4])) ?_
      simp only [go_sem, Int.reduceEq, Int.reduceLE, Int.reduceLT, Int.reduceToNat, Int.reduceBEq]
      refine h2.qd ⟨.same (Re.d_bl _), trivial⟩ (.agg (W_bl [y1, y2, y3, y4])) ?_
      simp only [go_sem, Int.reduceEq, Int.reduceLE, Int.reduceLT, Int.reduceToNat]
      refine hj.pd ⟨.same (.agg (W_bl [x1, x2, x3, x4])), .same (.agg (W_bl [y1, y2, y3, y4])), trivial⟩ (.agg (W_bl [j1, j2, j3, j4])) ?_
      simp only [go_sem, Int.reduceEq, Int.reduceLE, Int.reduceLT, Int.reduceToNat]
      exact Ws4 (s := _) (by simp) rfl
  · intro x hx ih hw
    have w1 := wd1 hw
    have hf := rFit (.mk 6 0 0 0 0 [x]) (nodesOk_star hx)
    rw [fit_star] at hf
    have h1 := ih w1
    have l1 := (fst_w64 x hx w1).len
    rw [fst_star]
    generalize x.fst = X at *
    obtain ⟨x1, x2, x3, x4, rfl⟩ := four l1
    have hkk : (((1 : Nat) : Int) == 0) = false := rfl
    refine AC.lbody hT hm Tryd.func35 f35_nm f35_lc f35_res f35_nt ?_
    simp only [go_sem, Int.reduceEq, Int.reduceLE, Int.reduceLT, Int.reduceToNat, Re.c_mk, Int.reduceBEq]
    refine hf.pv (by simp [Re.c_mk, Re.cs_eq]) ?_
    simp only [go_sem, Int.reduceEq, Int.reduceLE, Int.reduceLT, Int.reduceToNat, Bool.not_true, List.map_cons, List.map_nil, List.length_cons, List.length_nil, Nat.reduceAdd, hkk]
    refine h1.pd ⟨.same (Re.d_bl _), trivial⟩ (.agg (W_bl [x1, x2, x3, x4])) ?_
    simp only [go_sem, Int.reduceEq, Int.reduceLE, Int.reduceLT, Int.reduceToNat, Int.reduceBEq]
    exact Ws4 (s := _) (by simp) rfl
theorem rFirst (r : Re) (hz : r.sz ≤ 1099511627776) (hw : r.wd) : AP Tryd.prog 12 [.agg r.c] (Ws (firB r)) := by
  have hmy := rMay r hz
  have hl : r.fst.length = 4 := fst_len r
  unfold firB
  rcases mayCase r with h | h
  · rw [h]
    rw [h] at hmy
    refine AC.lbody hT hm Tryd.func12 f12_nm f12_lc f12_res f12_nt ?_
    simp only [go_sem, Int.reduceEq, Int.reduceLE, Int.reduceLT, Int.reduceToNat]
    refine hmy.pv (by simp) ?_
    simp only [go_sem, Int.reduceEq, Int.reduceLE, Int.reduceLT, Int.reduceToNat, Bool.not_false]
    exact Ws4 (s := _) (by simp [noneS]) rfl
  · have hb := rBegins r (mayZ h).1 hw
    rw [h, if_pos rfl]
    rw [h] at hmy
    generalize r.fst = X at *
    obtain ⟨x1, x2, x3, x4, rfl⟩ := four hl
    refine AC.lbody hT hm Tryd.func12 f12_nm f12_lc f12_res f12_nt ?_
    simp only [go_sem, Int.reduceEq, Int.reduceLE, Int.reduceLT, Int.reduceToNat]
    refine hmy.pv (by simp) ?_
    simp only [go_sem, Int.reduceEq, Int.reduceLE, Int.reduceLT, Int.reduceToNat, Bool.not_true]
    refine hb.pd ⟨.same (Re.d_bl _), trivial⟩ (.agg (W_bl [x1, x2, x3, x4])) ?_
    simp only [go_sem, Int.reduceEq, Int.reduceLE, Int.reduceLT, Int.reduceToNat]
    exact Ws4 (s := _) (by simp) rfl
end Go.Proofs.YtfpfcokhnddddaaDoor.W

set_option maxRecDepth 100000
/- The law NullFirst. -/
namespace Go.Proofs.YtfpfcokhnddddaaDoor.W
open Go Go.Proofs Go.Proofs.YtfpfcokhnddddaaDoor.AWP
attribute [local irreducible] xl hide aop aops aopQ qops guardP condP

def onlyB (r : Re) : Bool := nulB r && decide (firB r = noneS)
theorem nOnly (r : Re) (hz : r.sz ≤ 1048576) : AP Tryd.prog 13 [.agg r.c] (.b (onlyB r)) := by
  unfold onlyB
  rcases mayCase r with h | h
  · have hn : nulB r = false := by unfold nulB; rw [h, Bool.false_and]
    have c := nullNull1 r (by omega)
    rw [hn] at c ⊢
    refine AC.lbody hT hm Tryd.func13 f13_nm f13_lc f13_res f13_nt ?_
    simp only [go_sem, Int.reduceEq, Int.reduceLE, Int.reduceLT, Int.reduceToNat]
    refine c.pv ⟨.same (by simp), trivial⟩ ?_
    simp only [go_sem, Int.reduceEq, Int.reduceLE, Int.reduceLT, Int.reduceToNat]
    exact Fin.v (by simp)
  · have e : firB r = r.fst := if_pos h
    rw [e]
    exact nullOnly r (by omega) (mayZ h).1
theorem sh_no (r : Re) : r.nodesOk = true → (shR r).2 = false → (shR r).1.size = 0 := by
  refine Re.indOk (p := fun r => (shR r).2 = false → (shR r).1.size = 0) ?_ ?_ ?_ ?_ r
  · intro k hk _; rw [shR_bare hk]; rfl
  · intro a b c d _ h; rw [shR_cls] at h; cases h
  · intro k x y hk hx hy ihx ihy h
    rw [shR_two] at h ⊢
    unfold shTwo at h ⊢
    split
    · rename_i h4
      rw [if_pos h4] at h
      split
      · rename_i hc; rw [if_pos hc] at h; cases h
      · rfl
    · rename_i h4
      rw [if_neg h4] at h
      split
      · rename_i hc; rw [if_pos hc] at h; exact ihy h
      · rename_i hc; rw [if_neg hc] at h; cases h
  · intro x _ _ h; rw [shR_star] at h; cases h
theorem nullFirstL (r : Re) (hz : r.sz ≤ 1048576) (hw : r.wd) : AP Tryd.prog 3 [.agg r.c] (.b true) := by
  have c1 := nullFirst r (by omega)
  have c2 := nShortest r hz hw
  have c3 := rShortest r hz hw
  have c4 := rFirst r (by omega) hw
  have c5 := nOnly r hz
  have c6 := rNull r (by omega)
  have hlen := firB_len r
  have hsz : (shB r).1.size ≤ 100 := by
    unfold shB
    split
    · rename_i h; exact shR_len r (mayZ h).1
    · exact Nat.zero_le _
  have hfw : W64 (firB r) := by
    unfold firB
    split
    · rename_i h; exact fst_w64 r (mayZ h).1 hw
    · exact W64.none
  have key : (shB r).1.size ≠ 0 → hasB (firB r) (hd0 (shB r).1) = true := by
    intro hs
    unfold shB at hs ⊢
    unfold firB
    split at hs
    · rename_i h
      rw [if_pos h, if_pos h]
      cases h2 : (shR r).2 with
      | true => exact (sh_first r (mayZ h).1 hw h2).2.2 hs
      | false => exact absurd (sh_no r (mayZ h).1 h2) hs
    · exact absurd rfl hs
  unfold onlyB at c5
  generalize shB r = P at *
  obtain ⟨w, ok⟩ := P
  simp only at hsz key c2 c3
  generalize firB r = S at *
  generalize nulB r = bn at *
  obtain ⟨s1, s2, s3, s4, rfl⟩ := four hlen
  have hhas : ∀ n : Nat, n < 256 → AP Tryd.prog 15 [Ws [s1, s2, s3, s4], .i n] (.b (hasB [s1, s2, s3, s4] n)) := fun n hn => rHas _ hfw n hn
  refine AC.lbody hT hm Tryd.func3 f3_nm f3_lc f3_res f3_nt ?_
  simp only [go_sem, Int.reduceEq, Int.reduceLE, Int.reduceLT, Int.reduceToNat]
  refine (great 200 r).pv (by simp) ?_
  by_cases hg : 200 < r.cnt 200
  · simp only [go_sem, Int.reduceEq, Int.reduceLE, Int.reduceLT, Int.reduceToNat, hg]
    refine awake7.pv trivial ?_
    simp only [go_sem, Int.reduceEq, Int.reduceLE, Int.reduceLT, Int.reduceToNat]
    exact Fin.v rfl
  simp only [go_sem, Int.reduceEq, Int.reduceLE, Int.reduceLT, Int.reduceToNat, hg]
  refine c1.pd ⟨.same (Re.d_bl _), trivial⟩ (.agg (W_bl [s1, s2, s3, s4])) ?_
  simp only [go_sem, Int.reduceEq, Int.reduceLE, Int.reduceLT, Int.reduceToNat]
  refine c2.pd ⟨.same (Re.d_bl _), trivial⟩ (by simp) ?_
  simp only [go_sem, Int.reduceEq, Int.reduceLE, Int.reduceLT, Int.reduceToNat]
  refine c3.pd ⟨.same (Re.d_bl _), trivial⟩ (by simp) ?_
  simp only [go_sem, Int.reduceEq, Int.reduceLE, Int.reduceLT, Int.reduceToNat]
  refine c4.qd ⟨.same (Re.d_bl _), trivial⟩ (.agg (W_bl [s1, s2, s3, s4])) ?_
  simp only [go_sem, Int.reduceEq, Int.reduceLE, Int.reduceLT, Int.reduceToNat, wD_eq, intsEq, beq_self_eq_true, bne_self_eq_false, Bool.and_self, Bool.not_true]
  have eb : (s1 == 0 && (s2 == 0 && (s3 == 0 && (s4 == 0 && true)))) = decide ([s1, s2, s3, s4] = noneS) := by rw [bareE]; simp [noneS]
  generalize decide ([s1, s2, s3, s4] = noneS) = bz at *
  refine c5.qv (by simp) ?_
  simp only [go_sem, Int.reduceEq, Int.reduceLE, Int.reduceLT, Int.reduceToNat]
  cases bn with
  | false =>
    refine c6.qv (by simp) ?_
    simp only [go_sem, Int.reduceEq, Int.reduceLE, Int.reduceLT, Int.reduceToNat, Bool.false_and, bne_self_eq_false]
    by_cases hw0 : w.size = 0
    · have e : (w.data.toList == []) = true := by
        have : w.data = #[] := Array.eq_empty_of_size_eq_zero hw0
        rw [this]; rfl
      simp only [go_sem, Int.reduceEq, Int.reduceLE, Int.reduceLT, Int.reduceToNat, e]
      refine awake7.pv trivial ?_
      simp only [go_sem, Int.reduceEq, Int.reduceLE, Int.reduceLT, Int.reduceToNat]
      exact Fin.v rfl
    · have hpos : 0 < w.data.size := Nat.pos_of_ne_zero hw0
      obtain ⟨u, hu⟩ : ∃ u, w.data[0]? = some u := ⟨_, Array.getElem?_eq_getElem hpos⟩
      have e : (w.data.toList == []) = false := by
        cases hl : w.data.toList with
        | nil => exact absurd (by simpa using congrArg List.length hl) hw0
        | cons _ _ => rfl
      have hh : hd0 w = u.toNat := by
        unfold hd0
        rw [Array.getD_eq_getD_getElem?, hu]; rfl
      have hk := key hw0
      rw [hh] at hk
      have hc := hhas u.toNat u.toNat_lt
      rw [hk] at hc
      have hwu : IntKind.wrap .i64 (u.toNat : Int) = (u.toNat : Int) := wrap_nat _ (by have := u.toNat_lt; omega)
      simp only [go_sem, Int.reduceEq, Int.reduceLE, Int.reduceLT, Int.reduceToNat, e, hu, hwu]
      refine hc.pv ⟨.same (.agg (W_bl [s1, s2, s3, s4])), .v, trivial⟩ ?_
      simp only [go_sem, Int.reduceEq, Int.reduceLE, Int.reduceLT, Int.reduceToNat]
      refine awake7.pv trivial ?_
      simp only [go_sem, Int.reduceEq, Int.reduceLE, Int.reduceLT, Int.reduceToNat]
      exact Fin.v rfl
  | true =>
    refine c6.qv (by simp) ?_
    simp only [go_sem, Int.reduceEq, Int.reduceLE, Int.reduceLT, Int.reduceToNat, wD_eq, intsEq, eb, Bool.true_and, bne_self_eq_false]
    by_cases hw0 : w.size = 0
    · have e : (w.data.toList == []) = true := by
        have : w.data = #[] := Array.eq_empty_of_size_eq_zero hw0
        rw [this]; rfl
      simp only [go_sem, Int.reduceEq, Int.reduceLE, Int.reduceLT, Int.reduceToNat, e]
      refine awake7.pv trivial ?_
      simp only [go_sem, Int.reduceEq, Int.reduceLE, Int.reduceLT, Int.reduceToNat]
      exact Fin.v rfl
    · have hpos : 0 < w.data.size := Nat.pos_of_ne_zero hw0
      obtain ⟨u, hu⟩ : ∃ u, w.data[0]? = some u := ⟨_, Array.getElem?_eq_getElem hpos⟩
      have e : (w.data.toList == []) = false := by
        cases hl : w.data.toList with
        | nil => exact absurd (by simpa using congrArg List.length hl) hw0
        | cons _ _ => rfl
      have hh : hd0 w = u.toNat := by
        unfold hd0
        rw [Array.getD_eq_getD_getElem?, hu]; rfl
      have hk := key hw0
      rw [hh] at hk
      have hc := hhas u.toNat u.toNat_lt
      rw [hk] at hc
      have hwu : IntKind.wrap .i64 (u.toNat : Int) = (u.toNat : Int) := wrap_nat _ (by have := u.toNat_lt; omega)
      simp only [go_sem, Int.reduceEq, Int.reduceLE, Int.reduceLT, Int.reduceToNat, e, hu, hwu]
      refine hc.pv ⟨.same (.agg (W_bl [s1, s2, s3, s4])), .v, trivial⟩ ?_
      simp only [go_sem, Int.reduceEq, Int.reduceLE, Int.reduceLT, Int.reduceToNat]
      refine awake7.pv trivial ?_
      simp only [go_sem, Int.reduceEq, Int.reduceLE, Int.reduceLT, Int.reduceToNat]
      exact Fin.v rfl
end Go.Proofs.YtfpfcokhnddddaaDoor.W
