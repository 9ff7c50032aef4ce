/- A text whose expression has too many nodes is refused as that; one of too many bytes as that. -/
import Derived.Test.YteifkcgokjmcjaaReadB
import Derived.Test.YteifkcgokjmcjaaMostMath
set_option linter.unusedVariables false
set_option linter.unusedSimpArgs false
set_option linter.unusedSectionVars false
set_option maxRecDepth 100000
/- A text whose expression has too many nodes is refused as that; one of too many bytes as that. -/
namespace Go.Proofs.Yteifkcgokjmcjaa.W
open Go Go.Proofs Go.Proofs.Yteifkcgokjmcjaa.AWP
attribute [local irreducible] xl hide aop aops aopQ qops guardP condP

theorem fill_get {n i : Nat} (h : i < n) : (byteRows (List.replicate i 97 ++ List.replicate (n - i) 0))[i]? = some [.y 0] := by
  refine byteRows_get ?_
  obtain ⟨m, hm⟩ : ∃ m, n - i = m + 1 := ⟨n - i - 1, by omega⟩
  rw [hm, List.replicate_succ, List.getElem?_append_right (by simp)]
  simp
theorem fill_set {n i : Nat} (h : i < n) : (byteRows (List.replicate i 97 ++ List.replicate (n - i) 0)).set i [.v (.int .u8 97)] = byteRows (List.replicate (i + 1) 97 ++ List.replicate (n - (i + 1)) 0) := by
  have e : (List.replicate i (97 : UInt8) ++ List.replicate (n - i) 0).set i 97 = List.replicate (i + 1) 97 ++ List.replicate (n - (i + 1)) 0 := by
    obtain ⟨m, hm⟩ : ∃ m, n - i = m + 1 := ⟨n - i - 1, by omega⟩
    have hm' : n - (i + 1) = m := by omega
    rw [hm, hm', List.replicate_succ, List.set_append_right _ _ (by simp), List.length_replicate, Nat.sub_self, List.set_cons_zero, List.replicate_succ', List.append_assoc]
    rfl
  rw [← e]
  unfold byteRows
  rw [List.map_set]
  rfl
theorem w997 (b : UInt8) : IntKind.i64.wrap (997 + IntKind.i64.wrap ((b.toNat : Int).tmod 7)) = ((997 + b.toNat % 7 : Nat) : Int) :=
  all_bytes (p := fun n => IntKind.i64.wrap (997 + IntKind.i64.wrap ((n : Int).tmod 7)) = ((997 + n % 7 : Nat) : Int)) (by decide +kernel) b
theorem w65533 (b : UInt8) : IntKind.i64.wrap (65533 + IntKind.i64.wrap ((b.toNat : Int).tmod 7)) = ((65533 + b.toNat % 7 : Nat) : Int) :=
  all_bytes (p := fun n => IntKind.i64.wrap (65533 + IntKind.i64.wrap ((n : Int).tmod 7)) = ((65533 + n % 7 : Nat) : Int)) (by decide +kernel) b
theorem readMost (more : UInt8) (long : Bool) : AP Try.prog 4 [.v (.int .u8 more.toNat), .b long] (.b true) := by
  have h7 : more.toNat % 7 < 7 := Nat.mod_lt _ (by omega)
  have w1 := w997 more
  have w2 := w65533 more
  refine AC.lbody hT hm Try.func4 f4_nm f4_lc f4_res f4_nt ?_
  simp only [go_sem, Int.reduceEq, Int.reduceLE, Int.reduceLT, Int.reduceToNat, w1]
  generalize hm0 : 997 + more.toNat % 7 = m at w1 ⊢
  have b1 : 1 ≤ m ∧ m ≤ 65545 := by omega
  have hb1 : (m : Int) ≤ 281474976710656 := by omega
  have e0 : ∀ n : Nat, List.replicate n [D.v (.int .u8 0)] = byteRows (List.replicate 0 97 ++ List.replicate (n - 0) 0) := by
    intro n
    simp [byteRows]
  cases long
  case' false =>
    simp only [go_sem, Int.reduceEq, Int.reduceLE, Int.reduceLT, Int.reduceToNat, w1, hb1]
    have hmn : m ≤ 65536 := by omega
    generalize hn : m = n at b1 hb1 ⊢
  case' true =>
    have b2 : 1 ≤ 65533 + more.toNat % 7 ∧ 65533 + more.toNat % 7 ≤ 65545 := by omega
    generalize 65533 + more.toNat % 7 = n at w2 b2
    have hb2 : (n : Int) ≤ 281474976710656 := by omega
    simp only [go_sem, Int.reduceEq, Int.reduceLE, Int.reduceLT, Int.reduceToNat, w2, hb2]
    clear b1 hb1
    have b1 := b2
    have hb1 := hb2
  all_goals
    refine ⟨Nat.le_refl _, by omega, ?_⟩
    refine xl_loopM hT hm (fun i : Nat => ⟨f4_i9 (.i n) (.own 0) (.i i), [.slc 5 1 (byteRows (List.replicate i 97 ++ List.replicate (n - i) 0))]⟩)
      (fun i => i ≤ n) (fun i => n - i) 0 (Nat.zero_le _) ?_ ?_
    · exact Mv.of [some 0] rfl ⟨.slcS (by rw [← e0]; rfl) (by simp), trivial⟩ (by simp [f4_i9])
    intro i hi
    have hln : i + (n - i) = n := by omega
    simp only [go_sem, Int.reduceEq, Int.reduceLE, Int.reduceLT, Int.reduceToNat, List.length_replicate, hln]
    by_cases h : i < n
    case neg =>
      have hb : bytesOfRows (byteRows (List.replicate i 97 ++ List.replicate (n - i) 0)) = some (List.replicate n 97) := by
        rw [bytesOfRows_of, show i = n from by omega]
        simp
      simp only [go_sem, Int.reduceEq, Int.reduceLE, Int.reduceLT, Int.reduceToNat, h, List.length_replicate, hln, hb]
      obtain ⟨q1, q2⟩ := aaa_read n b1.1
      refine (readN (aaa n)).pd ⟨.v, trivial⟩ (wdD_bl _) ?_
      generalize pRead (aaa n) = x at q1 q2 ⊢
      obtain ⟨r, p, e⟩ := x
      dsimp only at q1 q2
      have z3 : (((3 : Nat) : Int) == 3) = true := rfl
      have z3' : (((3 : Nat) : Int) == 0) = false := rfl
      have z4 : (((4 : Nat) : Int) == 4) = true := rfl
      have z4' : (((4 : Nat) : Int) == 0) = false := rfl
      have z0 : (((0 : Nat) : Int) == 0) = true := rfl
      by_cases h1 : 65536 < n
      · have h1' : (65536 : Int) < n := by omega
        rw [if_pos h1] at q1
        cases q1
        obtain rfl := q2 (by omega)
        simp only [go_sem, Int.reduceEq, Int.reduceLE, Int.reduceLT, Int.reduceToNat, h1', z3, z3', z0]
        refine (same (.mk 0 0 0 0 0 []) (.mk 0 0 0 0 0 [])).pv ⟨.eq (by simp [Re.c_mk, Re.cs_eq]) (by simp), .aggL (by simp [CvL, Re.c_mk, Re.cs_eq]), trivial⟩ ?_
        simp only [go_sem, Int.reduceEq, Int.reduceLE, Int.reduceLT, Int.reduceToNat, same_self]
        refine awake.pv trivial ?_
        simp only [go_sem, Int.reduceEq, Int.reduceLE, Int.reduceLT, Int.reduceToNat]
        exact Fin.v rfl
      have h1' : ¬ (65536 : Int) < n := by omega
      by_cases h2 : 1000 < n
      · have h2' : (1000 : Int) < n := by omega
        rw [if_neg h1, if_pos h2] at q1
        cases q1
        obtain rfl := q2 (by omega)
        simp only [go_sem, Int.reduceEq, Int.reduceLE, Int.reduceLT, Int.reduceToNat, h1', h2', z4, z4', z0]
        refine (same (.mk 0 0 0 0 0 []) (.mk 0 0 0 0 0 [])).pv ⟨.eq (by simp [Re.c_mk, Re.cs_eq]) (by simp), .aggL (by simp [CvL, Re.c_mk, Re.cs_eq]), trivial⟩ ?_
        simp only [go_sem, Int.reduceEq, Int.reduceLE, Int.reduceLT, Int.reduceToNat, same_self]
        refine awake.pv trivial ?_
        simp only [go_sem, Int.reduceEq, Int.reduceLE, Int.reduceLT, Int.reduceToNat]
        exact Fin.v rfl
      have h2' : ¬ (1000 : Int) < n := by omega
      rw [if_neg h1, if_neg h2] at q1
      cases q1
      simp only [go_sem, Int.reduceEq, Int.reduceLE, Int.reduceLT, Int.reduceToNat, h1', h2', z0]
      refine awake.pv trivial ?_
      simp only [go_sem, Int.reduceEq, Int.reduceLE, Int.reduceLT, Int.reduceToNat]
      exact Fin.v rfl
    have hg := fill_get h
    have hst := fill_set h
    simp only [go_sem, Int.reduceEq, Int.reduceLE, Int.reduceLT, Int.reduceToNat, h, List.length_replicate, hln, hg, Nat.div_one, Nat.mod_one, hst]
    refine ⟨i + 1, h, by omega, ?_⟩
    rw [wrap_succ i (by omega)]
    exact Mv.of [some 0] rfl ⟨.slcS rfl (by simp), trivial⟩ (by simp [f4_i9])
end Go.Proofs.Yteifkcgokjmcjaa.W
