/- Part of a program logic over data: rules of the walk, each proved. -/
import Derived.Test.YtbpkppidbdhopaaAwpE
set_option linter.unusedSectionVars false
set_option linter.unusedVariables false
set_option linter.unusedSimpArgs false
namespace Go.Proofs.Ytbpkppidbdhopaa.AWP
open Go

section
variable {P : Program} {T : Tab} {E : Env} {om : List Ob}

theorem slArr_ok {row : List D} {ad : Addr} {n : Nat} (hA : E.A ad.block) (h : RowAt E row ad) (hn : n = row.length) (hm : n ≤ 1000000) : Rd E (.sl 1 (row.map fun d => [d])) (.slice (some ad) n n) := by
  refine Rd.sl_mk (by simp [hn]) (by simp) (by simp [hn]) (by simp [maxLen]; omega) (.inr ⟨ad, rfl, hA, fun i r hr => ?_⟩)
  simp only [List.getElem?_map, Option.map_eq_some_iff] at hr
  obtain ⟨d, hd, rfl⟩ := hr
  intro j d' hj
  cases j with
  | zero =>
    simp only [List.getElem?_cons_zero, Option.some.injEq] at hj
    subst hj
    rw [add_add, Nat.mul_one, Nat.add_zero]
    exact h i d hd
  | succ j => simp at hj

theorem qSlice_ok (hT : TabOk P T) (hR : Rel E om) {t : Nat} {x d : D} {y : Value} {lo hi : Option D} {ylo yhi : Option Value} (h : qSlice T om t x lo hi = some d) (hx : Rd E x y)
    (h1 : ∀ d, lo = some d → ∃ v, ylo = some v ∧ Rd E d v) (h1' : lo = none → ylo = none)
    (h2 : ∀ d, hi = some d → ∃ v, yhi = some v ∧ Rd E d v) (h2' : hi = none → yhi = none) :
    ∃ z, (Instr.sliceAt t y ylo yhi none).run P E.w = .ok z E.w ∧ Rd E d z := by
  unfold qSlice at h
  split at h
  · rename_i ht
    have hu := (hT _ _ ht).str rfl
    split at h
    · rename_i s
      cases hx.v_inv
      split at h
      · rename_i l hh hl hhi
        split at h
        · rename_i hc
          simp only [Option.some.injEq] at h
          subst h
          refine ⟨_, ?_, .v _⟩
          unfold Instr.sliceAt
          simp only [Sem.run_bind, run_underlying hu, Result.andThen_ok]
          unfold Instr.slice
          simp only [Sem.run_bind, run_underlying hu, Result.andThen_ok]
          simp [bounds_ok (P := P) (w := E.w) (isSl := false) hl hhi h1 h1' h2 h2' hc.1 hc.2 (Nat.le_refl _)]
        · simp at h
      · simp at h
    · simp at h
  · rename_i e _ _ _ ht
    have hu := (hT _ _ ht).slice rfl
    split at h
    · rename_i ei he
      have hx' := hx.rs hR
      split at h
      · rename_i sz rows hrs
        rw [hrs] at hx'
        split at h
        · rename_i l hh hl hhi
          split at h
          · rename_i hc
            obtain ⟨hsz, hle, hlen⟩ := hc
            simp only [Option.some.injEq] at h
            subst h
            obtain ⟨a, cap, rfl, hs, hcap, hm, h3⟩ := hx'.sl_inv
            have hrun : (Instr.sliceAt t (.slice a rows.length cap) ylo yhi none).run P E.w = .ok (.slice (if cap = l then a else a.map (·.add (l * ei.size))) (hh - l) (cap - l)) E.w := by
              unfold Instr.sliceAt
              simp only [Sem.run_bind, run_underlying hu, Result.andThen_ok]
              unfold Instr.slice
              simp only [Sem.run_bind, run_underlying hu, Result.andThen_ok, bounds_ok (P := P) (w := E.w) (isSl := true) hl hhi h1 h1' h2 h2' hle (Nat.le_trans hlen hcap) hcap, (hT _ _ he).sizeOf, Sem.run_pure]
            refine ⟨_, hrun, ?_⟩
            refine Rd.sl_mk (by simp [List.length_drop, List.length_take]; omega) (fun r hr => hs r (List.mem_of_mem_take (List.mem_of_mem_drop hr))) (by simp [List.length_drop, List.length_take]; omega) (by omega) ?_
            rcases h3 with h3 | ⟨ad, rfl, hA, h3⟩
            · subst h3; exact .inl (by simp)
            · by_cases hcl : cap = l
              · refine .inl ?_
                apply List.eq_nil_of_length_eq_zero
                simp [List.length_drop, List.length_take]
                omega
              · refine .inr ⟨ad.add (l * ei.size), by simp [hcl], by rw [add_block]; exact hA, fun i r hr => ?_⟩
                rw [List.getElem?_drop, List.getElem?_take] at hr
                split at hr
                · have := h3 _ _ hr
                  rw [add_add, ← hsz, ← Nat.add_mul]
                  exact this
                · simp at hr
          · simp at h
        · simp at h
      · simp at h
    · simp at h
  · rename_i n e _ _ _ ht
    have hu := (hT _ _ ht).arr rfl
    have hel : P.elem t = e := by simp [Program.elem, hu]
    have hal : P.arrayLen t = n := by simp [Program.arrayLen, hu]
    split at h
    · rename_i ei he
      have hrun : ∀ (ad : Addr), ylo = none → yhi = none → (Instr.sliceAt t (.pointer (some ad)) ylo yhi none).run P E.w = .ok (.slice (some ad) n n) E.w := by
        intro ad e1 e2
        subst e1 e2
        unfold Instr.sliceAt
        simp only [Sem.run_bind, run_underlying hu, Result.andThen_ok]
        have : ad.add (0 * ei.size) = ad := by simp [Addr.add]
        simp [Instr.sureAddr, Instr.sliceBounds, (hT _ _ he).sizeOf]
        intro _
        simp [Addr.add]
      split at h
      · rename_i row
        split at h
        · rename_i hc
          simp only [Option.some.injEq] at h
          subst h
          obtain ⟨ad, rfl, hA, hrow⟩ := hx.pel_inv
          exact ⟨_, hrun ad (h1' rfl) (h2' rfl), slArr_ok hA hrow hc.2.1 hc.2.2⟩
        · simp at h
      · rename_i k
        split at h
        · rename_i row ho
          split at h
          · rename_i hc
            simp only [Option.some.injEq] at h
            subst h
            obtain ⟨q1, b, q2⟩ := hR.ob k _ ho
            cases hx with
            | ref hk hg =>
              rw [q2] at q1 hg
              simp only [hb, Option.some.injEq] at hg
              subst hg
              obtain ⟨ad, e, hA, hrow⟩ := q1.pel_inv
              injection e with e
              injection e with e
              subst e
              exact ⟨_, hrun _ (h1' rfl) (h2' rfl), slArr_ok hA hrow hc.2.1 hc.2.2⟩
          · simp at h
        · simp at h
      · simp at h
    · simp at h
  · simp at h

/-! ### Numbers, bools, texts -/
def ibin (op : BinOp) (k : IntKind) (a b : Int) : Option Value :=
  match op with
  | .add => some (.int k (k.wrap (a + b)))
  | .sub => some (.int k (k.wrap (a - b)))
  | .mul => some (.int k (k.wrap (a * b)))
  | .quo => if b = 0 then none else some (.int k (k.wrap (a.tdiv b)))
  | .rem => if b = 0 then none else some (.int k (a.tmod b))
  | .and => some (.int k (bits .and k a b))
  | .or => some (.int k (bits .or k a b))
  | .xor => some (.int k (bits .xor k a b))
  | .andNot => some (.int k (bits .andNot k a b))
  | .eql => some (.bool (a == b))
  | .neq => some (.bool (a != b))
  | .lss => some (.bool (decide (a < b)))
  | .leq => some (.bool (decide (a ≤ b)))
  | .gtr => some (.bool (decide (b < a)))
  | .geq => some (.bool (decide (b ≤ a)))
  | _ => none

def sbin (op : BinOp) (a b : ByteArray) : Option Value :=
  match op with
  | .add => if a.size + b.size ≤ 9223372036854775807 then some (.string (a ++ b)) else none
  | .eql => some (.bool (a.data.toList == b.data.toList))
  | .neq => some (.bool (!(a.data.toList == b.data.toList)))
  | .lss => some (.bool (Op.bytesLess a.data.toList b.data.toList))
  | .gtr => some (.bool (!(Op.bytesLess a.data.toList b.data.toList || a.data.toList == b.data.toList)))
  | .leq => some (.bool (Op.bytesLess a.data.toList b.data.toList || a.data.toList == b.data.toList))
  | .geq => some (.bool (!(Op.bytesLess a.data.toList b.data.toList)))
  | _ => none

/-- All cells of both are numbers: are they the same? -/
def intsEq : List D → List D → Option Bool
  | [], [] => some true
  | .v (.int k a) :: c, .v (.int k' b) :: c' => if k = k' then (intsEq c c').map fun r => a == b && r else none
  | _, _ => none

def qBin (T : Tab) (op : BinOp) (t : Nat) (x y : D) : Option D :=
  match x, y with
  | .v (.int k a), .v (.int k' b) =>
    match op with
    | .shl => if 0 ≤ b then some (.v (.int k (k.wrap (a * 2 ^ (min b.toNat k.bits))))) else none
    | .shr => if 0 ≤ b then some (.v (.int k (a.fdiv (2 ^ (min b.toNat k.bits))))) else none
    | op => if k = k' then (ibin op k a b).map .v else none
  | .v (.string a), .v (.string b) => (sbin op a b).map .v
  | .v (.bool a), .v (.bool b) =>
    match T t, op with
    | some ⟨.bool, _, _, _⟩, .eql => some (.v (.bool (a == b)))
    | some ⟨.bool, _, _, _⟩, .neq => some (.v (.bool (!(a == b))))
    | _, _ => none
  | .agg c, .agg c' =>
    match T t with
    | some ⟨.arr n e, _, _, _⟩ =>
      match T e with
      | some ⟨.int k, 1, _, _⟩ =>
        if c.length = n ∧ c'.length = n then
          match op with
          | .eql => (intsEq c c').map fun r => .v (.bool r)
          | .neq => (intsEq c c').map fun r => .v (.bool (!r))
          | _ => none
        else none
      | _ => none
    | _ => none
  | _, _ => none

theorem run_ibin {w : World} {op : BinOp} {k : IntKind} {a b : Int} {v : Value} {t : Nat} (hs : op ≠ .shl) (hs' : op ≠ .shr) (h : ibin op k a b = some v) : (binOp op t (.int k a) (.int k b)).run P w = .ok v w := by
  cases op <;> simp only [ibin, Option.some.injEq, reduceCtorEq] at h <;> first
    | (subst h; simp [binOp, Op.intArith, Op.intCmp, Op.intBits, bits]; done)
    | (exact absurd rfl hs)
    | (exact absurd rfl hs')
    | (split at h
       · simp at h
       · rename_i hb
         simp only [Option.some.injEq] at h
         subst h
         simp [binOp, Op.intDiv, hb])

theorem run_sbin {w : World} {op : BinOp} {a b : ByteArray} {v : Value} {t : Nat} (h : sbin op a b = some v) : (binOp op t (.string a) (.string b)).run P w = .ok v w := by
  cases op <;> simp only [sbin, Option.some.injEq, reduceCtorEq] at h <;> first
    | (subst h; simp [binOp, Op.stringOp, ByteArray.toList_eq]; done)
    | (split at h
       · rename_i hb
         simp only [Option.some.injEq] at h
         subst h
         have : ¬ (9223372036854775807 < a.size + b.size) := by omega
         simp [binOp, run_string_add_if, this]
       · simp at h)

end
end Go.Proofs.Ytbpkppidbdhopaa.AWP
