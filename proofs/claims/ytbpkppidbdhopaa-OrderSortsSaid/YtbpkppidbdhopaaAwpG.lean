/- Part of a program logic over data: rules of the walk, each proved. -/
import Derived.Test.YtbpkppidbdhopaaAwpF
set_option linter.unusedSectionVars false
set_option linter.unusedVariables false
set_option linter.unusedSimpArgs false
namespace Go.Proofs.Ytbpkppidbdhopaa.AWP
open Go

section
variable {P : Program} {T : Tab} {E : Env} {om : List Ob}

theorem part_int (hT : TabOk P T) {e : Nat} {k : IntKind} {b : Nat} {z : List Value} (he : T e = some ⟨.int k, 1, b, z⟩) {w : World} {vs : Array Value} {j : Nat} {v : Value} (h : vs[j]? = some v) : (part e vs j).run P w = .ok v w := by
  unfold part
  simp only [Sem.run_bind, (hT _ _ he).isAgg, Result.andThen_ok]
  simp [TK.agg, h]

theorem eqItems_ok (hT : TabOk P T) {e : Nat} {k : IntKind} {b : Nat} {z : List Value} (he : T e = some ⟨.int k, 1, b, z⟩) {w : World} (d : Nat) :
    ∀ (m i : Nat) (c c' : List D) (vs vs' : Array Value) (r : Bool), c.length = i + m → c'.length = i + m → vs.size = c.length → vs'.size = c'.length →
      (∀ (j : Nat) (d : D), c[j]? = some d → Rd E d (vs.getD j undef)) → (∀ (j : Nat) (d : D), c'[j]? = some d → Rd E d (vs'.getD j undef)) →
      intsEq (c.drop i) (c'.drop i) = some r → (Op.eqItems (d + 1) e 1 vs vs' (List.range' i m)).run P w = .ok r w := by
  intro m
  induction m with
  | zero =>
    intro i c c' vs vs' r h1 h2 _ _ _ _ h
    rw [List.drop_eq_nil_of_le (by omega), List.drop_eq_nil_of_le (by omega)] at h
    simp only [intsEq, Option.some.injEq] at h
    subst h
    simp [Op.eqItems]
  | succ m ih =>
    intro i c c' vs vs' r h1 h2 h3 h4 h5 h6 h
    have hi : i < c.length := by omega
    have hi' : i < c'.length := by omega
    rw [List.drop_eq_getElem_cons hi, List.drop_eq_getElem_cons hi'] at h
    have r1 := h5 i _ (List.getElem?_eq_getElem hi)
    have r2 := h6 i _ (List.getElem?_eq_getElem hi')
    generalize c[i] = x at h r1
    generalize c'[i] = x' at h r2
    unfold intsEq at h
    split at h
    · rename_i e1 e2; simp at e1
    · rename_i ka a ca kb b' cb e1 e2
      simp only [List.cons.injEq] at e1 e2
      obtain ⟨rfl, rfl⟩ := e1
      obtain ⟨rfl, rfl⟩ := e2
      split at h
      · rename_i hk
        subst hk
        simp only [Option.map_eq_some_iff] at h
        obtain ⟨r', hr', rfl⟩ := h
        have e1 := r1.v_inv
        have e2 := r2.v_inv
        have g1 : vs[i]? = some (.int ka a) := by
          have hl : i < vs.size := by omega
          rw [← e1]; simp [Array.getD, hl]
        have g2 : vs'[i]? = some (.int ka b') := by
          have hl : i < vs'.size := by omega
          rw [← e2]; simp [Array.getD, hl]
        simp only [List.range'_succ, Op.eqItems, Sem.run_bind, Nat.mul_one, part_int hT he g1, part_int hT he g2, Result.andThen_ok, run_equalIn_int w d e ka k a b' ((hT _ _ he).int rfl)]
        cases hab : a == b' with
        | false => simp
        | true =>
          simp only [Bool.not_true, Bool.false_eq_true, if_false, Bool.true_and]
          exact ih (i + 1) c c' vs vs' r' (by omega) (by omega) h3 h4 h5 h6 hr'
      · simp at h
    · simp at h

theorem qBin_ok (hT : TabOk P T) (hdep : 4 ≤ P.depth) {op : BinOp} {t : Nat} {x y d : D} {a b : Value} (ox oy : Operand) (h : qBin T op t x y = some d) (hx : Rd E x a) (hy : Rd E y b) :
    ∃ z, (do eqGuard op t ox oy a b; binOp op t a b : Sem Value).run P E.w = .ok z E.w ∧ Rd E d z := by
  unfold qBin at h
  split at h
  · rename_i k n k' m
    cases hx.v_inv; cases hy.v_inv
    rw [eqGuard_at_int]
    split at h
    · split at h
      · rename_i h0
        simp only [Option.some.injEq] at h
        subst h
        refine ⟨_, ?_, .v _⟩
        have : ¬ m < 0 := by omega
        simp [binOp, Op.shift, this]
      · simp at h
    · split at h
      · rename_i h0
        simp only [Option.some.injEq] at h
        subst h
        refine ⟨_, ?_, .v _⟩
        have : ¬ m < 0 := by omega
        simp [binOp, Op.shift, this]
      · simp at h
    · rename_i hs hs'
      split at h
      · rename_i hk
        subst hk
        simp only [Option.map_eq_some_iff] at h
        obtain ⟨v, hv, rfl⟩ := h
        exact ⟨v, by simp [run_ibin (fun e => hs e) (fun e => hs' e) hv], .v _⟩
      · simp at h
  · cases hx.v_inv; cases hy.v_inv
    simp only [Option.map_eq_some_iff] at h
    obtain ⟨v, hv, rfl⟩ := h
    exact ⟨v, by rw [eqGuard_at_string]; simp [run_sbin hv], .v _⟩
  · cases hx.v_inv; cases hy.v_inv
    split at h
    · rename_i ht
      simp only [Option.some.injEq] at h
      subst h
      exact ⟨_, by simp [eqGuard_at_bool, run_eql_bool _ _ _ _ ((hT _ _ ht).bool rfl)], .v _⟩
    · rename_i ht
      simp only [Option.some.injEq] at h
      subst h
      exact ⟨_, by simp [eqGuard_at_bool, run_neq_bool _ _ _ _ ((hT _ _ ht).bool rfl)], .v _⟩
    · simp at h
  · rename_i c c'
    obtain ⟨vs, rfl, hs, _, hd⟩ := hx.agg_inv
    obtain ⟨vs', rfl, hs', _, hd'⟩ := hy.agg_inv
    split at h
    · rename_i n e _ _ _ ht
      split at h
      · rename_i k _ _ he
        split at h
        · rename_i hc
          have hu := (hT _ _ ht).arr rfl
          have hu' := (hT _ _ he).int rfl
          obtain ⟨inf, zz, hinf, hsz, _⟩ := (hT _ _ he).info
          have hcell : P.cellsOf e = 1 := by simp [Program.cellsOf, hinf, hsz]
          have hg : P.eqGuardType P.depth t = false := by
            obtain ⟨q, hq⟩ : ∃ q, P.depth = q + 2 := ⟨P.depth - 2, by omega⟩
            rw [hq]
            simp [Program.eqGuardType, hu, hu']
          have heq : ∀ r, intsEq c c' = some r → (Op.equalIn 10000 t (.agg vs) (.agg vs')).run P E.w = .ok r E.w := by
            intro r hr
            rw [run_equalIn_array E.w 9999 vs vs' hu hinf, hcell, List.range_eq_range']
            exact eqItems_ok hT he (w := E.w) 9998 n 0 c c' vs vs' r (by omega) (by omega) hs hs' hd hd' (by simpa using hr)
          split at h
          · simp only [Option.map_eq_some_iff] at h
            obtain ⟨r, hr, rfl⟩ := h
            exact ⟨_, by simp [run_eqGuard_agg _ _ _ _ _ _ _ hg, run_eql_struct, heq r hr], .v _⟩
          · simp only [Option.map_eq_some_iff] at h
            obtain ⟨r, hr, rfl⟩ := h
            exact ⟨_, by simp [run_eqGuard_agg _ _ _ _ _ _ _ hg, run_neq_struct, heq r hr], .v _⟩
          · simp at h
        · simp at h
      · simp at h
    · simp at h
  · simp at h

def qUn (op : UnOp) (x : D) : Option D :=
  match op, x with
  | .neg, .v (.int k n) => some (.v (.int k (k.wrap (0 - n))))
  | .xor, .v (.int k n) => some (.v (.int k (bits .xor k (if k.signed then -1 else k.max) n)))
  | .not, .v (.bool b) => some (.v (.bool (!b)))
  | _, _ => none

theorem qUn_ok {op : UnOp} {x d : D} {a : Value} (h : qUn op x = some d) (hx : Rd E x a) : ∃ z, (Op.unary op a).run P E.w = .ok z E.w ∧ Rd E d z := by
  unfold qUn at h
  split at h <;> first
    | (cases hx.v_inv
       simp only [Option.some.injEq] at h
       subst h
       exact ⟨_, by simp [Op.unary, Op.intArith, Op.intBits, bits], .v _⟩)
    | simp at h

def qConv (T : Tab) (src dst : Nat) (x : D) : Option D :=
  match T src, T dst, x with
  | some _, some ⟨.int k, _, _, _⟩, .v (.int _ n) => some (.v (.int k (k.wrap n)))
  | some ⟨.str, _, _, _⟩, some ⟨.str, _, _, _⟩, .v (.string s) => some (.v (.string s))
  | _, _, _ => none

theorem qConv_ok (hT : TabOk P T) {src dst : Nat} {x d : D} {a : Value} (h : qConv T src dst x = some d) (hx : Rd E x a) : ∃ z, (convert src dst a).run P E.w = .ok z E.w ∧ Rd E d z := by
  unfold qConv at h
  split at h
  · rename_i si k _ _ _ k' n hs hdst
    cases hx.v_inv
    simp only [Option.some.injEq] at h
    subst h
    obtain ⟨ds, hds, _⟩ := (hT _ _ hs).und
    refine ⟨_, ?_, .v _⟩
    simp [convert, run_underlying hds, run_underlying ((hT _ _ hdst).int rfl), Conv.intToInt]
  · rename_i hs hdst
    cases hx.v_inv
    simp only [Option.some.injEq] at h
    subst h
    exact ⟨_, by simp [convert, run_underlying ((hT _ _ hs).str rfl), run_underlying ((hT _ _ hdst).str rfl)], .v _⟩
  · simp at h

/-! ### Structs, arrays and slices that are laid -/
def cellsOf : D → Option (List D)
  | .agg c => some c
  | .any => none
  | .tup _ => none
  | .v x => if x.oneCell' then some [.v x] else none
  | d => some [d]

theorem cellsOf_ok (hR : Rel E om) {d : D} {c : List D} {y : Value} (h : cellsOf d = some c) (hd : Rd E d y) : y.cells.size = c.length ∧ CellsR E c y.cells := by
  have one : ∀ (d : D) (y : Value), y.oneCell' = true → Rd E d y → y.cells.size = [d].length ∧ CellsR E [d] y.cells := by
    intro d y hy hd
    have hc : y.cells = #[y] := by cases y <;> simp_all [Value.cells, Value.oneCell']
    rw [hc]
    refine ⟨rfl, fun j d' hj => ?_⟩
    cases j with
    | zero =>
      simp only [List.getElem?_cons_zero, Option.some.injEq] at hj
      subst hj
      exact ⟨y, rfl, hy, hd⟩
    | succ j => simp at hj
  unfold cellsOf at h
  split at h
  · simp only [Option.some.injEq] at h
    subst h
    obtain ⟨vs, rfl, hs, h1, h2⟩ := hd.agg_inv
    refine ⟨hs, fun j d hj => ?_⟩
    have hl : j < vs.size := by have := (List.getElem?_eq_some_iff.1 hj).1; omega
    refine ⟨vs[j], by simp [Value.cells, hl], by simpa [Array.getD, hl] using h1 j hl, by simpa [Array.getD, hl] using h2 j d hj⟩
  · simp at h
  · simp at h
  · rename_i x
    split at h
    · rename_i hx
      simp only [Option.some.injEq] at h
      subst h
      cases hd.v_inv
      exact one _ _ hx (.v _)
    · simp at h
  · rename_i d' n1 n2 n3 n4
    simp only [Option.some.injEq] at h
    subst h
    refine one _ _ ?_ hd
    cases hd with
    | v x => exact absurd rfl (n4 _)
    | any y => exact absurd rfl n2
    | agg => exact absurd rfl (n1 _)
    | tup => exact absurd rfl (n3 _)
    | sl => rfl
    | pel => rfl
    | ref => rfl
    | rel => rfl
    | own hk => exact hR.one _ hk
    | fn => rfl
    | ifc => rfl
    | yld => rfl

end
end Go.Proofs.Ytbpkppidbdhopaa.AWP
