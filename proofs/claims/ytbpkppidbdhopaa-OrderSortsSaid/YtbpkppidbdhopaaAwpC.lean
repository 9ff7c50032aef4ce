/- Part of a program logic over data: rules of the walk, each proved. -/
import Derived.Test.YtbpkppidbdhopaaAwpB
set_option linter.unusedSectionVars false
set_option linter.unusedVariables false
set_option linter.unusedSimpArgs false
namespace Go.Proofs.Ytbpkppidbdhopaa.AWP
open Go

/-! ### What the program's table of types tells -/
inductive TK where
  | int (k : IntKind) | bool | str | slice (e : Nat) | arr (n e : Nat) | struct (fs : List (Nat × Nat)) | other
def TK.agg : TK → Bool
  | .arr .. | .struct .. => true
  | _ => false
structure TI where
  kd : TK
  size : Nat
  bytes : Nat
  zero : List Value
abbrev Tab := Nat → Option TI

def KdR : TypeDesc → TK → Prop
  | .int k, .int k' => k = k'
  | .bool, .bool => True
  | .string, .str => True
  | .slice e, .slice e' => e = e'
  | .array n e, .arr n' e' => n = n' ∧ e = e'
  | .struct l, .struct fs => l.toList.map (fun f => (f.offset, f.type)) = fs
  | .int _, _ | .bool, _ | .string, _ | .slice _, _ | .array _ _, _ | .struct _, _ => False
  | .named _ _, _ => False
  | _, .other => True
  | _, _ => False

structure TIok (P : Program) (t : Nat) (i : TI) : Prop where
  info : ∃ inf z, P.info? t = some inf ∧ inf.size = i.size ∧ inf.bytes = i.bytes ∧ inf.zero = some z ∧ z.cells.toList = i.zero ∧ (i.kd.agg = true → z = .agg i.zero.toArray)
  one : ∀ v ∈ i.zero, v.oneCell' = true
  len : i.zero.length = i.size
  und : ∃ d, P.underlying t = some d ∧ KdR d i.kd

def TabOk (P : Program) (T : Tab) : Prop := ∀ t i, T t = some i → TIok P t i

section
variable {P : Program} {w : World}
theorem TIok.isAgg {t : Nat} {i : TI} (h : TIok P t i) : (isAgg t).run P w = .ok i.kd.agg w := by
  obtain ⟨d, hd, hk⟩ := h.und
  unfold Go.isAgg
  simp only [Sem.run_bind, run_underlying hd, Result.andThen_ok]
  cases d <;> cases hi : i.kd <;> simp_all [KdR, TK.agg]
theorem TIok.typeInfo {t : Nat} {i : TI} (h : TIok P t i) : ∃ inf, (Go.typeInfo t).run P w = .ok inf w ∧ inf.size = i.size ∧ inf.bytes = i.bytes := by
  obtain ⟨inf, z, h1, h2, h3, _⟩ := h.info
  exact ⟨inf, run_typeInfo w h1, h2, h3⟩
theorem TIok.sizeOf {t : Nat} {i : TI} (h : TIok P t i) : (Go.sizeOf t).run P w = .ok i.size w := by
  obtain ⟨inf, h1, h2, _⟩ := h.typeInfo (w := w)
  unfold Go.sizeOf
  simp [Sem.run_bind, h1, h2]
theorem TIok.zeroValue {t : Nat} {i : TI} (h : TIok P t i) : ∃ z, (Go.zeroValue t).run P w = .ok z w ∧ z.cells.toList = i.zero ∧ (i.kd.agg = true → z = .agg i.zero.toArray) := by
  obtain ⟨inf, z, h1, _, _, h4, h5, h6⟩ := h.info
  refine ⟨z, ?_, h5, h6⟩
  unfold Go.zeroValue
  simp [Sem.run_bind, run_typeInfo w h1, h4]
theorem TIok.slice {t e : Nat} {i : TI} (h : TIok P t i) (hk : i.kd = .slice e) : P.underlying t = some (.slice e) := by
  obtain ⟨d, hd, hk'⟩ := h.und
  rw [hk] at hk'
  cases d <;> simp_all [KdR]
theorem TIok.arr {t n e : Nat} {i : TI} (h : TIok P t i) (hk : i.kd = .arr n e) : P.underlying t = some (.array n e) := by
  obtain ⟨d, hd, hk'⟩ := h.und
  rw [hk] at hk'
  cases d <;> simp_all [KdR]
theorem TIok.str {t : Nat} {i : TI} (h : TIok P t i) (hk : i.kd = .str) : P.underlying t = some .string := by
  obtain ⟨d, hd, hk'⟩ := h.und
  rw [hk] at hk'
  cases d <;> simp_all [KdR]
theorem TIok.bool {t : Nat} {i : TI} (h : TIok P t i) (hk : i.kd = .bool) : P.underlying t = some .bool := by
  obtain ⟨d, hd, hk'⟩ := h.und
  rw [hk] at hk'
  cases d <;> simp_all [KdR]
theorem TIok.int {t : Nat} {k : IntKind} {i : TI} (h : TIok P t i) (hk : i.kd = .int k) : P.underlying t = some (.int k) := by
  obtain ⟨d, hd, hk'⟩ := h.und
  rw [hk] at hk'
  cases d <;> simp_all [KdR]
theorem TIok.struct {t : Nat} {fs : List (Nat × Nat)} {i : TI} (h : TIok P t i) (hk : i.kd = .struct fs) : ∃ l, P.underlying t = some (.struct l) ∧ l.toList.map (fun f => (f.offset, f.type)) = fs := by
  obtain ⟨d, hd, hk'⟩ := h.und
  rw [hk] at hk'
  cases d <;> simp_all [KdR]
end

/-! ### Rows behind pointers -/
def rdRow (om : List Ob) : D → Option (List D)
  | .pel row => some row
  | .ref k off =>
    match om[k]? with
    | some (.var _ c) => some (c.drop off)
    | some (.frv c) => some (c.drop off)
    | _ => none
  | .rel k sz i j =>
    match om[k]? with
    | some (.slc _ sz' rows) => if sz' = sz then (rows[i]?).map (·.drop j) else none
    | some (.frz sz' rows) => if sz' = sz then (rows[i]?).map (·.drop j) else none
    | _ => none
  | _ => none

/-- What stands from an address on. -/
def RowAt (E : Env) (row : List D) (ad : Addr) : Prop := ∀ (j : Nat) (d : D), row[j]? = some d → ∃ u, E.w.cell? (ad.add j) = some u ∧ u.oneCell' = true ∧ Rd E d u

theorem add_mk (b o n : Nat) : (⟨b, o, none⟩ : Addr).add n = ⟨b, o + n, none⟩ := by unfold Addr.add; split <;> simp_all
theorem add_add (a : Addr) (m n : Nat) : (a.add m).add n = a.add (m + n) := by
  unfold Addr.add
  by_cases h1 : m = 0 <;> by_cases h2 : n = 0 <;> simp [h1, h2, Nat.add_assoc]
theorem add_block (a : Addr) (n : Nat) : (a.add n).block = a.block := by unfold Addr.add; split <;> rfl

theorem flatten_get {rows : List (List D)} {sz : Nat} (hs : ∀ r ∈ rows, r.length = sz) : ∀ {i : Nat} {r : List D} {j : Nat} {d : D}, rows[i]? = some r → r[j]? = some d → rows.flatten[i * sz + j]? = some d := by
  induction rows with
  | nil => intro i r j d h; simp at h
  | cons r0 rows ih =>
    intro i r j d h1 h2
    have h0 : r0.length = sz := hs r0 (by simp)
    cases i with
    | zero =>
      simp only [List.getElem?_cons_zero, Option.some.injEq] at h1
      subst h1
      have hj := (List.getElem?_eq_some_iff.1 h2).1
      simp only [List.flatten_cons, Nat.zero_mul, Nat.zero_add]
      rw [List.getElem?_append_left hj]
      exact h2
    | succ i =>
      simp only [List.getElem?_cons_succ] at h1
      have := ih (fun r hr => hs r (by simp [hr])) h1 h2
      simp only [List.flatten_cons]
      rw [List.getElem?_append_right (by rw [h0, Nat.succ_mul]; omega)]
      rw [← this]
      congr 1
      rw [h0, Nat.succ_mul]
      omega

theorem cell_of_heap {w : World} {b : Nat} {cs : Array Value} {ty : TypeId} {fr : Nat × Nat} (h : w.heap[b]? = some (.cells cs ty fr)) (j : Nat) : w.cell? ⟨b, j, none⟩ = cs[j]? := by
  simp [World.cell?, h]

theorem Rd.pel_inv {E : Env} {row : List D} {y : Value} (h : Rd E (.pel row) y) : ∃ ad, y = .pointer (some ad) ∧ E.A ad.block ∧ RowAt E row ad := by
  cases h with
  | pel ad u hA hc hd => exact ⟨ad, rfl, hA, fun j d hj => ⟨u j, (hc j d hj).1, (hc j d hj).2, hd j d hj⟩⟩

theorem Rd.pel_mk {E : Env} {row : List D} {ad : Addr} (hA : E.A ad.block) (h : RowAt E row ad) : Rd E (.pel row) (.pointer (some ad)) := by
  refine .pel ad (fun j => (E.w.cell? (ad.add j)).getD undef) hA (fun j d hj => ?_) (fun j d hj => ?_)
  · obtain ⟨u, h1, h2, h3⟩ := h j d hj
    simp [h1, h2]
  · obtain ⟨u, h1, h2, h3⟩ := h j d hj
    simpa [h1] using h3

theorem Rd.sl_inv {E : Env} {sz : Nat} {rows : List (List D)} {y : Value} (h : Rd E (.sl sz rows) y) :
    ∃ a cap, y = .slice a rows.length cap ∧ (∀ r ∈ rows, r.length = sz) ∧ rows.length ≤ cap ∧ cap ≤ maxLen ∧
      (rows = [] ∨ ∃ ad, a = some ad ∧ E.A ad.block ∧ ∀ i r, rows[i]? = some r → RowAt E r (ad.add (i * sz))) := by
  cases h with
  | sl ad u hr hl hm ha hc hd =>
    refine ⟨_, _, rfl, hr, hl, hm, ha.imp id fun h => ⟨ad, h.1, h.2, fun i r hi j d hj => ⟨u (i * sz + j), ?_, (hc i r j d hi hj).2, hd i r j d hi hj⟩⟩⟩
    rw [add_add]
    exact (hc i r j d hi hj).1

theorem Rd.sl_mk {E : Env} {sz : Nat} {rows : List (List D)} {a : Option Addr} {cap n : Nat} (hn : n = rows.length) (hr : ∀ r ∈ rows, r.length = sz) (hl : rows.length ≤ cap) (hm : cap ≤ maxLen)
    (h : rows = [] ∨ ∃ ad, a = some ad ∧ E.A ad.block ∧ ∀ i r, rows[i]? = some r → RowAt E r (ad.add (i * sz))) : Rd E (.sl sz rows) (.slice a n cap) := by
  subst hn
  rcases h with h | ⟨ad, ha, hA, h⟩
  · subst h
    exact .sl ⟨0, 0, none⟩ (fun _ => undef) hr hl hm (.inl rfl) (by simp) (by simp)
  · refine .sl ad (fun n => (E.w.cell? (ad.add n)).getD undef) hr hl hm (.inr ⟨ha, hA⟩) (fun i r j d hi hj => ?_) (fun i r j d hi hj => ?_)
    · obtain ⟨u, h1, h2, h3⟩ := h i r hi j d hj
      rw [add_add] at h1
      simp [h1, h2]
    · obtain ⟨u, h1, h2, h3⟩ := h i r hi j d hj
      rw [add_add] at h1
      simpa [h1] using h3

theorem RowAt.drop {E : Env} {row : List D} {ad : Addr} (h : RowAt E row ad) (n : Nat) : RowAt E (row.drop n) (ad.add n) := by
  intro j d hj
  rw [List.getElem?_drop] at hj
  obtain ⟨u, h1, h2⟩ := h _ d hj
  exact ⟨u, by rw [add_add]; exact h1, h2⟩

theorem rdRow_ok {E : Env} {om : List Ob} (hR : Rel E om) {d : D} {row : List D} {y : Value} (h : rdRow om d = some row) (hd : Rd E d y) : ∃ ad, y = .pointer (some ad) ∧ RowAt E row ad := by
  cases hd with
  | pel ad u hA hc hd =>
    simp only [rdRow, Option.some.injEq] at h
    subst h
    exact ⟨ad, rfl, fun j d hj => ⟨u j, (hc j d hj).1, (hc j d hj).2, hd j d hj⟩⟩
  | ref hk hg =>
    rename_i k off b
    simp only [rdRow] at h
    refine ⟨_, rfl, ?_⟩
    cases ho : om[k]? with
    | none => simp [ho] at h
    | some o =>
      have hob := hR.ob k o ho
      cases o with
      | var ty c =>
        simp only [ho, Option.some.injEq] at h
        subst h
        obtain ⟨b', cs, h1, h2, h3, h4, h5⟩ := hob
        rw [h1] at hg
        simp only [hb, Option.some.injEq] at hg
        subst hg
        intro j d hj
        rw [List.getElem?_drop] at hj
        obtain ⟨y, e1, e2, e3⟩ := h5 _ d hj
        exact ⟨y, by rw [add_mk, cell_of_heap h2]; exact e1, e2, e3⟩
      | frv c =>
        simp only [ho, Option.some.injEq] at h
        subst h
        obtain ⟨h1, b', h2⟩ := hob
        rw [h2] at hg h1
        simp only [hb, Option.some.injEq] at hg
        subst hg
        obtain ⟨ad, e, _, h3⟩ := h1.pel_inv
        injection e with e
        injection e with e
        subst e
        have := h3.drop off
        rwa [add_mk, Nat.zero_add] at this
      | _ => simp [ho] at h
  | rel hk hg =>
    rename_i k sz i j b
    simp only [rdRow] at h
    refine ⟨_, rfl, ?_⟩
    cases ho : om[k]? with
    | none => simp [ho] at h
    | some o =>
      have hob := hR.ob k o ho
      cases o with
      | slc ty sz' rows =>
        simp only [ho] at h
        split at h
        · rename_i hsz
          subst hsz
          simp only [Option.map_eq_some_iff] at h
          obtain ⟨r, hr, rfl⟩ := h
          obtain ⟨_, hs, h1 | ⟨b', cs, cap, h1, h2, h3, h4, h5, h6, h7⟩⟩ := hob
          · rw [h1.2] at hr; simp at hr
          · rw [h1] at hg
            simp only [hb, Option.some.injEq] at hg
            subst hg
            intro jj d hj
            rw [List.getElem?_drop] at hj
            obtain ⟨y, e1, e2, e3⟩ := h7 _ d (flatten_get hs hr hj)
            exact ⟨y, by rw [add_mk, cell_of_heap h2, Nat.add_assoc]; exact e1, e2, e3⟩
        · simp at h
      | frz sz' rows =>
        simp only [ho] at h
        split at h
        · rename_i hsz
          subst hsz
          simp only [Option.map_eq_some_iff] at h
          obtain ⟨r, hr, rfl⟩ := h
          obtain ⟨h1, h2⟩ := hob
          rcases h2 with h2 | ⟨b', cap, h2⟩
          · rw [h2] at hr; simp at hr
          · rw [h2] at hg h1
            simp only [hb, Option.some.injEq] at hg
            subst hg
            obtain ⟨a, cap', e, hs, _, _, h3⟩ := h1.sl_inv
            rcases h3 with h3 | ⟨ad, e1, _, h3⟩
            · rw [h3] at hr; simp at hr
            · injection e with e _ _
              rw [e1] at e
              injection e with e
              subst e
              have := (h3 i r hr).drop j
              rwa [add_mk, add_mk, Nat.zero_add] at this
        · simp at h
      | _ => simp [ho] at h
  | v x => simp [rdRow] at h
  | any y => simp [rdRow] at h
  | sl => simp [rdRow] at h
  | agg => simp [rdRow] at h
  | tup => simp [rdRow] at h
  | own => simp [rdRow] at h
  | fn => simp [rdRow] at h
  | ifc => simp [rdRow] at h
  | yld => simp [rdRow] at h

end Go.Proofs.Ytbpkppidbdhopaa.AWP
