/- Names that are there once: in order, and each one that stands beside an equal one left out, they are as many. -/
import Derived.Test.YtdliolbjngcgcaaGreatLogicC
import Derived.Test.YtdliolbjngcgcaaGreatMathA
import Derived.Lib.SlicesCompact
set_option linter.unusedVariables false
set_option linter.unusedSimpArgs false
set_option linter.unusedSectionVars false
/- Expressions of a grammar, trees, grammars as data. -/
namespace Go.Proofs.YtdliolbjngcgcaaGreat.AWP
open Go
/-- An expression of a grammar; a tree has the same form. -/
inductive Cf where
  | mk (k n : Int) (ks : List Cf)
instance : Inhabited Cf := ⟨.mk 0 0 []⟩
def Cf.kind : Cf → Int | .mk k _ _ => k
def Cf.num : Cf → Int | .mk _ n _ => n
def Cf.kids : Cf → List Cf | .mk _ _ ks => ks
@[simp] theorem Cf.kind_mk {k n : Int} {ks : List Cf} : (Cf.mk k n ks).kind = k := rfl
@[simp] theorem Cf.num_mk {k n : Int} {ks : List Cf} : (Cf.mk k n ks).num = n := rfl
@[simp] theorem Cf.kids_mk {k n : Int} {ks : List Cf} : (Cf.mk k n ks).kids = ks := rfl
mutual
def Cf.c : Cf → List D
  | .mk k n ks => [.v (.int .u8 k), .v (.int .i64 n), .sl 3 (Cf.cs ks)]
def Cf.cs : List Cf → List (List D)
  | [] => []
  | r :: l => r.c :: Cf.cs l
end
abbrev Cf.d (r : Cf) : D := .agg r.c
abbrev Cfs (l : List Cf) : D := .sl 3 (Cf.cs l)
@[go_sem] theorem Cf.c_mk (k n : Int) (ks : List Cf) : (Cf.mk k n ks).c = [.v (.int .u8 k), .v (.int .i64 n), .sl 3 (Cf.cs ks)] := by rw [Cf.c]
@[go_sem] theorem Cf.cs_eq : ∀ (l : List Cf), Cf.cs l = l.map Cf.c
  | [] => by rw [Cf.cs]; rfl
  | r :: l => by rw [Cf.cs, Cf.cs_eq l]; rfl
@[go_sem, simp] theorem Cf.c_len (r : Cf) : r.c.length = 3 := by cases r; rw [Cf.c_mk]; rfl
@[go_sem, simp] theorem Cf.c_take (r : Cf) : r.c.take 3 = r.c := List.take_of_length_le (by simp)
mutual
theorem Cf.c_bl : ∀ (r : Cf), ∀ d ∈ r.c, Bl 0 d
  | .mk k n ks => by
    have h := Cf.cs_bl ks
    rw [Cf.c_mk]
    intro x hx
    simp only [List.mem_cons, List.not_mem_nil, or_false] at hx
    rcases hx with rfl | rfl | rfl
    · simp
    · simp
    · exact .sl h
theorem Cf.cs_bl : ∀ (l : List Cf), ∀ r ∈ Cf.cs l, ∀ d ∈ r, Bl 0 d
  | [] => by rw [Cf.cs]; simp
  | r :: l => by
    have h1 := Cf.c_bl r
    have h2 := Cf.cs_bl l
    rw [Cf.cs]
    intro x hx
    rcases List.mem_cons.1 hx with rfl | hx
    · exact h1
    · exact h2 x hx
end
@[simp] theorem Cf.c_blT (r : Cf) : (∀ d ∈ r.c, Bl 0 d) = True := eq_true r.c_bl
@[simp] theorem Cf.cs_blT (l : List Cf) : (∀ r ∈ Cf.cs l, ∀ d ∈ r, Bl 0 d) = True := eq_true (Cf.cs_bl l)
theorem Cf.map_bl (l : List Cf) : ∀ r ∈ l.map Cf.c, ∀ d ∈ r, Bl 0 d := by rw [← Cf.cs_eq]; exact Cf.cs_bl l
@[simp] theorem Cf.d_bl (r : Cf) : Bl 0 (.agg r.c) := .agg r.c_bl
@[simp] theorem Cf.pel_bl (r : Cf) : Bl 0 (.pel r.c) := .pel r.c_bl
@[simp] theorem Cfs_bl (l : List Cf) : Bl 0 (.sl 3 (l.map Cf.c)) := by rw [← Cf.cs_eq]; exact .sl (Cf.cs_bl l)
@[simp] theorem Cfs_bl' (l : List Cf) : Bl 0 (.sl 3 (Cf.cs l)) := .sl (Cf.cs_bl l)
/-! Fewer kids than the greatest length, all through. -/
mutual
def Cf.Ok : Cf → Prop
  | .mk _ _ ks => Cf.Oks ks ∧ ks.length ≤ 9223372036854775807
def Cf.Oks : List Cf → Prop
  | [] => True
  | r :: l => r.Ok ∧ Cf.Oks l
end
mutual
theorem Cf.ok_of : ∀ (r : Cf), (∀ d ∈ r.c, Wf d) → r.Ok
  | .mk k n ks, h => by
    rw [Cf.c_mk] at h
    have h' := h (.sl 3 (Cf.cs ks)) (by simp)
    rw [Cf.Ok]
    exact ⟨Cf.oks_of ks h'.sl_mem, by have := h'.sl_len; rw [Cf.cs_eq, List.length_map] at this; exact this⟩
theorem Cf.oks_of : ∀ (l : List Cf), (∀ r ∈ Cf.cs l, ∀ d ∈ r, Wf d) → Cf.Oks l
  | [], h => by rw [Cf.Oks]; trivial
  | r :: l, h => by
    rw [Cf.cs] at h
    rw [Cf.Oks]
    exact ⟨Cf.ok_of r (h r.c (by simp)), Cf.oks_of l fun x hx => h x (by simp [hx])⟩
end
theorem Cf.ok_agg {r : Cf} (h : Wf (.agg r.c)) : r.Ok := Cf.ok_of r h.agg_mem
section
variable {p : Cf → Prop} (h : ∀ (k n : Int) (ks : List Cf), (∀ x ∈ ks, p x) → p (.mk k n ks))
include h
mutual
theorem Cf.ind : ∀ r : Cf, p r
  | .mk k n ks => h k n ks (Cf.inds ks)
theorem Cf.inds : ∀ (l : List Cf), ∀ x ∈ l, p x
  | [], _, hx => absurd hx (by simp)
  | r :: l, x, hx => (List.mem_cons.1 hx).elim (fun e => e ▸ Cf.ind r) (Cf.inds l x)
end
end
/-! ### Texts in a row -/
abbrev strR (l : List ByteArray) : List (List D) := l.map fun s => [.s s]
abbrev Strs (l : List ByteArray) : D := .sl 1 (strR l)
@[simp] theorem strR_bl (l : List ByteArray) : ∀ r ∈ strR l, ∀ d ∈ r, Bl 0 d := by
  intro r hr d hd
  obtain ⟨s, _, rfl⟩ := List.mem_map.1 hr
  simp only [List.mem_singleton] at hd
  subst hd
  exact .v _
@[simp] theorem Strs_bl (l : List ByteArray) : Bl 0 (Strs l) := .sl (strR_bl l)
/-! ### Grammars -/
abbrev Df : Type := ByteArray × Cf
abbrev dfC (d : Df) : List D := .s d.1 :: d.2.c
abbrev dfR (l : List Df) : List (List D) := l.map dfC
abbrev Defs (l : List Df) : D := .sl 4 (dfR l)
@[simp] theorem dfC_bl (d : Df) : ∀ x ∈ dfC d, Bl 0 x := by
  intro x hx
  rcases List.mem_cons.1 hx with rfl | hx
  · exact .v _
  · exact d.2.c_bl x hx
@[simp] theorem dfR_bl (l : List Df) : ∀ r ∈ dfR l, ∀ d ∈ r, Bl 0 d := by
  intro r hr
  obtain ⟨x, _, rfl⟩ := List.mem_map.1 hr
  exact dfC_bl x
@[simp] theorem Defs_bl (l : List Df) : Bl 0 (Defs l) := .sl (dfR_bl l)
structure Gr where
  kinds : List ByteArray
  defs : List Df
instance : Inhabited Gr := ⟨⟨[], []⟩⟩
abbrev Gr.c (g : Gr) : List D := [Strs g.kinds, Defs g.defs]
@[simp] theorem Gr.c_bl (g : Gr) : ∀ d ∈ g.c, Bl 0 d := by
  intro d hd
  simp only [Gr.c, List.mem_cons, List.not_mem_nil, or_false] at hd
  rcases hd with rfl | rfl
  · exact Strs_bl _
  · exact Defs_bl _
@[simp] theorem Gr.d_bl (g : Gr) : Bl 0 (.agg g.c) := .agg g.c_bl
@[simp] theorem Gr.pel_bl (g : Gr) : Bl 0 (.pel g.c) := .pel g.c_bl
/-! ### Nodes -/
mutual
def Cf.sz : Cf → Nat
  | .mk _ _ ks => 1 + Cf.szs ks
def Cf.szs : List Cf → Nat
  | [] => 0
  | r :: l => r.sz + Cf.szs l
end
theorem Cf.sz_mk (k n : Int) (ks : List Cf) : (Cf.mk k n ks).sz = 1 + Cf.szs ks := by rw [Cf.sz]
theorem Cf.szs_nil : Cf.szs [] = 0 := by rw [Cf.szs]
theorem Cf.szs_cons (r : Cf) (l : List Cf) : Cf.szs (r :: l) = r.sz + Cf.szs l := by rw [Cf.szs]
theorem Cf.szs_append : ∀ (l m : List Cf), Cf.szs (l ++ m) = Cf.szs l + Cf.szs m
  | [], m => by simp [Cf.szs_nil]
  | r :: l, m => by rw [List.cons_append, Cf.szs_cons, Cf.szs_cons, Cf.szs_append l m]; omega
theorem Cf.sz_pos (r : Cf) : 1 ≤ r.sz := by cases r; rw [Cf.sz_mk]; omega
theorem Cf.szs_len : ∀ l : List Cf, l.length ≤ Cf.szs l
  | [] => Nat.zero_le _
  | r :: l => by have := Cf.sz_pos r; have := Cf.szs_len l; rw [Cf.szs_cons, List.length_cons]; omega
theorem Cf.szs_mem : ∀ {l : List Cf} {r : Cf}, r ∈ l → r.sz ≤ Cf.szs l
  | x :: l, r, h => by
    rw [Cf.szs_cons]
    rcases List.mem_cons.1 h with rfl | h
    · omega
    · have := Cf.szs_mem h; omega
mutual
def Cf.same : Cf → Cf → Bool
  | .mk k n ks, .mk k' n' ks' => decide (k = k' ∧ n = n') && Cf.sames ks ks'
def Cf.sames : List Cf → List Cf → Bool
  | [], [] => true
  | x :: l, y :: m => x.same y && Cf.sames l m
  | _, _ => false
end
theorem Cf.same_mk (k n : Int) (ks : List Cf) (k' n' : Int) (ks' : List Cf) : (Cf.mk k n ks).same (.mk k' n' ks') = (decide (k = k' ∧ n = n') && Cf.sames ks ks') := by rw [Cf.same]
theorem Cf.sames_cons (x : Cf) (l : List Cf) (y : Cf) (m : List Cf) : Cf.sames (x :: l) (y :: m) = (x.same y && Cf.sames l m) := by rw [Cf.sames]
theorem Cf.sames_len : ∀ (x y : List Cf), ¬ x.length = y.length → Cf.sames x y = false
  | [], [], h => absurd rfl h
  | [], _ :: _, _ => by simp [Cf.sames]
  | _ :: _, [], _ => by simp [Cf.sames]
  | x :: l, y :: m, h => by
    rw [Cf.sames, Cf.sames_len l m (by simpa using h), Bool.and_false]
mutual
theorem Cf.same_eq : ∀ (x y : Cf), x.same y = true ↔ x = y
  | .mk k n ks, .mk k' n' ks' => by
    rw [Cf.same, Bool.and_eq_true, decide_eq_true_eq, Cf.sames_eq ks ks']
    constructor
    · rintro ⟨⟨rfl, rfl⟩, rfl⟩; rfl
    · intro h; cases h; exact ⟨⟨rfl, rfl⟩, rfl⟩
theorem Cf.sames_eq : ∀ (x y : List Cf), Cf.sames x y = true ↔ x = y
  | [], [] => by simp [Cf.sames]
  | [], _ :: _ => by simp [Cf.sames]
  | _ :: _, [] => by simp [Cf.sames]
  | x :: l, y :: m => by
    rw [Cf.sames, Bool.and_eq_true, Cf.same_eq x y, Cf.sames_eq l m, List.cons.injEq]
end
theorem Cf.same_refl (x : Cf) : x.same x = true := (Cf.same_eq x x).2 rfl
/-! All nodes, each ahead of its kids. -/
mutual
def Cf.all : Cf → List Cf
  | .mk k n ks => .mk k n ks :: Cf.alls ks
def Cf.alls : List Cf → List Cf
  | [] => []
  | r :: l => r.all ++ Cf.alls l
end
theorem Cf.all_mk (k n : Int) (ks : List Cf) : (Cf.mk k n ks).all = .mk k n ks :: Cf.alls ks := by rw [Cf.all]
theorem Cf.alls_nil : Cf.alls [] = [] := by rw [Cf.alls]
theorem Cf.alls_cons (r : Cf) (l : List Cf) : Cf.alls (r :: l) = r.all ++ Cf.alls l := by rw [Cf.alls]
theorem Cf.alls_append : ∀ (l m : List Cf), Cf.alls (l ++ m) = Cf.alls l ++ Cf.alls m
  | [], m => by simp [Cf.alls_nil]
  | r :: l, m => by rw [List.cons_append, Cf.alls_cons, Cf.alls_cons, Cf.alls_append l m, List.append_assoc]
mutual
theorem Cf.all_len : ∀ r : Cf, r.all.length = r.sz
  | .mk k n ks => by rw [Cf.all, Cf.sz, List.length_cons, Cf.alls_len ks]; omega
theorem Cf.alls_len : ∀ l : List Cf, (Cf.alls l).length = Cf.szs l
  | [] => by rw [Cf.alls, Cf.szs]; rfl
  | r :: l => by rw [Cf.alls, Cf.szs, List.length_append, Cf.all_len r, Cf.alls_len l]
end
/-- May a node be, among so many kinds and definitions? -/
def nodeOk (kinds defs : Nat) : Cf → Bool
  | .mk k n ks =>
    if k = 1 ∨ k = 2 then decide (n = 0) && decide (ks.length = 0)
    else if k = 3 then decide (0 ≤ n ∧ n < kinds) && decide (ks.length = 0)
    else if k = 6 then decide (0 ≤ n ∧ n < defs) && decide (ks.length = 0)
    else if k = 4 ∨ k = 5 then decide (n = 0) && decide (ks.length = 2)
    else false
mutual
def Cf.may (kinds defs : Nat) : Cf → Bool
  | .mk k n ks => nodeOk kinds defs (.mk k n ks) && Cf.mays kinds defs ks
def Cf.mays (kinds defs : Nat) : List Cf → Bool
  | [] => true
  | r :: l => r.may kinds defs && Cf.mays kinds defs l
end
theorem Cf.may_mk (a b : Nat) (k n : Int) (ks : List Cf) : (Cf.mk k n ks).may a b = (nodeOk a b (.mk k n ks) && Cf.mays a b ks) := by rw [Cf.may]
theorem Cf.mays_all (a b : Nat) : ∀ l : List Cf, Cf.mays a b l = l.all (fun x => x.may a b)
  | [] => by rw [Cf.mays]; rfl
  | r :: l => by rw [Cf.mays, Cf.mays_all a b l]; rfl
end Go.Proofs.YtdliolbjngcgcaaGreat.AWP
namespace Go.Proofs.YtdliolbjngcgcaaGreat.AWP
open Go
/-! ### Counting, as far as some more -/
theorem Cf.c_2 (r : Cf) : r.c[2]? = some (Cfs r.kids) := by cases r; rw [Cf.c_mk]; rfl
theorem Cf.put0 (ty : Nat) (a : List D) (ha : a.length = 3) (b : Cf) : obPut (.var ty a) 0 b.c = some (.var ty b.c) := by
  rw [obPut_var (by simp [ha]), splc_all (by simp [ha])]
theorem Cf.szs_take {l : List Cf} {i : Nat} {x : Cf} (h : l[i]? = some x) : Cf.szs (l.take (i + 1)) = Cf.szs (l.take i) + x.sz := by
  rw [List.take_add_one, h, Cf.szs_append]
  simp [Cf.szs_cons, Cf.szs_nil]
theorem Cf.szs_take_le : ∀ (l : List Cf) (i : Nat), Cf.szs (l.take i) ≤ Cf.szs l
  | [], i => by simp
  | x :: l, 0 => by simp [Cf.szs_nil]
  | x :: l, i + 1 => by rw [List.take_succ_cons, Cf.szs_cons, Cf.szs_cons]; have := Cf.szs_take_le l i; omega
theorem Cf.sz_kids (r : Cf) : r.sz = 1 + Cf.szs r.kids := by cases r; rw [Cf.sz_mk]; rfl
theorem Cf.alls_take {l : List Cf} {i : Nat} {x : Cf} (h : l[i]? = some x) : Cf.alls (l.take (i + 1)) = Cf.alls (l.take i) ++ x.all := by
  rw [List.take_add_one, h, Cf.alls_append]
  simp [Cf.alls_cons, Cf.alls_nil]
end Go.Proofs.YtdliolbjngcgcaaGreat.AWP
namespace Go.Proofs.YtdliolbjngcgcaaGreat.AWP
theorem nodeOk_mk (kinds defs : Nat) (k n : Int) (ks : List Cf) : nodeOk kinds defs (.mk k n ks) =
    if k = 1 ∨ k = 2 then decide (n = 0) && decide (ks.length = 0)
    else if k = 3 then decide (0 ≤ n ∧ n < kinds) && decide (ks.length = 0)
    else if k = 6 then decide (0 ≤ n ∧ n < defs) && decide (ks.length = 0)
    else if k = 4 ∨ k = 5 then decide (n = 0) && decide (ks.length = 2)
    else false := rfl
end Go.Proofs.YtdliolbjngcgcaaGreat.AWP
/- Names that are there once: in order, and each one that stands beside an equal one left out, they are as many. -/
namespace Go.Proofs.YtdliolbjngcgcaaGreat.AWP
open Go
def lsts (l : List ByteArray) : List (List UInt8) := l.map fun s => s.data.toList
def bas (l : List (List UInt8)) : List ByteArray := l.map fun x => ⟨x.toArray⟩
theorem ba_of (s : ByteArray) : (⟨s.data.toList.toArray⟩ : ByteArray) = s := by cases s; simp
theorem bas_lsts (l : List ByteArray) : bas (lsts l) = l := by
  unfold bas lsts
  rw [List.map_map]
  have : ((fun x : List UInt8 => (⟨x.toArray⟩ : ByteArray)) ∘ fun s : ByteArray => s.data.toList) = id := by funext s; exact ba_of s
  rw [this, List.map_id]
/-- In order. -/
def srt (l : List ByteArray) : List ByteArray := ((l.map fun s => s.data.toList).mergeSort fun x y => decide (x ≤ y)).map fun x => ⟨x.toArray⟩
theorem srt_len (l : List ByteArray) : (srt l).length = l.length := by simp [srt]
theorem srt_perm (l : List ByteArray) : (srt l).Perm l := by
  have h : ((lsts l).mergeSort fun x y => decide (x ≤ y)).Perm (lsts l) := List.mergeSort_perm _ _
  have := h.map fun x : List UInt8 => (⟨x.toArray⟩ : ByteArray)
  have e : (lsts l).map (fun x : List UInt8 => (⟨x.toArray⟩ : ByteArray)) = l := bas_lsts l
  rw [e] at this
  exact this
theorem srt_all (p : ByteArray → Bool) (l : List ByteArray) : (srt l).all p = l.all p := by
  rw [Bool.eq_iff_iff, List.all_eq_true, List.all_eq_true]
  have h := srt_perm l
  exact ⟨fun H x hx => H x (h.mem_iff.2 hx), fun H x hx => H x (h.mem_iff.1 hx)⟩
/-- Each of those that stand side by side once. -/
def cpt (l : List ByteArray) : List ByteArray := bas (Go.Lib.compact (lsts l))
theorem cpt_all (zs : List (List UInt8)) : (Go.Lib.compact zs).length = zs.length ↔ ∀ j, j < zs.length → Go.Lib.keeps zs.toArray j = true := by
  unfold Go.Lib.compact Go.Lib.compactUpTo
  rw [List.length_map]
  have := List.length_filter_eq_length_iff (p := Go.Lib.keeps zs.toArray) (l := List.range zs.length)
  rw [List.length_range] at this
  rw [this]
  exact ⟨fun h j hj => h j (List.mem_range.2 hj), fun h j hj => h j (List.mem_range.1 hj)⟩
theorem le_total8 (a b : List UInt8) : (decide (a ≤ b) || decide (b ≤ a)) = true := by
  rcases List.le_total a b with h | h
  · simp [h]
  · simp [h]
theorem le_trans8 (a b c : List UInt8) (h : decide (a ≤ b) = true) (h' : decide (b ≤ c) = true) : decide (a ≤ c) = true := by
  simp only [decide_eq_true_eq] at *
  exact List.le_trans h h'
theorem le_anti8 {a b : List UInt8} (h : a ≤ b) (h' : b ≤ a) : a = b := List.le_antisymm h h'
theorem srt_sorted (l : List ByteArray) : ((lsts l).mergeSort fun x y => decide (x ≤ y)).Pairwise fun x y => decide (x ≤ y) = true := List.pairwise_mergeSort le_trans8 le_total8 _
theorem keeps_nodup {zs : List (List UInt8)} (hs : zs.Pairwise fun x y => decide (x ≤ y) = true) : (∀ j, j < zs.length → Go.Lib.keeps zs.toArray j = true) ↔ zs.Nodup := by
  have hget : ∀ i (hi : i < zs.length), zs.toArray[i]! = zs[i] := fun i hi => by rw [getElem!_pos _ i (by simpa using hi)]; simp
  rw [List.pairwise_iff_getElem] at hs
  constructor
  · intro hk
    rw [List.Nodup, List.pairwise_iff_getElem]
    intro i j hi hj hij e
    have h1 : zs[i] ≤ zs[i + 1] := by simpa using hs i (i + 1) hi (by omega) (by omega)
    have h2 : zs[i + 1] ≤ zs[j] := by
      by_cases e2 : i + 1 = j
      · subst e2; exact List.le_refl _
      · simpa using hs (i + 1) j (by omega) hj (by omega)
    have h3 : zs[i] = zs[i + 1] := le_anti8 h1 (e ▸ h2)
    have := hk (i + 1) (by omega)
    unfold Go.Lib.keeps at this
    rw [decide_eq_true_eq] at this
    rcases this with h | h
    · omega
    · apply h
      rw [hget (i + 1) (by omega), show i + 1 - 1 = i by omega, hget i hi, h3]
  · intro hn j hj
    unfold Go.Lib.keeps
    rw [decide_eq_true_eq]
    rcases Nat.eq_zero_or_pos j with h | h
    · exact .inl h
    · right
      rw [hget j hj, hget (j - 1) (by omega)]
      rw [List.Nodup, List.pairwise_iff_getElem] at hn
      exact fun e => hn (j - 1) j (by omega) hj (by omega) e.symm
theorem map_nodup {l : List ByteArray} : (lsts l).Nodup ↔ l.Nodup := by
  constructor
  · intro h
    unfold lsts at h
    rw [List.Nodup, List.pairwise_map] at h
    exact h.imp fun hne e => hne (congrArg (fun s : ByteArray => s.data.toList) e)
  · intro h
    unfold lsts
    rw [List.Nodup, List.pairwise_map]
    exact h.imp fun hne e => hne (ByteArray.ext (Array.toList_inj.1 e))
theorem lsts_srt (l : List ByteArray) : lsts (srt l) = (lsts l).mergeSort fun x y => decide (x ≤ y) := by
  unfold srt
  show (List.map _ (List.map _ _)) = _
  rw [List.map_map]
  have : ((fun s : ByteArray => s.data.toList) ∘ fun x : List UInt8 => (⟨x.toArray⟩ : ByteArray)) = id := by funext x; simp
  rw [this, List.map_id]; rfl
/-- As many are left just if none is there twice. -/
theorem cpt_srt (l : List ByteArray) : decide ((cpt (srt l)).length = (srt l).length) = decide l.Nodup := by
  rw [Bool.eq_iff_iff, decide_eq_true_eq, decide_eq_true_eq]
  have h1 : (cpt (srt l)).length = (Go.Lib.compact (lsts (srt l))).length := by simp [cpt, bas]
  have h2 : (srt l).length = (lsts (srt l)).length := by simp [lsts]
  rw [h1, h2, cpt_all, lsts_srt, keeps_nodup (srt_sorted l), ← map_nodup]
  exact (List.mergeSort_perm _ _).nodup_iff
/-- Names, none of which is there twice. -/
def onceGo : List ByteArray → List ByteArray → Bool
  | _, [] => true
  | seen, x :: l => (nameB x && !seen.any fun y => decide (y = x)) && onceGo (seen ++ [x]) l
def onceB (l : List ByteArray) : Bool := l.all nameB && decide l.Nodup
theorem onceGo_eq : ∀ (seen l : List ByteArray), seen.Nodup → onceGo seen l = (l.all nameB && decide (seen ++ l).Nodup)
  | seen, [], h => by simp [onceGo, h]
  | seen, x :: l, h => by
    rw [onceGo, List.all_cons]
    cases hn : nameB x with
    | false => rfl
    | true =>
    simp only [Bool.true_and]
    by_cases hx : x ∈ seen
    · have h1 : (seen.any fun y => decide (y = x)) = true := List.any_eq_true.2 ⟨x, hx, by simp⟩
      have h2 : ¬ (seen ++ x :: l).Nodup := fun hd => by
        rw [List.nodup_append] at hd
        exact hd.2.2 x hx x (by simp) rfl
      rw [h1, decide_eq_false h2]; simp
    · have h1 : (seen.any fun y => decide (y = x)) = false := List.any_eq_false.2 fun y hy => by simp; intro e; exact hx (e ▸ hy)
      have h2 : (seen ++ [x]).Nodup := by
        rw [List.nodup_append]
        exact ⟨h, by simp, fun a ha b hb e => by simp at hb; subst hb; exact hx (e ▸ ha)⟩
      rw [h1, onceGo_eq (seen ++ [x]) l h2, List.append_assoc]; rfl
theorem onceGo_nil (l : List ByteArray) : onceGo [] l = onceB l := by rw [onceGo_eq [] l (by simp)]; rfl
end Go.Proofs.YtdliolbjngcgcaaGreat.AWP
