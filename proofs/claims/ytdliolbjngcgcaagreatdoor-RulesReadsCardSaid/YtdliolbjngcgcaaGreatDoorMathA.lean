/- What a normal form is; it is its own one. -/
import Derived.Test.YtdliolbjngcgcaaGreatDoorLogicC
import Derived.Laws.StandIn
import Derived.Lib.Bytealg
set_option linter.unusedVariables false
set_option linter.unusedSimpArgs false
set_option linter.unusedSectionVars false
/- Expressions as data. -/
namespace Go.Proofs.YtdliolbjngcgcaaGreatDoor.AWP
open Go
inductive Re where
  | mk (k : Int) (a b c d : Int) (ks : List Re)
instance : Inhabited Re := ⟨.mk 0 0 0 0 0 []⟩
mutual
def Re.c : Re → List D
  | .mk k a b c d ks => [.v (.int .u8 k), .v (.int .u64 a), .v (.int .u64 b), .v (.int .u64 c), .v (.int .u64 d), .sl 6 (Re.cs ks)]
def Re.cs : List Re → List (List D)
  | [] => []
  | r :: l => r.c :: Re.cs l
end
abbrev Re.d (r : Re) : D := .agg r.c
abbrev Res (l : List Re) : D := .sl 6 (Re.cs l)
@[go_sem] theorem Re.c_mk (k a b c d : Int) (ks : List Re) : (Re.mk k a b c d ks).c = [.v (.int .u8 k), .v (.int .u64 a), .v (.int .u64 b), .v (.int .u64 c), .v (.int .u64 d), .sl 6 (Re.cs ks)] := by rw [Re.c]
@[go_sem] theorem Re.cs_eq : ∀ (l : List Re), Re.cs l = l.map Re.c
  | [] => by rw [Re.cs]; rfl
  | r :: l => by rw [Re.cs, Re.cs_eq l]; rfl
@[go_sem, simp] theorem Re.c_len (r : Re) : r.c.length = 6 := by cases r; rw [Re.c_mk]; rfl
@[go_sem, simp] theorem Re.c_take (r : Re) : r.c.take 6 = r.c := List.take_of_length_le (by simp)
mutual
theorem Re.c_bl : ∀ (r : Re), ∀ d ∈ r.c, Bl 0 d
  | .mk k a b c d ks => by
    have h := Re.cs_bl ks
    rw [Re.c_mk]
    intro x hx
    simp only [List.mem_cons, List.not_mem_nil, or_false] at hx
    rcases hx with rfl | rfl | rfl | rfl | rfl | rfl
    · simp
    · simp
    · simp
    · simp
    · simp
    · exact .sl h
theorem Re.cs_bl : ∀ (l : List Re), ∀ r ∈ Re.cs l, ∀ d ∈ r, Bl 0 d
  | [] => by rw [Re.cs]; simp
  | r :: l => by
    have h1 := Re.c_bl r
    have h2 := Re.cs_bl l
    rw [Re.cs]
    intro x hx
    rcases List.mem_cons.1 hx with rfl | hx
    · exact h1
    · exact h2 x hx
end
@[simp] theorem Re.c_blT (r : Re) : (∀ d ∈ r.c, Bl 0 d) = True := eq_true r.c_bl
@[simp] theorem Re.cs_blT (l : List Re) : (∀ r ∈ Re.cs l, ∀ d ∈ r, Bl 0 d) = True := eq_true (Re.cs_bl l)
theorem Re.map_bl (l : List Re) : ∀ r ∈ l.map Re.c, ∀ d ∈ r, Bl 0 d := by rw [← Re.cs_eq]; exact Re.cs_bl l
@[simp] theorem Re.d_bl (r : Re) : Bl 0 (.agg r.c) := .agg r.c_bl
@[simp] theorem Re.pel_bl (r : Re) : Bl 0 (.pel r.c) := .pel r.c_bl
@[simp] theorem Res_bl (l : List Re) : Bl 0 (.sl 6 (l.map Re.c)) := by rw [← Re.cs_eq]; exact .sl (Re.cs_bl l)
@[simp] theorem Res_bl' (l : List Re) : Bl 0 (.sl 6 (Re.cs l)) := .sl (Re.cs_bl l)
/-! Fewer kids than the greatest length, all through. -/
mutual
def Re.Ok : Re → Prop
  | .mk _ _ _ _ _ ks => Re.Oks ks ∧ ks.length ≤ 9223372036854775807
def Re.Oks : List Re → Prop
  | [] => True
  | r :: l => r.Ok ∧ Re.Oks l
end
mutual
theorem Re.ok_of : ∀ (r : Re), (∀ d ∈ r.c, Wf d) → r.Ok
  | .mk k a b c d ks, h => by
    rw [Re.c_mk] at h
    have h' := h (.sl 6 (Re.cs ks)) (by simp)
    rw [Re.Ok]
    exact ⟨Re.oks_of ks h'.sl_mem, by have := h'.sl_len; rw [Re.cs_eq, List.length_map] at this; exact this⟩
theorem Re.oks_of : ∀ (l : List Re), (∀ r ∈ Re.cs l, ∀ d ∈ r, Wf d) → Re.Oks l
  | [], h => by rw [Re.Oks]; trivial
  | r :: l, h => by
    rw [Re.cs] at h
    rw [Re.Oks]
    exact ⟨Re.ok_of r (h r.c (by simp)), Re.oks_of l fun x hx => h x (by simp [hx])⟩
end
theorem Re.ok_agg {r : Re} (h : Wf (.agg r.c)) : r.Ok := Re.ok_of r h.agg_mem
/-! ### The order -/
def cmpI (x y : Int) : Int := if x < y then -1 else if y < x then 1 else 0
def orI (x y : Int) : Int := if x = 0 then y else x
def setCmp (a b c d a' b' c' d' : Int) : Int := orI (cmpI a a') (orI (cmpI b b') (orI (cmpI c c') (cmpI d d')))
mutual
def Re.cmp : Re → Re → Int
  | .mk k a b c d ks, .mk k' a' b' c' d' ks' => orI (cmpI k k') (orI (setCmp a b c d a' b' c' d') (Re.cmps ks ks'))
def Re.cmps : List Re → List Re → Int
  | [], [] => 0
  | [], _ :: _ => -1
  | _ :: _, [] => 1
  | x :: l, y :: m => orI (x.cmp y) (Re.cmps l m)
end
theorem drop_get {α : Type} {l : List α} {i : Nat} {x : α} (h : l[i]? = some x) : l.drop i = x :: l.drop (i + 1) := by
  obtain ⟨hi, rfl⟩ := List.getElem?_eq_some_iff.1 h
  exact List.drop_eq_getElem_cons hi
theorem get_ex {α : Type} {l : List α} {i : Nat} (h : i < l.length) : ∃ x, l[i]? = some x := ⟨_, List.getElem?_eq_getElem h⟩
theorem drop_end {α : Type} {l : List α} {i : Nat} (h : ¬ i < l.length) : l.drop i = [] := List.drop_of_length_le (by omega)
@[simp] theorem orI_zero (x : Int) : orI x 0 = x := by unfold orI; split <;> simp_all
@[simp] theorem zero_orI (x : Int) : orI 0 x = x := by simp [orI]
theorem orI_ne {x y : Int} (h : x ≠ 0) : orI x y = x := by simp [orI, h]
section
variable {p : Re → Prop} (h : ∀ (k a b c d : Int) (ks : List Re), (∀ x ∈ ks, p x) → p (.mk k a b c d ks))
include h
mutual
theorem Re.ind : ∀ r : Re, p r
  | .mk k a b c d ks => h k a b c d ks (Re.inds ks)
theorem Re.inds : ∀ (l : List Re), ∀ x ∈ l, p x
  | [], _, hx => absurd hx (by simp)
  | r :: l, x, hx => (List.mem_cons.1 hx).elim (fun e => e ▸ Re.ind r) (Re.inds l x)
end
end
end Go.Proofs.YtdliolbjngcgcaaGreatDoor.AWP
/- The order of expressions: plain laws. -/
namespace Go.Proofs.YtdliolbjngcgcaaGreatDoor.AWP
open Go
theorem cmpI_neg (x y : Int) : cmpI y x = - cmpI x y := by unfold cmpI; split <;> split <;> (try split) <;> omega
theorem orI_neg (x y : Int) : orI (-x) (-y) = - orI x y := by unfold orI; split <;> split <;> omega
theorem setCmp_neg (a b c d a' b' c' d' : Int) : setCmp a' b' c' d' a b c d = - setCmp a b c d a' b' c' d' := by
  simp only [setCmp, cmpI_neg a a', cmpI_neg b b', cmpI_neg c c', cmpI_neg d d', orI_neg]
mutual
theorem Re.cmp_neg : ∀ (x y : Re), y.cmp x = - x.cmp y
  | .mk k a b c d ks, .mk k' a' b' c' d' ks' => by
    rw [Re.cmp, Re.cmp, cmpI_neg k k', setCmp_neg a b c d, Re.cmps_neg ks ks', orI_neg, orI_neg]
theorem Re.cmps_neg : ∀ (l m : List Re), Re.cmps m l = - Re.cmps l m
  | [], [] => by simp [Re.cmps]
  | [], _ :: _ => by simp [Re.cmps]
  | _ :: _, [] => by simp [Re.cmps]
  | x :: l, y :: m => by rw [Re.cmps, Re.cmps, Re.cmp_neg x y, Re.cmps_neg l m, orI_neg]
end
def Rng (x : Int) : Prop := -1 ≤ x ∧ x ≤ 1
theorem Rng.orI {x y : Int} (h : Rng x) (h' : Rng y) : Rng (orI x y) := by unfold Rng AWP.orI at *; split <;> omega
theorem Rng.cmpI (x y : Int) : Rng (cmpI x y) := by unfold Rng AWP.cmpI; split <;> (try split) <;> omega
mutual
theorem Re.rng : ∀ (x y : Re), Rng (x.cmp y)
  | .mk k a b c d ks, .mk k' a' b' c' d' ks' => by
    rw [Re.cmp]
    exact (Rng.cmpI _ _).orI (((Rng.cmpI _ _).orI ((Rng.cmpI _ _).orI ((Rng.cmpI _ _).orI (Rng.cmpI _ _)))).orI (Re.rngs ks ks'))
theorem Re.rngs : ∀ (x y : List Re), Rng (Re.cmps x y)
  | [], [] => by simp [Re.cmps, Rng]
  | [], _ :: _ => by simp [Re.cmps, Rng]
  | _ :: _, [] => by simp [Re.cmps, Rng]
  | x :: l, y :: m => by
    rw [Re.cmps]
    exact (Re.rng x y).orI (Re.rngs l m)
end
/-- How three comparisons of three fit. -/
def Tri (p q r : Int) : Prop := (p = 0 → r = q) ∧ (q = 0 → r = p) ∧ (p < 0 → q < 0 → r < 0) ∧ (0 < p → 0 < q → 0 < r)
theorem Tri.orI {p q r p' q' r' : Int} (h : Tri p q r) (h' : Tri p' q' r') : Tri (orI p p') (orI q q') (orI r r') := by
  unfold Tri AWP.orI at *
  split <;> split <;> split <;> omega
theorem Tri.cmpI (x y z : Int) : Tri (cmpI x y) (cmpI y z) (cmpI x z) := by
  unfold Tri AWP.cmpI
  split <;> split <;> split <;> (try split) <;> (try split) <;> (try split) <;> omega
theorem Tri.set (a b c d a' b' c' d' a2 b2 c2 d2 : Int) : Tri (setCmp a b c d a' b' c' d') (setCmp a' b' c' d' a2 b2 c2 d2) (setCmp a b c d a2 b2 c2 d2) :=
  (Tri.cmpI _ _ _).orI ((Tri.cmpI _ _ _).orI ((Tri.cmpI _ _ _).orI (Tri.cmpI _ _ _)))
mutual
theorem Re.tri : ∀ (x y z : Re), Tri (x.cmp y) (y.cmp z) (x.cmp z)
  | .mk k a b c d ks, .mk k' a' b' c' d' ks', .mk k2 a2 b2 c2 d2 ks2 => by
    rw [Re.cmp, Re.cmp, Re.cmp]
    exact (Tri.cmpI _ _ _).orI ((Tri.set ..).orI (Re.tris ks ks' ks2))
theorem Re.tris : ∀ (x y z : List Re), Tri (Re.cmps x y) (Re.cmps y z) (Re.cmps x z)
  | [], [], [] => by simp [Re.cmps, Tri]
  | [], [], _ :: _ => by simp [Re.cmps, Tri]
  | [], _ :: _, [] => by simp [Re.cmps, Tri]
  | [], y :: m, z :: n => by rw [Re.cmps, Re.cmps, Re.cmps]; unfold Tri; omega
  | _ :: _, [], [] => by simp [Re.cmps, Tri]
  | _ :: _, [], _ :: _ => by simp [Re.cmps, Tri]
  | x :: l, y :: m, [] => by rw [Re.cmps, Re.cmps, Re.cmps]; unfold Tri; omega
  | x :: l, y :: m, z :: n => by
    rw [Re.cmps, Re.cmps, Re.cmps]
    exact (Re.tri x y z).orI (Re.tris l m n)
end
/-! ### Sameness -/
mutual
def Re.same : Re → Re → Bool
  | .mk k a b c d ks, .mk k' a' b' c' d' ks' => decide (k = k' ∧ a = a' ∧ b = b' ∧ c = c' ∧ d = d') && Re.sames ks ks'
def Re.sames : List Re → List Re → Bool
  | [], [] => true
  | x :: l, y :: m => x.same y && Re.sames l m
  | _, _ => false
end
theorem cmpI_zero (x y : Int) : cmpI x y = 0 ↔ x = y := by unfold cmpI; split <;> (try split) <;> omega
theorem orI_eq_zero (x y : Int) : orI x y = 0 ↔ x = 0 ∧ y = 0 := by unfold orI; split <;> simp_all
mutual
theorem Re.same_cmp : ∀ (x y : Re), x.same y = decide (x.cmp y = 0)
  | .mk k a b c d ks, .mk k' a' b' c' d' ks' => by
    rw [Re.same, Re.cmp, Re.sames_cmp ks ks']
    simp only [orI_eq_zero, cmpI_zero, setCmp]
    rw [Bool.eq_iff_iff]
    simp only [Bool.and_eq_true, decide_eq_true_eq]
    constructor
    · rintro ⟨⟨h1, h2, h3, h4, h5⟩, h6⟩; exact ⟨h1, ⟨h2, h3, h4, h5⟩, h6⟩
    · rintro ⟨h1, ⟨h2, h3, h4, h5⟩, h6⟩; exact ⟨⟨h1, h2, h3, h4, h5⟩, h6⟩
theorem Re.sames_cmp : ∀ (x y : List Re), Re.sames x y = decide (Re.cmps x y = 0)
  | [], [] => by simp [Re.sames, Re.cmps]
  | [], _ :: _ => by simp [Re.sames, Re.cmps]
  | _ :: _, [] => by simp [Re.sames, Re.cmps]
  | x :: l, y :: m => by
    rw [Re.sames, Re.cmps, Re.same_cmp x y, Re.sames_cmp l m]
    simp only [orI_eq_zero, Bool.decide_and]
end
theorem Re.sames_len : ∀ (x y : List Re), ¬ x.length = y.length → Re.sames x y = false
  | [], [], h => absurd rfl h
  | [], _ :: _, _ => by simp [Re.sames]
  | _ :: _, [], _ => by simp [Re.sames]
  | x :: l, y :: m, h => by
    rw [Re.sames, Re.sames_len l m (by simpa using h), Bool.and_false]
/-! ### Counting -/
end Go.Proofs.YtdliolbjngcgcaaGreatDoor.AWP
/- Rows of expressions in order, each once: plain laws. -/
namespace Go.Proofs.YtdliolbjngcgcaaGreatDoor.AWP
open Go
mutual
theorem Re.same_eq : ∀ (x y : Re), x.same y = true → x = y
  | .mk k a b c d ks, .mk k' a' b' c' d' ks', h => by
    rw [Re.same] at h
    simp only [Bool.and_eq_true, decide_eq_true_eq] at h
    obtain ⟨⟨rfl, rfl, rfl, rfl, rfl⟩, h⟩ := h
    rw [Re.sames_eq ks ks' h]
theorem Re.sames_eq : ∀ (x y : List Re), Re.sames x y = true → x = y
  | [], [], _ => rfl
  | [], _ :: _, h => by simp [Re.sames] at h
  | _ :: _, [], h => by simp [Re.sames] at h
  | x :: l, y :: m, h => by
    rw [Re.sames, Bool.and_eq_true] at h
    rw [Re.same_eq x y h.1, Re.sames_eq l m h.2]
end
theorem Re.cmp_zero {x y : Re} : x.cmp y = 0 ↔ x = y := by
  constructor
  · intro h; exact Re.same_eq x y (by rw [Re.same_cmp]; simpa using h)
  · rintro rfl
    have := Re.cmp_neg x x
    omega
theorem Re.same_iff {x y : Re} : x.same y = true ↔ x = y := by rw [Re.same_cmp, decide_eq_true_eq, Re.cmp_zero]
theorem Re.same_self (x : Re) : x.same x = true := Re.same_iff.2 rfl
theorem Re.sames_self (l : List Re) : Re.sames l l = true := by
  induction l with
  | nil => simp [Re.sames]
  | cons x l ih => rw [Re.sames, Re.same_self, ih]; rfl
def Re.le (x y : Re) : Prop := x.cmp y ≤ 0
theorem Re.le_refl (x : Re) : x.le x := by unfold Re.le; rw [Re.cmp_zero.2 rfl]; omega
theorem Re.le_trans {x y z : Re} (h : x.le y) (h' : y.le z) : x.le z := by
  have t := x.tri y z
  unfold Re.le Tri at *
  omega
def Sorted (l : List Re) : Prop := l.Pairwise Re.le
end Go.Proofs.YtdliolbjngcgcaaGreatDoor.AWP
set_option maxRecDepth 100000
/- Texts, bytes and sets of bytes, as data. -/
namespace Go.Proofs.YtdliolbjngcgcaaGreatDoor.AWP
open Go
abbrev D.y (b : UInt8) : D := .v (.int .u8 b.toNat)
theorem byte_of (n : Nat) (h : n < 256) : ((UInt8.ofNat n).toNat : Int) = n := by
  rw [UInt8.toNat_ofNat']; omega
/-- What holds of all bytes' numbers. -/
theorem all_bytes {p : Nat → Prop} (h : ∀ n : _root_.Fin 256, p n.val) (b : UInt8) : p b.toNat := h ⟨b.toNat, b.toNat_lt⟩
theorem all_ofNat {p : UInt8 → Prop} (h : ∀ n : _root_.Fin 256, p (UInt8.ofNat n.val)) (b : UInt8) : p b := by
  have := h ⟨b.toNat, b.toNat_lt⟩
  simpa using this
/-! ### Hexadecimal digits -/
def hexS : ByteArray := ⟨#[48, 49, 50, 51, 52, 53, 54, 55, 56, 57, 97, 98, 99, 100, 101, 102]⟩
def hexD (n : Nat) : UInt8 := hexS.data.getD (n % 16) 0
theorem hexD_get (n : Nat) : hexS.data[n % 16]? = some (hexD n) := by
  have : n % 16 < hexS.data.size := by show n % 16 < 16; omega
  rw [hexD, Array.getD_eq_getD_getElem?, Array.getElem?_eq_getElem this]; rfl
theorem and15 (b : UInt8) : bits .and .u8 b.toNat 15 = ((b.toNat % 16 : Nat) : Int) := all_bytes (p := fun n => bits .and .u8 n 15 = ((n % 16 : Nat) : Int)) (by decide +kernel) b
theorem shr4 (b : UInt8) : (b.toNat : Int).fdiv 16 = ((UInt8.ofNat (b.toNat / 16)).toNat : Int) :=
  all_bytes (p := fun n => (n : Int).fdiv 16 = ((UInt8.ofNat (n / 16)).toNat : Int)) (by decide +kernel) b
theorem pow4 : (2 : Int) ^ (min (Int.toNat 4) 8) = 16 := rfl
def hexB (b : UInt8) : List UInt8 := [hexD (b.toNat / 16), hexD b.toNat]
def hexL (l : List UInt8) : List UInt8 := l.flatMap hexB
theorem hexL_take {l : List UInt8} {i : Nat} {b : UInt8} (h : l[i]? = some b) : hexL (l.take (i + 1)) = hexL (l.take i) ++ hexB b := by
  rw [List.take_add_one, h]; simp [hexL]
theorem hexL_len (l : List UInt8) : (hexL l).length = 2 * l.length := by
  induction l with
  | nil => rfl
  | cons b l ih => simp [hexL, hexB] at ih ⊢; omega
abbrev Bys (l : List UInt8) : D := .sl 1 (byteRows l)
theorem byteRows_get {l : List UInt8} {i : Nat} {b : UInt8} (h : l[i]? = some b) : (byteRows l)[i]? = some [.y b] := by simp [byteRows, h]
@[go_sem, simp] theorem byteRows_len (l : List UInt8) : (byteRows l).length = l.length := by simp [byteRows]
theorem byteRows_app (l m : List UInt8) : byteRows l ++ byteRows m = byteRows (l ++ m) := by simp [byteRows]
@[simp] theorem byteRows_bl (l : List UInt8) : (∀ r ∈ byteRows l, ∀ d ∈ r, Bl 0 d) = True := by
  apply eq_true
  intro r hr d hd
  simp only [byteRows, List.mem_map] at hr
  obtain ⟨b, _, rfl⟩ := hr
  simp at hd
  subst hd
  exact .v _
/-! ### Signs -/
def spec1 : ByteArray := ⟨#[92, 124, 42, 40, 41, 91, 93, 46, 45]⟩
def plain (b : UInt8) : Bool := !(decide (b.toNat < 33) || decide (126 < b.toNat) || decide (0 ≤ firstIdx spec1 b))
def signB (b : UInt8) : List UInt8 := if plain b then [b] else 92 :: hexB b
theorem firstIdx_nn (s : ByteArray) (c : UInt8) : decide (0 ≤ firstIdx s c) = ((List.range s.size).any fun i => s[i]! == c) := by
  unfold firstIdx
  split
  · rename_i i h
    have := List.find?_some h
    have hm := List.mem_of_find?_eq_some h
    have : ((List.range s.size).any fun i => s[i]! == c) = true := List.any_eq_true.2 ⟨i, hm, this⟩
    rw [this]; simp
  · rename_i h
    have : ((List.range s.size).any fun i => s[i]! == c) = false := by
      rw [List.any_eq_false]
      exact fun x hx => List.find?_eq_none.1 h x hx
    rw [this]; simp
/-! ### Texts put together -/
theorem ba_app (l m : List UInt8) : (⟨l.toArray⟩ : ByteArray) ++ ⟨m.toArray⟩ = ⟨(l ++ m).toArray⟩ := by
  apply ByteArray.ext
  show ((⟨l.toArray⟩ : ByteArray).append ⟨m.toArray⟩).data = _
  simp [ByteArray.append, ByteArray.copySlice]
theorem ba_size (l : List UInt8) : (⟨l.toArray⟩ : ByteArray).size = l.length := by simp [ByteArray.size]
/-! ### Sets of bytes: four words -/
def wD (w : Int) : D := .v (.int .u64 w)
abbrev Ws (ws : List Int) : D := .agg (ws.map wD)
@[simp] theorem Bl_wD {n : Nat} {w : Int} : Bl n (wD w) := .v _
def bit (n : Nat) : Int := IntKind.wrap .u64 (1 * 2 ^ (min n 64))
def setBit (ws : List Int) (n : Nat) : List Int := ws.set (n / 64) (bits .or .u64 (ws.getD (n / 64) 0) (bit (n % 64)))
theorem setBit_len (ws : List Int) (n : Nat) : (setBit ws n).length = ws.length := by simp [setBit]
def noneS : List Int := [0, 0, 0, 0]
def ofS (l : List UInt8) : List Int := l.foldl (fun ws b => setBit ws b.toNat) noneS
/-- The bytes from low on, n of them. -/
def rangeS (low : Nat) : Nat → List Int
  | 0 => noneS
  | n + 1 => setBit (rangeS low n) (low + n)
def joinW (a b : List Int) : List Int := List.zipWith (fun x y => bits .or .u64 x y) a b
theorem ofS_take {l : List UInt8} {i : Nat} {b : UInt8} (h : l[i]? = some b) : ofS (l.take (i + 1)) = setBit (ofS (l.take i)) b.toNat := by
  rw [List.take_add_one, h]; simp [ofS]
theorem ofS_len (l : List UInt8) : (ofS l).length = 4 := by
  unfold ofS
  suffices ∀ ws : List Int, ws.length = 4 → (l.foldl (fun ws b => setBit ws b.toNat) ws).length = 4 from this _ rfl
  induction l with
  | nil => intro ws h; exact h
  | cons b l ih => intro ws h; exact ih _ (by rw [setBit_len]; exact h)
theorem rangeS_len (low n : Nat) : (rangeS low n).length = 4 := by
  induction n with
  | zero => rfl
  | succ n ih => rw [rangeS, setBit_len, ih]
theorem q64 (b : UInt8) : IntKind.u8.wrap ((b.toNat : Int).tdiv 64) = ((b.toNat / 64 : Nat) : Int) := all_bytes (p := fun n => IntKind.u8.wrap ((n : Int).tdiv 64) = ((n / 64 : Nat) : Int)) (by decide +kernel) b
theorem r64 (b : UInt8) : (b.toNat : Int).tmod 64 = ((b.toNat % 64 : Nat) : Int) := all_bytes (p := fun n => (n : Int).tmod 64 = ((n % 64 : Nat) : Int)) (by decide +kernel) b
theorem q64i (b : UInt8) : IntKind.i64.wrap ((b.toNat : Int).tdiv 64) = ((b.toNat / 64 : Nat) : Int) := all_bytes (p := fun n => IntKind.i64.wrap ((n : Int).tdiv 64) = ((n / 64 : Nat) : Int)) (by decide +kernel) b
theorem lt4 (b : UInt8) : b.toNat / 64 < 4 := by have := b.toNat_lt; omega
theorem ws_get {ws : List Int} {i : Nat} (h : i < ws.length) : ws[i]? = some (ws.getD i 0) := by simp [List.getD_eq_getElem?_getD, h]
theorem wD_eq (w : Int) : wD w = .v (.int .u64 w) := rfl
theorem wD_get {ws : List Int} {i : Nat} (h : i < ws.length) : (ws.map wD)[i]? = some (wD (ws.getD i 0)) := by
  simp [List.getD_eq_getElem?_getD, h]
/-- Of a set, an expression. -/
def reS (ws : List Int) : Re := if ws = noneS then .mk 1 0 0 0 0 [] else .mk 3 (ws.getD 0 0) (ws.getD 1 0) (ws.getD 2 0) (ws.getD 3 0) []
theorem splc_all {α : Type} {c d : List α} (h : d.length = c.length) : splc c 0 d = d := by
  simp [splc, List.drop_eq_nil_of_le (show c.length ≤ d.length by omega)]
theorem W_take {ws : List Int} (h : ws.length = 4) : (ws.map wD).take 4 = ws.map wD := List.take_of_length_le (by simp [h])
theorem W_drop0 {ws : List Int} : (ws.map wD).drop 0 = ws.map wD := rfl
theorem W_put {ty : Nat} {a ws : List Int} (h : a.length = 4) (h' : ws.length = 4) : obPut (.var ty (a.map wD)) 0 (ws.map wD) = some (.var ty (ws.map wD)) := by
  rw [obPut_var (by simp [h, h']), splc_all (by simp [h, h'])]
theorem four {ws : List Int} (h : ws.length = 4) : ∃ a b c d, ws = [a, b, c, d] := by
  match ws, h with
  | [a, b, c, d], _ => exact ⟨a, b, c, d, rfl⟩
theorem joinW_len {a b : List Int} (h : a.length = 4) (h' : b.length = 4) : (joinW a b).length = 4 := by simp [joinW, h, h']
def jn (a b : List Int) (k : Nat) : List Int := (joinW a b).take k ++ a.drop k
theorem jn_len {a b : List Int} {k : Nat} (h : a.length = 4) (h' : b.length = 4) (hk : k ≤ 4) : (jn a b k).length = 4 := by
  simp [jn, joinW, h, h']; omega
theorem jn_step {a b : List Int} {k : Nat} (h : a.length = 4) (h' : b.length = 4) (hk : k < 4) : (jn a b k).set k (bits .or .u64 ((jn a b k).getD k 0) (b.getD k 0)) = jn a b (k + 1) := by
  obtain ⟨p, q, r, s, rfl⟩ := four h
  obtain ⟨p', q', r', s', rfl⟩ := four h'
  have : k = 0 ∨ k = 1 ∨ k = 2 ∨ k = 3 := by omega
  rcases this with rfl | rfl | rfl | rfl <;> rfl
theorem jn_end {a b : List Int} (h : a.length = 4) (h' : b.length = 4) : jn a b 4 = joinW a b := by
  obtain ⟨p, q, r, s, rfl⟩ := four h
  obtain ⟨p', q', r', s', rfl⟩ := four h'
  rfl
def joinAll (l : List (List Int)) : List Int := l.foldl joinW noneS
theorem joinAll_take {l : List (List Int)} {i : Nat} {x : List Int} (h : l[i]? = some x) : joinAll (l.take (i + 1)) = joinW (joinAll (l.take i)) x := by
  rw [List.take_add_one, h]; simp [joinAll]
theorem joinAll_len {l : List (List Int)} (h : ∀ x ∈ l, x.length = 4) : (joinAll l).length = 4 := by
  unfold joinAll
  suffices ∀ ws : List Int, ws.length = 4 → (l.foldl joinW ws).length = 4 from this _ rfl
  induction l with
  | nil => intro ws h; exact h
  | cons x l ih => intro ws hw; exact ih (fun y hy => h y (by simp [hy])) _ (joinW_len hw (h x (by simp)))
abbrev Wss (l : List (List Int)) : D := .sl 4 (l.map fun ws => ws.map wD)
theorem Wss_bl (l : List (List Int)) : ∀ r ∈ l.map (fun ws => ws.map wD), ∀ d ∈ r, Bl 0 d := by
  intro r hr d hd
  obtain ⟨ws, _, rfl⟩ := List.mem_map.1 hr
  obtain ⟨w, _, rfl⟩ := List.mem_map.1 hd
  exact .v _
/-! ### A text's bytes -/
/-- Is the next byte one of some? -/
def isB (s : ByteArray) (p : Nat) (l : ByteArray) : Bool :=
  match s.data[p]? with
  | some b => decide (0 ≤ firstIdx l b)
  | none => false
theorem isB_lt {s l : ByteArray} {p : Nat} (h : isB s p l = true) : p < s.size := by
  unfold isB at h
  split at h
  · rename_i b hb; exact (Array.getElem?_eq_some_iff.1 hb).1
  · cases h
/-- Does a sign begin here? -/
def begB (s : ByteArray) (p : Nat) : Bool := isB s p ⟨#[92]⟩ ||
  match s.data[p]? with
  | some b => plain b
  | none => false
theorem begB_lt {s : ByteArray} {p : Nat} (h : begB s p = true) : p < s.size := by
  unfold begB at h
  rw [Bool.or_eq_true] at h
  rcases h with h | h
  · exact isB_lt h
  · split at h
    · rename_i b hb; exact (Array.getElem?_eq_some_iff.1 hb).1
    · cases h
end Go.Proofs.YtdliolbjngcgcaaGreatDoor.AWP
set_option maxRecDepth 100000
/- What a text is read as: plain functions, for the program's reader and for the document's one. -/
namespace Go.Proofs.YtdliolbjngcgcaaGreatDoor.AWP
open Go
theorem Fin.mvp {om0 om om' : List Ob} {d d' : D} {R : Out → List Ob → Prop} (ks : List (Option Nat)) (hk : ksOk om0.length ks = true) (hob : MvL om (kF ks) ks ks om') (hd : Cv om (kF ks) ks d d') (hr : R (.panic d') om') : Fin om0 om (.panic d) R := by
  intro E0 E e hR0 hx hR ho
  obtain ⟨E', h1, h2, h3, ok⟩ := mv_ok' (base := om0.length) ks hk hob hR
  refine ⟨E', .panic d', om', hr, h1, ?_, h3, ?_⟩
  · have := (hx.toB (base := om0.length) (Nat.le_of_eq hR0.len)).trans h2
    rw [hR0.len] at this
    exact this.toExt
  · cases e <;> simp only [OutR] at ho ⊢
    obtain ⟨y, h1, h2⟩ := ho
    exact ⟨y, h1, hd.rd hR ok h2⟩
/-- A fold from the right. -/
def foldR (kind : Int) (l : List Re) (x : Re) : Re := l.foldr (fun y acc => .mk kind 0 0 0 0 [y, acc]) x
def foldL (kind none : Int) (l : List Re) : Re :=
  match l.getLast? with
  | Option.none => .mk none 0 0 0 0 []
  | some x => foldR kind l.dropLast x
/-! ### Pieces of a text -/
theorem ext1 {s : ByteArray} {p : Nat} {b : UInt8} (h : s.data[p]? = some b) : (s.extract p (p + 1)).data.toList = [b] := by
  obtain ⟨hp, rfl⟩ := Array.getElem?_eq_some_iff.1 h
  have hp' : p < s.size := hp
  refine List.ext_getElem? fun i => ?_
  cases i with
  | zero => simp [ByteArray.data_extract, hp]
  | succ i => simp [ByteArray.data_extract]; omega
theorem ext2 {s : ByteArray} {p : Nat} {a b : UInt8} (h : s.data[p]? = some a) (h' : s.data[p + 1]? = some b) : s.extract p (p + 2) = ⟨#[a, b]⟩ := by
  obtain ⟨hp, rfl⟩ := Array.getElem?_eq_some_iff.1 h
  obtain ⟨hp', rfl⟩ := Array.getElem?_eq_some_iff.1 h'
  apply ByteArray.ext
  apply Array.ext'
  refine List.ext_getElem? fun i => ?_
  match i with
  | 0 => simp [ByteArray.data_extract, hp]
  | 1 => simp [ByteArray.data_extract, hp']
  | i + 2 => simp [ByteArray.data_extract]; omega
theorem hexS_le (b : UInt8) : firstIdx hexS b ≤ 15 := all_ofNat (p := fun b => firstIdx hexS b ≤ 15) (by decide +kernel) b
theorem hex16 (m n : _root_.Fin 16) : IntKind.u8.wrap (bits .or .i64 (IntKind.i64.wrap ((m.val : Int) * 2 ^ (min 4 64))) (n.val : Int)) = ((UInt8.ofNat (16 * m.val + n.val)).toNat : Int) := by
  revert m n; decide +kernel
theorem at_of {s : ByteArray} {p : Nat} {b : UInt8} (h : s.data[p]? = some b) : s.data.getD p 0 = b := by
  simp [Array.getD_eq_getD_getElem?, h]
theorem get_lt {s : ByteArray} {p : Nat} (h : p < s.size) : ∃ b, s.data[p]? = some b := ⟨_, Array.getElem?_eq_getElem h⟩
theorem isB_at {s l : ByteArray} {p : Nat} {b : UInt8} (hb : s.data[p]? = some b) : isB s p l = decide (0 ≤ firstIdx l b) := by unfold isB; rw [hb]
theorem isB_end {s l : ByteArray} {p : Nat} (h : ¬ p < s.size) : isB s p l = false := by unfold isB; rw [Array.getElem?_eq_none (by exact Nat.le_of_not_lt h)]
theorem begB_end {s : ByteArray} {p : Nat} (h : ¬ p < s.size) : begB s p = false := by unfold begB; rw [isB_end h, Array.getElem?_eq_none (by exact Nat.le_of_not_lt h)]; rfl
/-- What is read: an expression, and where it ends; or where the error is. -/
inductive PR where
  | ok (r : Re) (p : Nat)
  | bad (p : Nat)
/-- The same for a sign. -/
inductive PB where
  | ok (b : UInt8) (p : Nat)
  | bad (p : Nat)
def hexAt (s : ByteArray) (p : Nat) : Nat := (firstIdx hexS (s.data.getD p 0)).toNat
def pSign (s : ByteArray) (p : Nat) : PB :=
  if begB s p = true then
    if (s.data.getD p 0).toNat = 92 then
      if isB s (p + 1) hexS = true then
        if isB s (p + 2) hexS = true then .ok (UInt8.ofNat (16 * hexAt s (p + 1) + hexAt s (p + 2))) (p + 3) else .bad (p + 2)
      else .bad (p + 1)
    else .ok (s.data.getD p 0) (p + 1)
  else .bad p
theorem pSign_lt {s : ByteArray} {p : Nat} {b : UInt8} {q : Nat} (h : pSign s p = .ok b q) : p < q ∧ q ≤ s.size := by
  unfold pSign at h
  split at h
  case isFalse => cases h
  rename_i h0
  have := begB_lt h0
  split at h
  · split at h
    · split at h
      · rename_i h2
        have := isB_lt h2
        cases h
        omega
      · cases h
    · cases h
  · cases h
    omega
abbrev cRb : ByteArray := ⟨#[93]⟩
abbrev cDash : ByteArray := ⟨#[45]⟩
abbrev cDot : ByteArray := ⟨#[46]⟩
abbrev cLb : ByteArray := ⟨#[91]⟩
abbrev cLp : ByteArray := ⟨#[40]⟩
abbrev cRp : ByteArray := ⟨#[41]⟩
abbrev cStar : ByteArray := ⟨#[42]⟩
abbrev cBar : ByteArray := ⟨#[124]⟩
abbrev cAtom : ByteArray := ⟨#[46, 91, 40]⟩
def clsGo (s : ByteArray) (ws : List Int) (p : Nat) : PR :=
  if isB s p cRb = true then .ok (reS ws) (p + 1) else
  match pSign s p with
  | .bad e => .bad e
  | .ok lo q =>
    if hq : p < q ∧ q ≤ s.size then
      if isB s q cDash = true then
        match pSign s (q + 1) with
        | .bad e => .bad e
        | .ok hi q' =>
          if hi.toNat < lo.toNat then .bad (q + 1) else
          if hq' : p < q' ∧ q' ≤ s.size then clsGo s (joinAll [ws, rangeS lo.toNat (hi.toNat + 1 - lo.toNat)]) q' else .bad 0
      else clsGo s (joinAll [ws, rangeS lo.toNat (lo.toNat + 1 - lo.toNat)]) q
    else .bad 0
termination_by s.size - p
def starGo (s : ByteArray) (r : Re) (p : Nat) : Re × Nat :=
  if h : isB s p cStar = true then starGo s (.mk 6 0 0 0 0 [r]) (p + 1) else (r, p)
termination_by s.size - p
decreasing_by have := isB_lt h; omega
section
variable (A : Nat → PR) (s : ByteArray)
def pAtom (p : Nat) : PR :=
  if isB s p cDot = true then .ok (reS (rangeS 0 256)) (p + 1)
  else if isB s p cLb = true then clsGo s noneS (p + 1)
  else if isB s p cLp = true then
    if isB s (p + 1) cRp = true then .ok (.mk 2 0 0 0 0 []) (p + 2)
    else match A (p + 1) with
      | .bad e => .bad e
      | .ok r q => if isB s q cRp = true then .ok r (q + 1) else .bad q
  else match pSign s p with
    | .bad e => .bad e
    | .ok b q => .ok (reS (ofS [b])) q
def pPart (p : Nat) : PR :=
  match pAtom A s p with
  | .bad e => .bad e
  | .ok r q => .ok (starGo s r q).1 (starGo s r q).2
def rowGo (l : List Re) (p : Nat) : PR :=
  if (isB s p cAtom || begB s p) = true then
    match pPart A s p with
    | .bad e => .bad e
    | .ok r q => if hq : p < q ∧ q ≤ s.size then rowGo (l ++ [r]) q else .bad 0
  else .ok (foldL 4 2 l) p
termination_by s.size - p
def pRow (p : Nat) : PR :=
  match pPart A s p with
  | .bad e => .bad e
  | .ok r q => rowGo A s [r] q
def altGo (l : List Re) (p : Nat) : PR :=
  if isB s p cBar = true then
    match pRow A s (p + 1) with
    | .bad e => .bad e
    | .ok r q => if hq : p < q ∧ q ≤ s.size then altGo (l ++ [r]) q else .bad 0
  else .ok (foldL 5 1 l) p
termination_by s.size - p
def pAlt (p : Nat) : PR :=
  match pRow A s p with
  | .bad e => .bad e
  | .ok r q => altGo A s [r] q
end
/-- An expression, from a place on. -/
def altF (s : ByteArray) (p : Nat) : PR := pAlt (fun q => if h : p < q ∧ q ≤ s.size then altF s q else .bad 0) s p
termination_by s.size - p
/-! ### Where it ends -/
theorem clsGo_lt {s : ByteArray} : ∀ (n : Nat) (ws : List Int) (p : Nat) {r : Re} {q : Nat}, s.size - p ≤ n → clsGo s ws p = .ok r q → p < q ∧ q ≤ s.size := by
  intro n
  induction n with
  | zero =>
    intro ws p r q hn h
    rw [clsGo] at h
    split at h
    · rename_i h0; have := isB_lt h0; omega
    · split at h
      · cases h
      · rename_i lo q1 hs
        have := pSign_lt hs
        omega
  | succ n ih =>
    intro ws p r q hn h
    rw [clsGo] at h
    split at h
    · rename_i h0; have := isB_lt h0; cases h; omega
    · split at h
      · cases h
      · rename_i lo q1 hs
        split at h
        case isFalse => cases h
        split at h
        · split at h
          · cases h
          · split at h
            · cases h
            · split at h
              case isFalse => cases h
              have := ih _ _ (by omega) h
              omega
        · have := ih _ _ (by omega) h
          omega
theorem starGo_le {s : ByteArray} : ∀ (n : Nat) (r : Re) (p : Nat), s.size - p ≤ n → p ≤ s.size → p ≤ (starGo s r p).2 ∧ (starGo s r p).2 ≤ s.size := by
  intro n
  induction n with
  | zero =>
    intro r p hn hp
    rw [starGo]
    split
    · rename_i h; have := isB_lt h; omega
    · exact ⟨Nat.le_refl _, hp⟩
  | succ n ih =>
    intro r p hn hp
    rw [starGo]
    split
    · rename_i h; have := isB_lt h
      have := ih (.mk 6 0 0 0 0 [r]) (p + 1) (by omega) (by omega)
      omega
    · exact ⟨Nat.le_refl _, hp⟩
/-- What is read ends behind its beginning. -/
def Fwd (A : Nat → PR) (s : ByteArray) : Prop := ∀ {p r q}, A p = .ok r q → p ≤ q ∧ q ≤ s.size
section
variable {A : Nat → PR} {s : ByteArray}
theorem pAtom_lt (hA : Fwd A s) {p : Nat} {r : Re} {q : Nat} (h : pAtom A s p = .ok r q) : p < q ∧ q ≤ s.size := by
  unfold pAtom at h
  split at h
  · rename_i h0; have := isB_lt h0; cases h; omega
  split at h
  · have := clsGo_lt _ _ _ (Nat.le_refl _) h; omega
  split at h
  · split at h
    · rename_i h0; have := isB_lt h0; cases h; omega
    · split at h
      · cases h
      · rename_i h1
        have := hA h1
        split at h
        · rename_i h0; have := isB_lt h0; cases h; omega
        · cases h
  · split at h
    · cases h
    · rename_i h1
      have := pSign_lt h1
      cases h; exact this
theorem pPart_lt (hA : Fwd A s) {p : Nat} {r : Re} {q : Nat} (h : pPart A s p = .ok r q) : p < q ∧ q ≤ s.size := by
  unfold pPart at h
  split at h
  · cases h
  · rename_i r1 q1 h1
    have h2 := pAtom_lt hA h1
    have := starGo_le _ r1 q1 (Nat.le_refl _) h2.2
    cases h
    omega
theorem rowGo_le (hA : Fwd A s) : ∀ (n : Nat) (l : List Re) (p : Nat) {r : Re} {q : Nat}, s.size - p ≤ n → p ≤ s.size → rowGo A s l p = .ok r q → p ≤ q ∧ q ≤ s.size := by
  intro n
  induction n with
  | zero =>
    intro l p r q hn hp h
    rw [rowGo] at h
    split at h
    · split at h
      · cases h
      · rename_i h1
        have := pPart_lt hA h1
        omega
    · cases h; exact ⟨Nat.le_refl _, hp⟩
  | succ n ih =>
    intro l p r q hn hp h
    rw [rowGo] at h
    split at h
    · split at h
      · cases h
      · split at h
        case isFalse => cases h
        have := ih _ _ (by omega) (by omega) h
        omega
    · cases h; exact ⟨Nat.le_refl _, hp⟩
theorem pRow_lt (hA : Fwd A s) {p : Nat} {r : Re} {q : Nat} (h : pRow A s p = .ok r q) : p < q ∧ q ≤ s.size := by
  unfold pRow at h
  split at h
  · cases h
  · rename_i h1
    have h2 := pPart_lt hA h1
    have := rowGo_le hA _ _ _ (Nat.le_refl _) h2.2 h
    omega
theorem altGo_le (hA : Fwd A s) : ∀ (n : Nat) (l : List Re) (p : Nat) {r : Re} {q : Nat}, s.size - p ≤ n → p ≤ s.size → altGo A s l p = .ok r q → p ≤ q ∧ q ≤ s.size := by
  intro n
  induction n with
  | zero =>
    intro l p r q hn hp h
    rw [altGo] at h
    split at h
    · rename_i h0; have := isB_lt h0; omega
    · cases h; exact ⟨Nat.le_refl _, hp⟩
  | succ n ih =>
    intro l p r q hn hp h
    rw [altGo] at h
    split at h
    · split at h
      · cases h
      · split at h
        case isFalse => cases h
        have := ih _ _ (by omega) (by omega) h
        omega
    · cases h; exact ⟨Nat.le_refl _, hp⟩
theorem pAlt_lt (hA : Fwd A s) {p : Nat} {r : Re} {q : Nat} (h : pAlt A s p = .ok r q) : p < q ∧ q ≤ s.size := by
  unfold pAlt at h
  split at h
  · cases h
  · rename_i h1
    have h2 := pRow_lt hA h1
    have := altGo_le hA _ _ _ (Nat.le_refl _) h2.2 h
    omega
end
/-- Expressions from behind a place on. -/
def altA (s : ByteArray) (p q : Nat) : PR := if p < q ∧ q ≤ s.size then altF s q else .bad 0
theorem altF_eq (s : ByteArray) (p : Nat) : altF s p = pAlt (altA s p) s p := by
  rw [altF]
  rfl
theorem altF_lt {s : ByteArray} : ∀ (n p : Nat) {r : Re} {q : Nat}, s.size - p ≤ n → altF s p = .ok r q → p < q ∧ q ≤ s.size := by
  intro n
  induction n with
  | zero =>
    intro p r q hn h
    rw [altF_eq] at h
    refine pAlt_lt ?_ h
    intro p' r' q' h'
    unfold altA at h'
    split at h'
    · omega
    · cases h'
  | succ n ih =>
    intro p r q hn h
    rw [altF_eq] at h
    refine pAlt_lt ?_ h
    intro p' r' q' h'
    unfold altA at h'
    split at h'
    · have := ih _ (by omega) h'; omega
    · cases h'
theorem altA_fwd (s : ByteArray) (p : Nat) : Fwd (altA s p) s := by
  intro p' r q h
  unfold altA at h
  split at h
  · have := altF_lt _ _ (Nat.le_refl _) h; omega
  · cases h
/-- A whole text: what it is read as, the error's place, its number. -/
def pWhole (s : ByteArray) : Re × Nat × Nat :=
  match altF s 0 with
  | .bad e => (.mk 0 0 0 0 0 [], e, 2)
  | .ok r q => if q < s.size then (.mk 0 0 0 0 0 [], q, 2) else (r, 0, 0)
end Go.Proofs.YtdliolbjngcgcaaGreatDoor.AWP
set_option maxRecDepth 100000
/- Sets of bytes, bit by bit. -/
namespace Go.Proofs.YtdliolbjngcgcaaGreatDoor.AWP
open Go
theorem u64_wrap (n : Nat) (h : n < 2 ^ 64) : IntKind.wrap .u64 (n : Int) = (n : Int) := by
  rw [IntKind.wrap_u64]; omega
theorem orW (m n : Nat) (hm : m < 2 ^ 64) (hn : n < 2 ^ 64) : bits .or .u64 (m : Int) (n : Int) = ((m ||| n : Nat) : Int) := by
  have h : m ||| n < 2 ^ 64 := Nat.or_lt_two_pow hm hn
  show IntKind.wrap .u64 ((BitVec.ofInt 64 (m : Int) ||| BitVec.ofInt 64 (n : Int)).toNat : Int) = _
  have e1 : (BitVec.ofInt 64 (m : Int)).toNat = m := by simp [BitVec.toNat_ofInt]; omega
  have e2 : (BitVec.ofInt 64 (n : Int)).toNat = n := by simp [BitVec.toNat_ofInt]; omega
  rw [BitVec.toNat_or, e1, e2, u64_wrap _ h]
theorem bit_eq (n : Nat) (h : n < 64) : bit n = ((2 ^ n : Nat) : Int) := by
  unfold bit
  rw [Nat.min_eq_left (by omega), Int.one_mul]
  have : (2 : Int) ^ n = ((2 ^ n : Nat) : Int) := by simp
  rw [this, u64_wrap]
  exact Nat.pow_lt_pow_right (by omega) h
/-- Four words. -/
def W64 (ws : List Int) : Prop := ∃ ms : List Nat, ws = ms.map (fun m : Nat => (m : Int)) ∧ ms.length = 4 ∧ ∀ m ∈ ms, m < 2 ^ 64
def hasB (ws : List Int) (n : Nat) : Bool := ((ws.getD (n / 64) 0).toNat).testBit (n % 64)
theorem W64.len {ws : List Int} (h : W64 ws) : ws.length = 4 := by obtain ⟨ms, rfl, h, _⟩ := h; simpa using h
theorem W64.getD {ws : List Int} (h : W64 ws) {j : Nat} (hj : j < 4) : ∃ m : Nat, ws.getD j 0 = (m : Int) ∧ m < 2 ^ 64 := by
  obtain ⟨ms, rfl, hl, hb⟩ := h
  have hj' : j < ms.length := by omega
  refine ⟨ms[j], by simp [List.getD_eq_getElem?_getD, hj'], hb _ (List.getElem_mem hj')⟩
theorem W64.of {ws : List Int} (hl : ws.length = 4) (h : ∀ j, j < 4 → ∃ m : Nat, ws.getD j 0 = (m : Int) ∧ m < 2 ^ 64) : W64 ws := by
  obtain ⟨a, b, c, d, rfl⟩ := four hl
  obtain ⟨m0, e0, h0⟩ := h 0 (by omega)
  obtain ⟨m1, e1, h1⟩ := h 1 (by omega)
  obtain ⟨m2, e2, h2⟩ := h 2 (by omega)
  obtain ⟨m3, e3, h3⟩ := h 3 (by omega)
  simp at e0 e1 e2 e3
  subst e0 e1 e2 e3
  refine ⟨[m0, m1, m2, m3], rfl, rfl, ?_⟩
  intro m hm
  simp only [List.mem_cons, List.not_mem_nil, or_false] at hm
  rcases hm with rfl | rfl | rfl | rfl <;> assumption
theorem W64.ext {a b : List Int} (ha : W64 a) (hb : W64 b) (h : ∀ n, n < 256 → hasB a n = hasB b n) : a = b := by
  refine List.ext_getElem? fun j => ?_
  by_cases hj : j < 4
  case neg => rw [List.getElem?_eq_none (by rw [ha.len]; omega), List.getElem?_eq_none (by rw [hb.len]; omega)]
  obtain ⟨m, e1, h1⟩ := ha.getD hj
  obtain ⟨n, e2, h2⟩ := hb.getD hj
  have hmn : m = n := by
    refine Nat.eq_of_testBit_eq fun i => ?_
    by_cases hi : i < 64
    · have := h (64 * j + i) (by omega)
      unfold hasB at this
      rw [show (64 * j + i) / 64 = j by omega, show (64 * j + i) % 64 = i by omega, e1, e2] at this
      simpa using this
    · have p1 : m < 2 ^ i := Nat.lt_of_lt_of_le h1 (Nat.pow_le_pow_right (by omega) (by omega))
      have p2 : n < 2 ^ i := Nat.lt_of_lt_of_le h2 (Nat.pow_le_pow_right (by omega) (by omega))
      rw [Nat.testBit_lt_two_pow p1, Nat.testBit_lt_two_pow p2]
  subst hmn
  rw [ws_get (by rw [ha.len]; exact hj), ws_get (by rw [hb.len]; exact hj), e1, e2]
theorem W64.none : W64 noneS := ⟨[0, 0, 0, 0], rfl, rfl, by simp⟩
theorem hasB_none (n : Nat) (h : n < 256) : hasB noneS n = false := by
  unfold hasB noneS
  have : n / 64 = 0 ∨ n / 64 = 1 ∨ n / 64 = 2 ∨ n / 64 = 3 := by omega
  rcases this with e | e | e | e <;> rw [e] <;> simp
theorem W64.set {ws : List Int} (h : W64 ws) {j m : Nat} (hm : m < 2 ^ 64) : W64 (ws.set j (m : Int)) := by
  obtain ⟨ms, rfl, hl, hb⟩ := h
  refine ⟨ms.set j m, by rw [List.map_set], by simpa using hl, fun x hx => ?_⟩
  rcases List.mem_or_eq_of_mem_set hx with h | h
  · exact hb x h
  · exact h ▸ hm
theorem hasB_set {ws : List Int} (h : W64 ws) {j m n : Nat} (hn : n < 256) (hj : j < 4) : hasB (ws.set j (m : Int)) n = if n / 64 = j then m.testBit (n % 64) else hasB ws n := by
  unfold hasB
  simp only [List.getD_eq_getElem?_getD, List.getElem?_set, h.len]
  by_cases e : j = n / 64
  · subst e
    rw [if_pos rfl, if_pos (by omega), if_pos rfl]; simp
  · rw [if_neg e, if_neg (fun h => e h.symm)]
theorem setBit_w {ws : List Int} (h : W64 ws) {n : Nat} (hn : n < 256) : ∃ m : Nat, ws.getD (n / 64) 0 = (m : Int) ∧ m < 2 ^ 64 ∧ setBit ws n = ws.set (n / 64) ((m ||| 2 ^ (n % 64) : Nat) : Int) ∧ m ||| 2 ^ (n % 64) < 2 ^ 64 := by
  obtain ⟨m, e, hm⟩ := h.getD (j := n / 64) (by omega)
  have hk : 2 ^ (n % 64) < 2 ^ 64 := Nat.pow_lt_pow_right (by omega) (Nat.mod_lt _ (by omega))
  exact ⟨m, e, hm, by unfold setBit; rw [e, bit_eq _ (Nat.mod_lt _ (by omega)), orW m _ hm hk], Nat.or_lt_two_pow hm hk⟩
theorem W64.setBit {ws : List Int} (h : W64 ws) {n : Nat} (hn : n < 256) : W64 (setBit ws n) := by
  obtain ⟨m, _, _, e, hm⟩ := setBit_w h hn
  rw [e]
  exact h.set hm
theorem hasB_setBit {ws : List Int} (h : W64 ws) {n k : Nat} (hn : n < 256) (hk : k < 256) : hasB (setBit ws n) k = (hasB ws k || decide (k = n)) := by
  obtain ⟨m, e1, hm, e, hm'⟩ := setBit_w h hn
  rw [e, hasB_set h hk (by omega)]
  by_cases ej : k / 64 = n / 64
  · rw [if_pos ej, Nat.testBit_or, Nat.testBit_two_pow]
    have : hasB ws k = m.testBit (k % 64) := by unfold hasB; rw [ej, e1]; rfl
    rw [this]
    congr 1
    rw [decide_eq_decide]
    omega
  · rw [if_neg ej]
    have : ¬ k = n := fun e => ej (by rw [e])
    simp [this]
theorem setBit_has {ws : List Int} (h : W64 ws) {n : Nat} (hn : n < 256) (hh : hasB ws n = true) : setBit ws n = ws := by
  refine (h.setBit hn).ext h fun k hk => ?_
  rw [hasB_setBit h hn hk]
  by_cases e : k = n
  · subst e; rw [hh]; rfl
  · simp [e]
theorem add_or (m k : Nat) (h : m.testBit k = false) : m + 2 ^ k = m ||| 2 ^ k := by
  have e : m = 2 ^ (k + 1) * (m / 2 ^ (k + 1)) + m % 2 ^ (k + 1) := (Nat.div_add_mod m (2 ^ (k + 1))).symm
  have hlt : m % 2 ^ (k + 1) < 2 ^ k := by
    rcases Nat.lt_or_ge (m % 2 ^ (k + 1)) (2 ^ k) with h' | h'
    · exact h'
    · exfalso
      have h1 : m % 2 ^ (k + 1) < 2 ^ (k + 1) := Nat.mod_lt _ (Nat.two_pow_pos _)
      have : (m % 2 ^ (k + 1)).testBit k = true := by
        rw [Nat.testBit_eq_decide_div_mod_eq]
        have : m % 2 ^ (k + 1) / 2 ^ k = 1 := by
          rw [Nat.pow_succ] at h1
          refine Nat.div_eq_of_lt_le (by rw [Nat.one_mul]; rw [Nat.pow_succ]; exact h') (by rw [Nat.pow_succ]; omega)
        simp [this]
      rw [Nat.testBit_mod_two_pow] at this
      simp [h] at this
  have h2 : m % 2 ^ (k + 1) + 2 ^ k < 2 ^ (k + 1) := by rw [Nat.pow_succ] at *; omega
  have h3 : m % 2 ^ (k + 1) + 2 ^ k = m % 2 ^ (k + 1) ||| 2 ^ k := by
    have := Nat.two_pow_add_eq_or_of_lt hlt 1
    rw [Nat.mul_one] at this
    rw [Nat.add_comm, this, Nat.or_comm]
  calc m + 2 ^ k = 2 ^ (k + 1) * (m / 2 ^ (k + 1)) + (m % 2 ^ (k + 1) + 2 ^ k) := by omega
    _ = 2 ^ (k + 1) * (m / 2 ^ (k + 1)) ||| (m % 2 ^ (k + 1) + 2 ^ k) := Nat.two_pow_add_eq_or_of_lt h2 _
    _ = 2 ^ (k + 1) * (m / 2 ^ (k + 1)) ||| (m % 2 ^ (k + 1) ||| 2 ^ k) := by rw [h3]
    _ = (2 ^ (k + 1) * (m / 2 ^ (k + 1)) ||| m % 2 ^ (k + 1)) ||| 2 ^ k := (Nat.or_assoc ..).symm
    _ = m ||| 2 ^ k := by rw [← Nat.two_pow_add_eq_or_of_lt (Nat.mod_lt _ (Nat.two_pow_pos _)), ← e]
/-- A byte more, by a sum. -/
theorem setBit_add {ws : List Int} (h : W64 ws) {n : Nat} (hn : n < 256) (hh : hasB ws n = false) : setBit ws n = ws.set (n / 64) (IntKind.wrap .u64 (ws.getD (n / 64) 0 + ((2 ^ (n % 64) : Nat) : Int))) := by
  obtain ⟨m, e1, hm, e, hm'⟩ := setBit_w h hn
  have hb : m.testBit (n % 64) = false := by
    have : hasB ws n = m.testBit (n % 64) := by unfold hasB; rw [e1]; rfl
    rw [← this, hh]
  have h1 := add_or m (n % 64) hb
  have hlt : m + 2 ^ (n % 64) < 2 ^ 64 := by rw [h1]; exact hm'
  rw [e, e1, ← h1]
  congr 1
  have : ((m : Int) + ((2 ^ (n % 64) : Nat) : Int)) = ((m + 2 ^ (n % 64) : Nat) : Int) := by simp
  rw [this, u64_wrap _ hlt]
theorem joinW_get {a b : List Int} (ha : W64 a) (hb : W64 b) {j : Nat} (hj : j < 4) : ∃ m n : Nat, a.getD j 0 = (m : Int) ∧ b.getD j 0 = (n : Int) ∧ (joinW a b).getD j 0 = ((m ||| n : Nat) : Int) ∧ m ||| n < 2 ^ 64 := by
  obtain ⟨m, e1, h1⟩ := ha.getD hj
  obtain ⟨n, e2, h2⟩ := hb.getD hj
  refine ⟨m, n, e1, e2, ?_, Nat.or_lt_two_pow h1 h2⟩
  have ga := ws_get (ws := a) (i := j) (by rw [ha.len]; exact hj)
  have gb := ws_get (ws := b) (i := j) (by rw [hb.len]; exact hj)
  rw [e1] at ga
  rw [e2] at gb
  have : (joinW a b)[j]? = some (bits .or .u64 (m : Int) (n : Int)) := by
    unfold joinW
    rw [List.getElem?_zipWith, ga, gb]
  rw [List.getD_eq_getElem?_getD, this, Option.getD_some, orW m n h1 h2]
theorem W64.joinW {a b : List Int} (ha : W64 a) (hb : W64 b) : W64 (joinW a b) :=
  W64.of (joinW_len ha.len hb.len) fun j hj => let ⟨m, n, _, _, h1, h2⟩ := joinW_get ha hb hj; ⟨_, h1, h2⟩
theorem hasB_joinW {a b : List Int} (ha : W64 a) (hb : W64 b) {n : Nat} (hn : n < 256) : hasB (joinW a b) n = (hasB a n || hasB b n) := by
  obtain ⟨m, k, e1, e2, e3, _⟩ := joinW_get ha hb (j := n / 64) (by omega)
  unfold hasB
  rw [e1, e2, e3]
  show (m ||| k).testBit _ = (m.testBit _ || k.testBit _)
  rw [Nat.testBit_or]
theorem W64.joinAll2 {a b : List Int} (ha : W64 a) (hb : W64 b) : W64 (joinAll [a, b]) := (W64.none.joinW ha).joinW hb
theorem hasB_joinAll2 {a b : List Int} (ha : W64 a) (hb : W64 b) {n : Nat} (hn : n < 256) : hasB (joinAll [a, b]) n = (hasB a n || hasB b n) := by
  show hasB (AWP.joinW (AWP.joinW noneS a) b) n = _
  rw [hasB_joinW (W64.none.joinW ha) hb hn, hasB_joinW W64.none ha hn, hasB_none n hn, Bool.false_or]
theorem rangeS_w (low : Nat) : ∀ n, low + n ≤ 256 → W64 (rangeS low n)
  | 0, _ => W64.none
  | n + 1, h => (rangeS_w low n (by omega)).setBit (by omega)
theorem ofS_w (l : List UInt8) : W64 (ofS l) := by
  unfold ofS
  suffices ∀ ws : List Int, W64 ws → W64 (l.foldl (fun ws b => AWP.setBit ws b.toNat) ws) from this _ W64.none
  induction l with
  | nil => intro ws h; exact h
  | cons b l ih => intro ws h; exact ih _ (h.setBit (by have := b.toNat_lt; omega))
/-! ### Signs, once more -/
theorem specAny (b : UInt8) : decide (0 ≤ firstIdx spec1 b) = (List.range 9).any fun j => spec1.data[j]? == some b :=
  all_ofNat (p := fun b => decide (0 ≤ firstIdx spec1 b) = (List.range 9).any fun j => spec1.data[j]? == some b) (by decide +kernel) b
theorem plain_of (b : UInt8) (h : ∀ j, j < 9 → spec1.data[j]? ≠ some b) : plain b = !(decide (b.toNat < 33) || decide (126 < b.toNat)) := by
  have : decide (0 ≤ firstIdx spec1 b) = false := by
    rw [specAny, List.any_eq_false]
    intro j hj
    simpa using h j (by simpa using hj)
  unfold plain
  rw [this, Bool.or_false]
theorem plain_not (b : UInt8) {j : Nat} (hj : j < 9) (h : spec1.data[j]? = some b) : plain b = false := by
  have : decide (0 ≤ firstIdx spec1 b) = true := by
    rw [specAny, List.any_eq_true]
    exact ⟨j, by simpa using hj, by simp [h]⟩
  unfold plain
  rw [this, Bool.or_true]; rfl
theorem hexVal (b : UInt8) : firstIdx hexS b = if 48 ≤ b.toNat ∧ b.toNat ≤ 57 then (b.toNat : Int) - 48 else if 97 ≤ b.toNat ∧ b.toNat ≤ 102 then (b.toNat : Int) - 87 else -1 :=
  all_ofNat (p := fun b => firstIdx hexS b = if 48 ≤ b.toNat ∧ b.toNat ≤ 57 then (b.toNat : Int) - 48 else if 97 ≤ b.toNat ∧ b.toNat ≤ 102 then (b.toNat : Int) - 87 else -1) (by decide +kernel) b
theorem one_idx (c b : UInt8) : decide (0 ≤ firstIdx ⟨#[c]⟩ b) = decide (c = b) := by
  rw [firstIdx_nn]
  have : (⟨#[c]⟩ : ByteArray).size = 1 := rfl
  rw [this]
  simp only [List.range_one, List.any_cons, List.any_nil, Bool.or_false]
  show (c == b) = _
  by_cases h : c = b <;> simp [h]
/-- Some of a sign's two digits. -/
def accN (s : ByteArray) (p : Nat) : Nat → Nat
  | 0 => 0
  | 1 => hexAt s (p + 1)
  | _ => 16 * hexAt s (p + 1) + hexAt s (p + 2)
theorem pSign_bad {s : ByteArray} {p i : Nat} (h : begB s p = true) (h92 : (s.data.getD p 0).toNat = 92) (hi : i < 2) (h1 : 1 ≤ i → isB s (p + 1) hexS = true) (hb : isB s (p + (i + 1)) hexS = false) : pSign s p = .bad (p + (i + 1)) := by
  unfold pSign
  rw [if_pos h, if_pos h92]
  have : i = 0 ∨ i = 1 := by omega
  rcases this with rfl | rfl
  · rw [if_neg (by rw [hb]; simp)]
  · rw [if_pos (h1 (by omega)), if_neg (by rw [show p + 2 = p + (1 + 1) from rfl, hb]; simp)]
theorem hexAt_le (s : ByteArray) (p : Nat) : hexAt s p ≤ 15 := by
  unfold hexAt
  have := hexS_le (s.data.getD p 0)
  omega
theorem accN_succ {s : ByteArray} {p i : Nat} (hi : i < 2) : accN s p (i + 1) = 16 * accN s p i + hexAt s (p + (i + 1)) := by
  have : i = 0 ∨ i = 1 := by omega
  rcases this with rfl | rfl
  · show hexAt s (p + 1) = 16 * 0 + hexAt s (p + 1); omega
  · rfl
theorem accN_le (s : ByteArray) (p i : Nat) : accN s p i ≤ 255 := by
  unfold accN
  have h1 := hexAt_le s (p + 1)
  have h2 := hexAt_le s (p + 2)
  split <;> omega
theorem hexD_ext (n : Nat) (h : n < 16) : hexS.extract n (n + 1) = ⟨#[hexD n]⟩ := by
  have e : n = 0 ∨ n = 1 ∨ n = 2 ∨ n = 3 ∨ n = 4 ∨ n = 5 ∨ n = 6 ∨ n = 7 ∨ n = 8 ∨ n = 9 ∨ n = 10 ∨ n = 11 ∨ n = 12 ∨ n = 13 ∨ n = 14 ∨ n = 15 := by omega
  rcases e with rfl | rfl | rfl | rfl | rfl | rfl | rfl | rfl | rfl | rfl | rfl | rfl | rfl | rfl | rfl | rfl <;> rfl
end Go.Proofs.YtdliolbjngcgcaaGreatDoor.AWP
set_option maxRecDepth 100000
/- How many nodes; which may be; how many are read. -/
namespace Go.Proofs.YtdliolbjngcgcaaGreatDoor.AWP
open Go
mutual
def Re.sz : Re → Nat
  | .mk _ _ _ _ _ ks => 1 + Re.szs ks
def Re.szs : List Re → Nat
  | [] => 0
  | r :: l => r.sz + Re.szs l
end
theorem Re.szs_app (l m : List Re) : Re.szs (l ++ m) = Re.szs l + Re.szs m := by
  induction l with
  | nil => simp [Re.szs]
  | cons r l ih => simp only [List.cons_append, Re.szs, ih]; omega
theorem Re.sz_pos (r : Re) : 1 ≤ r.sz := by cases r; rw [Re.sz]; omega
theorem Re.len_szs (l : List Re) : l.length ≤ Re.szs l := by
  induction l with
  | nil => simp
  | cons r l ih => have := r.sz_pos; simp only [List.length_cons, Re.szs]; omega
theorem Re.sz_mem {l : List Re} {r : Re} (h : r ∈ l) : r.sz ≤ Re.szs l := by
  induction l with
  | nil => cases h
  | cons x l ih =>
    rw [Re.szs]
    rcases List.mem_cons.1 h with rfl | h
    · omega
    · have := ih h; omega
def Re.kids : Re → List Re
  | .mk _ _ _ _ _ ks => ks
theorem Re.sz_kids (r : Re) : r.sz = 1 + Re.szs r.kids := by cases r; rw [Re.sz]; rfl
def Re.nodeOk : Re → Bool
  | .mk k a b c d ks =>
    let bare := decide (a = 0 ∧ b = 0 ∧ c = 0 ∧ d = 0)
    if k = 1 ∨ k = 2 then decide (ks.length = 0) && bare
    else if k = 3 then decide (ks.length = 0) && !bare
    else if k = 4 ∨ k = 5 then decide (ks.length = 2) && bare
    else if k = 6 then decide (ks.length = 1) && bare
    else false
mutual
def Re.nodesOk : Re → Bool
  | .mk k a b c d ks => Re.nodeOk (.mk k a b c d ks) && Re.nodesOks ks
def Re.nodesOks : List Re → Bool
  | [] => true
  | r :: l => r.nodesOk && Re.nodesOks l
end
theorem Re.nodesOks_any (l : List Re) : Re.nodesOks l = !(l.any fun r => !r.nodesOk) := by
  induction l with
  | nil => rfl
  | cons r l ih => rw [Re.nodesOks, ih]; simp
def mayB (r : Re) : Bool := r.nodesOk && decide (r.sz ≤ 2000)
theorem Re.c_5 (r : Re) : r.c[5]? = some (Res r.kids) := by cases r; rw [Re.c_mk]; rfl
theorem Re.szs_take {l : List Re} {i : Nat} {x : Re} (h : l[i]? = some x) : Re.szs (l.take (i + 1)) = Re.szs (l.take i) + 1 + Re.szs x.kids := by
  rw [List.take_add_one, h, Re.szs_app]
  have := x.sz_kids
  simp [Re.szs]; omega
theorem Re.szs_take_le (l : List Re) (i : Nat) : Re.szs (l.take i) ≤ Re.szs l := by
  have := Re.szs_app (l.take i) (l.drop i)
  rw [List.take_append_drop] at this
  omega
/-! ### The nodes, each ahead of its kids -/
mutual
def Re.pre : Re → List Re
  | .mk k a b c d ks => .mk k a b c d ks :: Re.pres ks
def Re.pres : List Re → List Re
  | [] => []
  | r :: l => r.pre ++ Re.pres l
end
theorem Re.pres_app (l m : List Re) : Re.pres (l ++ m) = Re.pres l ++ Re.pres m := by
  induction l with
  | nil => simp [Re.pres]
  | cons r l ih => simp only [List.cons_append, Re.pres, ih, List.append_assoc]
theorem Re.pres_take {l : List Re} {i : Nat} {x : Re} (h : l[i]? = some x) : Re.pres (l.take (i + 1)) = Re.pres (l.take i) ++ x.pre := by
  rw [List.take_add_one, h, Re.pres_app]
  simp [Re.pres]
theorem Re.pres_len1 (l : List Re) (h : ∀ r ∈ l, r.pre.length = r.sz) : (Re.pres l).length = Re.szs l := by
  induction l with
  | nil => simp [Re.pres, Re.szs]
  | cons r l ih =>
    rw [Re.pres, Re.szs, List.length_append, h r (by simp), ih fun x hx => h x (by simp [hx])]
theorem Re.pre_len (r : Re) : r.pre.length = r.sz := by
  refine Re.ind (p := fun r => r.pre.length = r.sz) ?_ r
  intro k a b c d ks ih
  rw [Re.pre, Re.sz, List.length_cons, Re.pres_len1 ks ih]; omega
theorem Re.pres_len (l : List Re) : (Re.pres l).length = Re.szs l := Re.pres_len1 l fun r _ => r.pre_len
theorem Re.nodesOks_pres (l : List Re) (h : ∀ r ∈ l, r.nodesOk = r.pre.all Re.nodeOk) : Re.nodesOks l = (Re.pres l).all Re.nodeOk := by
  induction l with
  | nil => simp [Re.pres, Re.nodesOks]
  | cons r l ih =>
    rw [Re.pres, Re.nodesOks, List.all_append, h r (by simp), ih fun x hx => h x (by simp [hx])]
theorem Re.nodesOk_pre (r : Re) : r.nodesOk = r.pre.all Re.nodeOk := by
  refine Re.ind (p := fun r => r.nodesOk = r.pre.all Re.nodeOk) ?_ r
  intro k a b c d ks ih
  rw [Re.pre, Re.nodesOk, List.all_cons, Re.nodesOks_pres ks ih]
/-! ### What is read has no more than two nodes for each byte -/
theorem reS_sz (ws : List Int) : (reS ws).sz = 1 := by unfold reS; split <;> simp [Re.sz, Re.szs]
theorem foldR_sz (kind : Int) (l : List Re) (x : Re) : (foldR kind l x).sz = Re.szs l + x.sz + l.length := by
  induction l with
  | nil => simp [foldR, Re.szs]
  | cons y l ih =>
    show (Re.mk kind 0 0 0 0 [y, foldR kind l x]).sz = _
    rw [Re.sz]
    simp only [Re.szs, ih, List.length_cons]
    omega
theorem foldL_sz (kind none : Int) (l : List Re) (h : l ≠ []) : (foldL kind none l).sz + 1 = Re.szs l + l.length := by
  rcases List.eq_nil_or_concat l with h' | ⟨m, x, rfl⟩
  · exact absurd h' h
  · rw [List.concat_eq_append]
    have e : foldL kind none (m ++ [x]) = foldR kind m x := by simp [foldL]
    rw [e, foldR_sz, Re.szs_app]
    simp [Re.szs]; omega
theorem clsGo_sz {s : ByteArray} : ∀ (n : Nat) (ws : List Int) (p : Nat) {r : Re} {q : Nat}, s.size - p ≤ n → clsGo s ws p = .ok r q → r.sz = 1 := by
  intro n
  induction n with
  | zero =>
    intro ws p r q hn h
    rw [clsGo] at h
    split at h
    · cases h; exact reS_sz _
    · split at h
      · cases h
      · rename_i lo q1 hs
        have := pSign_lt hs
        omega
  | succ n ih =>
    intro ws p r q hn h
    rw [clsGo] at h
    split at h
    · cases h; exact reS_sz _
    · split at h
      · cases h
      · rename_i lo q1 hs
        split at h
        case isFalse => cases h
        split at h
        · split at h
          · cases h
          · split at h
            · cases h
            · split at h
              case isFalse => cases h
              exact ih _ _ (by omega) h
        · exact ih _ _ (by omega) h
theorem starGo_sz {s : ByteArray} : ∀ (n : Nat) (r : Re) (p : Nat), s.size - p ≤ n → p ≤ s.size → (starGo s r p).1.sz + p = r.sz + (starGo s r p).2 := by
  intro n
  induction n with
  | zero =>
    intro r p hn hp
    rw [starGo]
    split
    · rename_i h; have := isB_lt h; omega
    · rfl
  | succ n ih =>
    intro r p hn hp
    rw [starGo]
    split
    · rename_i h; have := isB_lt h
      have := ih (.mk 6 0 0 0 0 [r]) (p + 1) (by omega) (by omega)
      have e : (Re.mk 6 0 0 0 0 [r]).sz = 1 + r.sz := by rw [Re.sz]; simp [Re.szs]
      rw [e] at this
      omega
    · rfl
def Szd (A : Nat → PR) (s : ByteArray) : Prop := ∀ {p r q}, A p = .ok r q → r.sz + 1 ≤ 2 * (q - p) ∧ p < q ∧ q ≤ s.size
section
variable {A : Nat → PR} {s : ByteArray}
theorem Szd.fwd (h : Szd A s) : Fwd A s := fun h' => by have := h h'; omega
theorem pAtom_sz (hA : Szd A s) {p : Nat} {r : Re} {q : Nat} (h : pAtom A s p = .ok r q) : r.sz + 1 ≤ 2 * (q - p) := by
  have hlt := pAtom_lt hA.fwd h
  unfold pAtom at h
  split at h
  · cases h; rw [reS_sz]; omega
  split at h
  · have := clsGo_sz _ _ _ (Nat.le_refl _) h; omega
  split at h
  · split at h
    · cases h; simp [Re.sz, Re.szs]
    · split at h
      · cases h
      · rename_i h1
        have := hA h1
        split at h
        · cases h; omega
        · cases h
  · split at h
    · cases h
    · cases h; rw [reS_sz]; omega
theorem pPart_sz (hA : Szd A s) {p : Nat} {r : Re} {q : Nat} (h : pPart A s p = .ok r q) : r.sz + 1 ≤ 2 * (q - p) := by
  unfold pPart at h
  split at h
  · cases h
  · rename_i r1 q1 h1
    have h2 := pAtom_sz hA h1
    have h3 := pAtom_lt hA.fwd h1
    have h4 := starGo_sz _ r1 q1 (Nat.le_refl _) h3.2
    have h5 := starGo_le _ r1 q1 (Nat.le_refl _) h3.2
    cases h
    omega
theorem rowGo_sz (hA : Szd A s) (p0 : Nat) : ∀ (n : Nat) (l : List Re) (p : Nat) {r : Re} {q : Nat}, s.size - p ≤ n → p0 ≤ p → p ≤ s.size → l ≠ [] → Re.szs l + l.length ≤ 2 * (p - p0) → rowGo A s l p = .ok r q → r.sz + 1 ≤ 2 * (q - p0) := by
  intro n
  induction n with
  | zero =>
    intro l p r q hn hp0 hp hl hz h
    rw [rowGo] at h
    split at h
    · split at h
      · cases h
      · rename_i h1
        have := pPart_lt hA.fwd h1
        omega
    · cases h; rw [foldL_sz _ _ _ hl]; exact hz
  | succ n ih =>
    intro l p r q hn hp0 hp hl hz h
    rw [rowGo] at h
    split at h
    · split at h
      · cases h
      · rename_i r1 q1 h1
        have h2 := pPart_sz hA h1
        split at h
        case isFalse => cases h
        refine ih _ _ (by omega) (by omega) (by omega) (by simp) ?_ h
        rw [Re.szs_app]
        simp [Re.szs]
        omega
    · cases h; rw [foldL_sz _ _ _ hl]; exact hz
theorem pRow_sz (hA : Szd A s) {p : Nat} {r : Re} {q : Nat} (h : pRow A s p = .ok r q) : r.sz + 1 ≤ 2 * (q - p) := by
  unfold pRow at h
  split at h
  · cases h
  · rename_i r1 q1 h1
    have h2 := pPart_lt hA.fwd h1
    have h3 := pPart_sz hA h1
    exact rowGo_sz hA p _ _ _ (Nat.le_refl _) (by omega) h2.2 (by simp) (by simp [Re.szs]; omega) h
theorem altGo_sz (hA : Szd A s) (p0 : Nat) : ∀ (n : Nat) (l : List Re) (p : Nat) {r : Re} {q : Nat}, s.size - p ≤ n → p0 ≤ p → p ≤ s.size → l ≠ [] → Re.szs l + l.length ≤ 2 * (p - p0) → altGo A s l p = .ok r q → r.sz + 1 ≤ 2 * (q - p0) := by
  intro n
  induction n with
  | zero =>
    intro l p r q hn hp0 hp hl hz h
    rw [altGo] at h
    split at h
    · rename_i h0; have := isB_lt h0; omega
    · cases h; rw [foldL_sz _ _ _ hl]; exact hz
  | succ n ih =>
    intro l p r q hn hp0 hp hl hz h
    rw [altGo] at h
    split at h
    · split at h
      · cases h
      · rename_i r1 q1 h1
        have h2 := pRow_sz hA h1
        have h3 := pRow_lt hA.fwd h1
        split at h
        case isFalse => cases h
        refine ih _ _ (by omega) (by omega) (by omega) (by simp) ?_ h
        rw [Re.szs_app]
        simp [Re.szs]
        omega
    · cases h; rw [foldL_sz _ _ _ hl]; exact hz
theorem pAlt_sz (hA : Szd A s) {p : Nat} {r : Re} {q : Nat} (h : pAlt A s p = .ok r q) : r.sz + 1 ≤ 2 * (q - p) := by
  unfold pAlt at h
  split at h
  · cases h
  · rename_i r1 q1 h1
    have h2 := pRow_lt hA.fwd h1
    have h3 := pRow_sz hA h1
    exact altGo_sz hA p _ _ _ (Nat.le_refl _) (by omega) h2.2 (by simp) (by simp [Re.szs]; omega) h
end
theorem altF_sz {s : ByteArray} : ∀ (n p : Nat) {r : Re} {q : Nat}, s.size - p ≤ n → altF s p = .ok r q → r.sz + 1 ≤ 2 * (q - p) := by
  intro n
  induction n with
  | zero =>
    intro p r q hn h
    rw [altF_eq] at h
    refine pAlt_sz ?_ h
    intro p' r' q' h'
    unfold altA at h'
    split at h'
    · omega
    · cases h'
  | succ n ih =>
    intro p r q hn h
    rw [altF_eq] at h
    refine pAlt_sz ?_ h
    intro p' r' q' h'
    unfold altA at h'
    split at h'
    · have := ih _ (by omega) h'
      have := altF_lt _ _ (Nat.le_refl _) h'
      omega
    · cases h'
theorem pWhole_sz (s : ByteArray) : (pWhole s).1.sz ≤ 2 * s.size + 1 := by
  unfold pWhole
  split
  · simp [Re.sz, Re.szs]
  · rename_i r q h
    have h1 := altF_sz _ _ (Nat.le_refl _) h
    have h2 := altF_lt _ _ (Nat.le_refl _) h
    split
    · simp [Re.sz, Re.szs]
    · dsimp only; omega
/-- What Read hands back. -/
def pRead (s : ByteArray) : Re × Nat × Nat :=
  if 65536 < s.size then (.mk 0 0 0 0 0 [], 0, 3) else
  if (pWhole s).2.2 = 0 ∧ mayB (pWhole s).1 = false then (.mk 0 0 0 0 0 [], 0, 4) else pWhole s
end Go.Proofs.YtdliolbjngcgcaaGreatDoor.AWP
/- Where an error stands: not behind the text's end. -/
namespace Go.Proofs.YtdliolbjngcgcaaGreatDoor.AWP
open Go
theorem sgn_bad {s : ByteArray} {p e : Nat} (hp : p ≤ s.size) (h : pSign s p = .bad e) : e ≤ s.size := by
  unfold pSign at h
  split at h
  case isFalse => cases h; exact hp
  rename_i h0
  have := begB_lt h0
  split at h
  · split at h
    · split at h
      · cases h
      · rename_i h1 _; have := isB_lt h1; cases h; omega
    · cases h; omega
  · cases h
theorem clsGo_bad {s : ByteArray} : ∀ (n : Nat) (ws : List Int) (p : Nat) {e : Nat}, s.size - p ≤ n → p ≤ s.size → clsGo s ws p = .bad e → e ≤ s.size := by
  intro n
  induction n with
  | zero =>
    intro ws p e hn hp h
    rw [clsGo] at h
    split at h
    · cases h
    · split at h
      · rename_i hs; cases h; exact sgn_bad hp hs
      · rename_i lo q1 hs
        have := pSign_lt hs
        omega
  | succ n ih =>
    intro ws p e hn hp h
    rw [clsGo] at h
    split at h
    · cases h
    · split at h
      · rename_i hs; cases h; exact sgn_bad hp hs
      · rename_i lo q1 hs
        split at h
        case isFalse => cases h; exact Nat.zero_le _
        rename_i hq
        split at h
        · rename_i hd
          have hd := isB_lt hd
          split at h
          · rename_i hs2; cases h; exact sgn_bad (by omega) hs2
          · split at h
            · cases h; omega
            · split at h
              case isFalse => cases h; exact Nat.zero_le _
              exact ih _ _ (by omega) (by omega) h
        · exact ih _ _ (by omega) (by omega) h
def Bdd (A : Nat → PR) (s : ByteArray) : Prop := ∀ {p e}, p ≤ s.size → A p = .bad e → e ≤ s.size
section
variable {A : Nat → PR} {s : ByteArray}
theorem pAtom_bad (hA : Fwd A s) (hB : Bdd A s) {p e : Nat} (hp : p ≤ s.size) (h : pAtom A s p = .bad e) : e ≤ s.size := by
  unfold pAtom at h
  split at h
  · cases h
  split at h
  · rename_i h0; have := isB_lt h0; exact clsGo_bad _ _ _ (Nat.le_refl _) (by omega) h
  split at h
  · rename_i h0
    have := isB_lt h0
    split at h
    · cases h
    · split at h
      · rename_i h1; cases h; exact hB (by omega) h1
      · rename_i h1
        have := hA h1
        split at h
        · cases h
        · cases h; omega
  · split at h
    · rename_i h1; cases h; exact sgn_bad hp h1
    · cases h
theorem pPart_bad (hA : Fwd A s) (hB : Bdd A s) {p e : Nat} (hp : p ≤ s.size) (h : pPart A s p = .bad e) : e ≤ s.size := by
  unfold pPart at h
  split at h
  · rename_i h1; cases h; exact pAtom_bad hA hB hp h1
  · cases h
theorem rowGo_bad (hA : Fwd A s) (hB : Bdd A s) : ∀ (n : Nat) (l : List Re) (p : Nat) {e : Nat}, s.size - p ≤ n → p ≤ s.size → rowGo A s l p = .bad e → e ≤ s.size := by
  intro n
  induction n with
  | zero =>
    intro l p e hn hp h
    rw [rowGo] at h
    split at h
    · split at h
      · rename_i h1; cases h; exact pPart_bad hA hB hp h1
      · rename_i h1
        have := pPart_lt hA h1
        omega
    · cases h
  | succ n ih =>
    intro l p e hn hp h
    rw [rowGo] at h
    split at h
    · split at h
      · rename_i h1; cases h; exact pPart_bad hA hB hp h1
      · split at h
        case isFalse => cases h; exact Nat.zero_le _
        exact ih _ _ (by omega) (by omega) h
    · cases h
theorem pRow_bad (hA : Fwd A s) (hB : Bdd A s) {p e : Nat} (hp : p ≤ s.size) (h : pRow A s p = .bad e) : e ≤ s.size := by
  unfold pRow at h
  split at h
  · rename_i h1; cases h; exact pPart_bad hA hB hp h1
  · rename_i h1
    have h2 := pPart_lt hA h1
    exact rowGo_bad hA hB _ _ _ (Nat.le_refl _) h2.2 h
theorem altGo_bad (hA : Fwd A s) (hB : Bdd A s) : ∀ (n : Nat) (l : List Re) (p : Nat) {e : Nat}, s.size - p ≤ n → p ≤ s.size → altGo A s l p = .bad e → e ≤ s.size := by
  intro n
  induction n with
  | zero =>
    intro l p e hn hp h
    rw [altGo] at h
    split at h
    · rename_i h0
      have := isB_lt h0
      omega
    · cases h
  | succ n ih =>
    intro l p e hn hp h
    rw [altGo] at h
    split at h
    · rename_i h0
      have := isB_lt h0
      split at h
      · rename_i h1; cases h; exact pRow_bad hA hB (by omega) h1
      · split at h
        case isFalse => cases h; exact Nat.zero_le _
        exact ih _ _ (by omega) (by omega) h
    · cases h
theorem pAlt_bad (hA : Fwd A s) (hB : Bdd A s) {p e : Nat} (hp : p ≤ s.size) (h : pAlt A s p = .bad e) : e ≤ s.size := by
  unfold pAlt at h
  split at h
  · rename_i h1; cases h; exact pRow_bad hA hB hp h1
  · rename_i h1
    have h2 := pRow_lt hA h1
    exact altGo_bad hA hB _ _ _ (Nat.le_refl _) h2.2 h
end
theorem altF_bad {s : ByteArray} : ∀ (n p : Nat) {e : Nat}, s.size - p ≤ n → p ≤ s.size → altF s p = .bad e → e ≤ s.size := by
  intro n
  induction n with
  | zero =>
    intro p e hn hp h
    rw [altF] at h
    refine pAlt_bad ?_ ?_ hp h
    · intro q r q' hq
      dsimp only at hq
      split at hq
      · omega
      · cases hq
    · intro q e' hq he
      dsimp only at he
      split at he
      · omega
      · cases he; exact Nat.zero_le _
  | succ n ih =>
    intro p e hn hp h
    rw [altF] at h
    refine pAlt_bad ?_ ?_ hp h
    · intro q r q' hq
      dsimp only at hq
      split at hq
      · have := altF_lt _ _ (Nat.le_refl _) hq; omega
      · cases hq
    · intro q e' hq he
      dsimp only at he
      split at he
      · exact ih _ (by omega) hq he
      · cases he; exact Nat.zero_le _
theorem pRead_at (s : ByteArray) : (pRead s).2.1 ≤ s.size := by
  unfold pRead
  split
  · exact Nat.zero_le _
  split
  · exact Nat.zero_le _
  unfold pWhole
  split
  · rename_i h; exact altF_bad _ _ (Nat.le_refl _) (Nat.zero_le _) h
  · rename_i h
    have := altF_lt _ _ (Nat.le_refl _) h
    split
    · exact this.2
    · exact Nat.zero_le _
end Go.Proofs.YtdliolbjngcgcaaGreatDoor.AWP
/- Rows in order that are merged; rows that are turned round: plain laws. -/
namespace Go.Proofs.YtdliolbjngcgcaaGreatDoor.AWP
open Go
end Go.Proofs.YtdliolbjngcgcaaGreatDoor.AWP
set_option maxRecDepth 100000
/- Which expressions fit the empty text; which fit nothing. -/
namespace Go.Proofs.YtdliolbjngcgcaaGreatDoor.AWP
open Go
def Re.nul : Re → Bool
  | .mk k _ _ _ _ [x, y] => if k = 4 then x.nul && y.nul else if k = 5 then x.nul || y.nul else decide (k = 2 ∨ k = 6)
  | .mk k _ _ _ _ _ => decide (k = 2 ∨ k = 6)
def Re.fit : Re → Bool
  | .mk k _ _ _ _ [x, y] => if k = 4 then x.fit && y.fit else if k = 5 then x.fit || y.fit else decide (k ≠ 1)
  | .mk k _ _ _ _ _ => decide (k ≠ 1)
/-- First bytes. -/
def Re.fst : Re → List Int
  | .mk k _ _ _ _ [x, y] => if k = 4 then (if x.fit && y.fit then (if x.nul then joinAll [x.fst, y.fst] else x.fst) else noneS) else joinAll [x.fst, y.fst]
  | .mk _ _ _ _ _ [x] => x.fst
  | .mk k a b c d _ => if k = 3 then [a, b, c, d] else noneS
/-- What nodes there are. -/
theorem Re.ok_cases {r : Re} (h : r.nodesOk = true) : (∃ k, (k = 1 ∨ k = 2) ∧ r = .mk k 0 0 0 0 []) ∨ (∃ a b c d, ¬ (a = 0 ∧ b = 0 ∧ c = 0 ∧ d = 0) ∧ r = .mk 3 a b c d []) ∨
    (∃ k x y, (k = 4 ∨ k = 5) ∧ r = .mk k 0 0 0 0 [x, y] ∧ x.nodesOk = true ∧ y.nodesOk = true) ∨ ∃ x, r = .mk 6 0 0 0 0 [x] ∧ x.nodesOk = true := by
  obtain ⟨k, a, b, c, d, ks⟩ := r
  rw [Re.nodesOk, Bool.and_eq_true] at h
  obtain ⟨h1, h2⟩ := h
  unfold Re.nodeOk at h1
  dsimp only at h1
  split at h1
  · rename_i hk
    simp only [Bool.and_eq_true, decide_eq_true_eq] at h1
    obtain ⟨e, rfl, rfl, rfl, rfl⟩ := h1
    exact .inl ⟨k, hk, by rw [List.eq_nil_of_length_eq_zero e]⟩
  split at h1
  · rename_i hk
    subst hk
    simp only [Bool.and_eq_true, decide_eq_true_eq, Bool.not_eq_true', decide_eq_false_iff_not] at h1
    exact .inr (.inl ⟨a, b, c, d, h1.2, by rw [List.eq_nil_of_length_eq_zero h1.1]⟩)
  split at h1
  · rename_i hk
    simp only [Bool.and_eq_true, decide_eq_true_eq] at h1
    obtain ⟨e, rfl, rfl, rfl, rfl⟩ := h1
    match ks, e with
    | [x, y], _ =>
      rw [Re.nodesOks, Re.nodesOks, Re.nodesOks] at h2
      simp only [Bool.and_eq_true, and_true] at h2
      exact .inr (.inr (.inl ⟨k, x, y, hk, rfl, h2.1, h2.2⟩))
  split at h1
  · rename_i hk
    subst hk
    simp only [Bool.and_eq_true, decide_eq_true_eq] at h1
    obtain ⟨e, rfl, rfl, rfl, rfl⟩ := h1
    match ks, e with
    | [x], _ =>
      rw [Re.nodesOks, Re.nodesOks] at h2
      simp only [Bool.and_eq_true, and_true] at h2
      exact .inr (.inr (.inr ⟨x, rfl, h2⟩))
  · cases h1
/-- By these nodes. -/
theorem Re.indOk {p : Re → Prop} (h12 : ∀ k, (k = 1 ∨ k = 2) → p (.mk k 0 0 0 0 [])) (h3 : ∀ a b c d, ¬ (a = 0 ∧ b = 0 ∧ c = 0 ∧ d = 0) → p (.mk 3 a b c d []))
    (h45 : ∀ k x y, (k = 4 ∨ k = 5) → x.nodesOk = true → y.nodesOk = true → p x → p y → p (.mk k 0 0 0 0 [x, y])) (h6 : ∀ x, x.nodesOk = true → p x → p (.mk 6 0 0 0 0 [x])) (r : Re) : r.nodesOk = true → p r := by
  refine Re.ind (p := fun r => r.nodesOk = true → p r) ?_ r
  intro k a b c d ks ih h
  rcases Re.ok_cases h with ⟨k', hk, e⟩ | ⟨a', b', c', d', hn, e⟩ | ⟨k', x, y, hk, e, hx, hy⟩ | ⟨x, e, hx⟩
  · cases e; exact h12 k hk
  · cases e; exact h3 a b c d hn
  · cases e; exact h45 k x y hk hx hy (ih x (by simp) hx) (ih y (by simp) hy)
  · cases e; exact h6 x hx (ih x (by simp) hx)
/-! ### All words in range -/
mutual
def Re.wd : Re → Prop
  | .mk _ a b c d ks => W64 [a, b, c, d] ∧ Re.wds ks
def Re.wds : List Re → Prop
  | [] => True
  | r :: l => r.wd ∧ Re.wds l
end
theorem Re.wds_of : ∀ {l : List Re}, (∀ x ∈ l, x.wd) → Re.wds l
  | [], _ => by rw [Re.wds]; trivial
  | r :: l, h => by rw [Re.wds]; exact ⟨h r (by simp), Re.wds_of fun x hx => h x (by simp [hx])⟩
/-! ### Counted as far as some -/
theorem intsEq_W : ∀ (a b : List Int), a.length = b.length → intsEq (a.map wD) (b.map wD) = some (decide (a = b))
  | [], [], _ => rfl
  | [], _ :: _, h => by cases h
  | _ :: _, [], h => by cases h
  | x :: a, y :: b, h => by
    have ih := intsEq_W a b (by simpa using h)
    show (intsEq (a.map wD) (b.map wD)).map (fun r => x == y && r) = _
    rw [ih]
    show some (x == y && decide (a = b)) = _
    congr 1
    by_cases h1 : x = y
    · subst h1; simp
    · rw [beq_false h1]; simp [h1]
end Go.Proofs.YtdliolbjngcgcaaGreatDoor.AWP
set_option maxRecDepth 100000
/- Normal forms of expressions. -/
namespace Go.Proofs.YtdliolbjngcgcaaGreatDoor.AWP
open Go
def Re.kd : Re → Int
  | .mk k _ _ _ _ _ => k
def Re.set : Re → List Int
  | .mk _ a b c d _ => [a, b, c, d]
/-- What one stands for in an Alt. -/
def Re.fl : Re → List Re
  | .mk k a b c d [x, y] => if k = 1 then [] else if k = 5 then x.fl ++ y.fl else [.mk k a b c d [x, y]]
  | .mk k a b c d ks => if k = 1 then [] else [.mk k a b c d ks]
/-! ### Nodes may be -/
theorem nodesOk_cls {a b c d : Int} (h : ¬ (a = 0 ∧ b = 0 ∧ c = 0 ∧ d = 0)) : (Re.mk 3 a b c d []).nodesOk = true := by
  rw [Re.nodesOk, Re.nodesOks]; simp [Re.nodeOk, h]
/-! ### Words in range -/
/-! ### What comes of them -/
/-! ### Sizes -/
/-! ### Words in range, once more -/
end Go.Proofs.YtdliolbjngcgcaaGreatDoor.AWP
set_option maxRecDepth 100000
/- A text in round brackets is read as it is alone. -/
namespace Go.Proofs.YtdliolbjngcgcaaGreatDoor.AWP
open Go
/-- A text stands in another one, from k on, a closing bracket behind it. -/
structure Sh (s s' : ByteArray) (k : Nat) : Prop where
  get : ∀ i, i < s.size → s'.data[k + i]? = s.data[i]?
  stop : s'.data[k + s.size]? = some 41
section
variable {s s' : ByteArray} {k : Nat}
theorem Sh.lt (h : Sh s s' k) : k + s.size < s'.size := (Array.getElem?_eq_some_iff.1 h.stop).1
theorem Sh.isI (h : Sh s s' k) {p : Nat} (hp : p < s.size) (l : ByteArray) : isB s' (k + p) l = isB s p l := by
  unfold isB
  rw [h.get p hp]
theorem Sh.isE (h : Sh s s' k) {p : Nat} (hp : p ≤ s.size) {l : ByteArray} (hl : decide (0 ≤ firstIdx l 41) = false) : isB s' (k + p) l = isB s p l := by
  by_cases h1 : p < s.size
  · exact h.isI h1 l
  · have e : p = s.size := by omega
    subst e
    rw [isB_end h1, isB_at h.stop, hl]
theorem Sh.beg (h : Sh s s' k) {p : Nat} (hp : p ≤ s.size) : begB s' (k + p) = begB s p := by
  unfold begB
  rw [h.isE hp (by decide +kernel)]
  by_cases h1 : p < s.size
  · rw [h.get p h1]
  · have e : p = s.size := by omega
    subst e
    rw [h.stop, Array.getElem?_eq_none (by exact Nat.le_of_not_lt h1)]
    simp only [show plain 41 = false from by decide +kernel]
theorem Sh.getD (h : Sh s s' k) {p : Nat} (hp : p < s.size) : s'.data.getD (k + p) 0 = s.data.getD p 0 := by
  rw [Array.getD_eq_getD_getElem?, Array.getD_eq_getD_getElem?, h.get p hp]
theorem Sh.sign (h : Sh s s' k) {p : Nat} {b : UInt8} {q : Nat} (hs : pSign s p = .ok b q) : pSign s' (k + p) = .ok b (k + q) := by
  unfold pSign at hs ⊢
  split at hs
  case isFalse => cases hs
  rename_i h0
  have hp := begB_lt h0
  rw [h.beg (by omega), if_pos h0, h.getD hp]
  split at hs
  case isFalse hn =>
    rw [if_neg hn]
    cases hs; rfl
  rename_i h92
  rw [if_pos h92]
  split at hs
  case isFalse => cases hs
  rename_i h1
  have hp1 := isB_lt h1
  split at hs
  case isFalse => cases hs
  rename_i h2
  have hp2 := isB_lt h2
  rw [show k + p + 1 = k + (p + 1) from by omega, show k + p + 2 = k + (p + 2) from by omega, h.isI hp1, h.isI hp2, if_pos h1, if_pos h2]
  unfold hexAt
  rw [h.getD hp1, h.getD hp2]
  cases hs; rfl
theorem Sh.cls (h : Sh s s' k) : ∀ (n : Nat) (ws : List Int) (p : Nat) {r : Re} {q : Nat}, s.size - p ≤ n → p ≤ s.size → clsGo s ws p = .ok r q → clsGo s' ws (k + p) = .ok r (k + q) := by
  intro n
  induction n with
  | zero =>
    intro ws p r q hn hp h'
    have := clsGo_lt _ _ _ (Nat.le_refl _) h'
    omega
  | succ n ih =>
    intro ws p r q hn hp h'
    have hsz := h.lt
    rw [clsGo] at h' ⊢
    rw [h.isE hp (by decide +kernel)]
    split at h'
    · rename_i h0
      rw [if_pos h0]; cases h'; rfl
    rename_i h0
    rw [if_neg h0]
    split at h'
    · cases h'
    rename_i lo q1 hs
    have hq := pSign_lt hs
    rw [h.sign hs]
    dsimp only
    rw [dif_pos (by omega)]
    rw [dif_pos hq] at h'
    rw [h.isE hq.2 (by decide +kernel)]
    split at h'
    · rename_i hd
      have hd' := isB_lt hd
      rw [if_pos hd]
      split at h'
      · cases h'
      rename_i hi q2 hs2
      have hq2 := pSign_lt hs2
      rw [show k + q1 + 1 = k + (q1 + 1) from by omega, h.sign hs2]
      dsimp only
      split at h'
      · cases h'
      rename_i hlt
      rw [if_neg hlt, dif_pos (by omega)]
      rw [dif_pos (by omega)] at h'
      exact ih _ _ (by omega) (by omega) h'
    · rename_i hd
      rw [if_neg hd]
      exact ih _ _ (by omega) (by omega) h'
theorem Sh.star (h : Sh s s' k) : ∀ (n : Nat) (r : Re) (p : Nat), s.size - p ≤ n → p ≤ s.size → starGo s' r (k + p) = ((starGo s r p).1, k + (starGo s r p).2) := by
  intro n
  induction n with
  | zero =>
    intro r p hn hp
    have e := h.isE (l := cStar) hp (by decide +kernel)
    have e2 : isB s p cStar = false := isB_end (by omega)
    have e1 : isB s' (k + p) cStar = false := by rw [e, e2]
    rw [starGo, dif_neg (by rw [e1]; simp)]
    conv => rhs; rw [starGo, dif_neg (by rw [e2]; simp)]
  | succ n ih =>
    intro r p hn hp
    have e := h.isE (l := cStar) hp (by decide +kernel)
    rw [starGo]
    conv => rhs; rw [starGo]
    by_cases hb : isB s p cStar = true
    · have := isB_lt hb
      rw [dif_pos (by rw [e]; exact hb), dif_pos hb]
      exact ih _ (p + 1) (by omega) (by omega)
    · rw [dif_neg (by rw [e]; exact hb), dif_neg hb]
variable {A A' : Nat → PR}
theorem Sh.atom (h : Sh s s' k) (hA : Fwd A s) (hh : ∀ {p r q}, A p = .ok r q → A' (k + p) = .ok r (k + q)) {p : Nat} {r : Re} {q : Nat} (hp : p ≤ s.size) (h' : pAtom A s p = .ok r q) : pAtom A' s' (k + p) = .ok r (k + q) := by
  unfold pAtom at h' ⊢
  rw [h.isE hp (by decide +kernel), h.isE hp (by decide +kernel), h.isE hp (by decide +kernel)]
  split at h'
  · rename_i h0
    rw [if_pos h0]; cases h'; rfl
  rename_i h0
  rw [if_neg h0]
  split at h'
  · rename_i h1
    have := isB_lt h1
    rw [if_pos h1]
    exact h.cls _ _ (p + 1) (Nat.le_refl _) (by omega) h'
  rename_i h1
  rw [if_neg h1]
  split at h'
  · rename_i h2
    have hlt := isB_lt h2
    rw [if_pos h2, show k + p + 1 = k + (p + 1) from by omega]
    split at h'
    · rename_i h3
      have hlt3 := isB_lt h3
      rw [h.isI hlt3, if_pos h3]
      cases h'; rfl
    rename_i h3
    split at h'
    · cases h'
    rename_i r1 q1 ha
    have hf := hA ha
    split at h'
    case isFalse => cases h'
    rename_i h4
    have hlt4 := isB_lt h4
    rw [h.isI (by omega), if_neg h3, hh ha]
    dsimp only
    rw [h.isI hlt4, if_pos h4]
    cases h'; rfl
  rename_i h2
  rw [if_neg h2]
  split at h'
  · cases h'
  rename_i b q1 hs
  rw [h.sign hs]
  cases h'; rfl
theorem Sh.part (h : Sh s s' k) (hA : Fwd A s) (hh : ∀ {p r q}, A p = .ok r q → A' (k + p) = .ok r (k + q)) {p : Nat} {r : Re} {q : Nat} (hp : p ≤ s.size) (h' : pPart A s p = .ok r q) : pPart A' s' (k + p) = .ok r (k + q) := by
  unfold pPart at h' ⊢
  split at h'
  · cases h'
  rename_i r1 q1 h1
  have hlt := pAtom_lt hA h1
  rw [h.atom hA hh hp h1]
  dsimp only
  rw [h.star _ _ q1 (Nat.le_refl _) hlt.2]
  cases h'; rfl
theorem Sh.rowG (h : Sh s s' k) (hA : Fwd A s) (hh : ∀ {p r q}, A p = .ok r q → A' (k + p) = .ok r (k + q)) : ∀ (n : Nat) (l : List Re) (p : Nat) {r : Re} {q : Nat}, s.size - p ≤ n → p ≤ s.size → rowGo A s l p = .ok r q → rowGo A' s' l (k + p) = .ok r (k + q) := by
  intro n
  induction n with
  | zero =>
    intro l p r q hn hp h'
    have e : (isB s p cAtom || begB s p) = false := by rw [isB_end (by omega), begB_end (by omega)]; rfl
    rw [rowGo] at h' ⊢
    rw [h.isE hp (by decide +kernel), h.beg hp, e]
    rw [e] at h'
    rw [if_neg (by simp)] at h' ⊢
    cases h'; rfl
  | succ n ih =>
    intro l p r q hn hp h'
    have hsz := h.lt
    rw [rowGo] at h' ⊢
    rw [h.isE hp (by decide +kernel), h.beg hp]
    split at h'
    · rename_i h0
      rw [if_pos h0]
      split at h'
      · cases h'
      rename_i r1 q1 h1
      have hlt := pPart_lt hA h1
      rw [h.part hA hh hp h1]
      dsimp only
      rw [dif_pos (by omega)] at h' ⊢
      exact ih _ _ (by omega) (by omega) h'
    · rename_i h0
      rw [if_neg h0]
      cases h'; rfl
theorem Sh.row (h : Sh s s' k) (hA : Fwd A s) (hh : ∀ {p r q}, A p = .ok r q → A' (k + p) = .ok r (k + q)) {p : Nat} {r : Re} {q : Nat} (hp : p ≤ s.size) (h' : pRow A s p = .ok r q) : pRow A' s' (k + p) = .ok r (k + q) := by
  unfold pRow at h' ⊢
  split at h'
  · cases h'
  rename_i r1 q1 h1
  have hlt := pPart_lt hA h1
  rw [h.part hA hh hp h1]
  exact h.rowG hA hh _ _ q1 (Nat.le_refl _) hlt.2 h'
theorem Sh.altG (h : Sh s s' k) (hA : Fwd A s) (hh : ∀ {p r q}, A p = .ok r q → A' (k + p) = .ok r (k + q)) : ∀ (n : Nat) (l : List Re) (p : Nat) {r : Re} {q : Nat}, s.size - p ≤ n → p ≤ s.size → altGo A s l p = .ok r q → altGo A' s' l (k + p) = .ok r (k + q) := by
  intro n
  induction n with
  | zero =>
    intro l p r q hn hp h'
    have e : isB s p cBar = false := isB_end (by omega)
    rw [altGo] at h' ⊢
    rw [h.isE hp (by decide +kernel), e]
    rw [e] at h'
    rw [if_neg (by simp)] at h' ⊢
    cases h'; rfl
  | succ n ih =>
    intro l p r q hn hp h'
    have hsz := h.lt
    rw [altGo] at h' ⊢
    rw [h.isE hp (by decide +kernel)]
    split at h'
    · rename_i h0
      have hb := isB_lt h0
      rw [if_pos h0]
      split at h'
      · cases h'
      rename_i r1 q1 h1
      have hlt := pRow_lt hA h1
      rw [show k + p + 1 = k + (p + 1) from by omega, h.row hA hh (by omega) h1]
      dsimp only
      rw [dif_pos (by omega)] at h' ⊢
      exact ih _ _ (by omega) (by omega) h'
    · rename_i h0
      rw [if_neg h0]
      cases h'; rfl
theorem Sh.alt (h : Sh s s' k) (hA : Fwd A s) (hh : ∀ {p r q}, A p = .ok r q → A' (k + p) = .ok r (k + q)) {p : Nat} {r : Re} {q : Nat} (hp : p ≤ s.size) (h' : pAlt A s p = .ok r q) : pAlt A' s' (k + p) = .ok r (k + q) := by
  unfold pAlt at h' ⊢
  split at h'
  · cases h'
  rename_i r1 q1 h1
  have hlt := pRow_lt hA h1
  rw [h.row hA hh hp h1]
  exact h.altG hA hh _ _ q1 (Nat.le_refl _) hlt.2 h'
end
/-! ### The answer -/
theorem pRead_ok {s : ByteArray} (h : (pRead s).2.2 = 0) : altF s 0 = .ok (pRead s).1 s.size ∧ mayB (pRead s).1 = true ∧ s.size ≤ 65536 := by
  unfold pRead at h ⊢
  split at h
  · cases h
  rename_i h1
  split at h
  · cases h
  rename_i h2
  rw [if_neg h1, if_neg h2]
  have hm : mayB (pWhole s).1 = true := by
    cases hm : mayB (pWhole s).1
    · exact absurd ⟨h, hm⟩ h2
    · rfl
  refine ⟨?_, hm, by omega⟩
  unfold pWhole at h ⊢
  split at h
  · cases h
  rename_i r q hq
  have hlt := altF_lt _ _ (Nat.le_refl _) hq
  split at h
  · cases h
  rename_i h3
  rw [if_neg h3, hq]
  congr 1; omega
theorem pRead_of {s : ByteArray} {r : Re} (h : altF s 0 = .ok r s.size) (hm : mayB r = true) (hs : s.size ≤ 65536) : pRead s = (r, 0, 0) := by
  have hw : pWhole s = (r, 0, 0) := by
    unfold pWhole
    rw [h]
    dsimp only
    rw [if_neg (by omega)]
  unfold pRead
  rw [if_neg (by omega), hw, if_neg (by simp [hm])]
theorem starGo_no {s : ByteArray} {r : Re} {p : Nat} (h : isB s p cStar = false) : starGo s r p = (r, p) := by
  rw [starGo, dif_neg (by rw [h]; simp)]
/-! ### The texts -/
end Go.Proofs.YtdliolbjngcgcaaGreatDoor.AWP
set_option maxRecDepth 100000
/- From which place to which a text fits an expression. -/
namespace Go.Proofs.YtdliolbjngcgcaaGreatDoor.AWP
open Go
theorem shrN (m k : Nat) : ((m : Nat) : Int).fdiv (2 ^ k) = ((m / 2 ^ k : Nat) : Int) := by
  have e : (2 : Int) ^ k = ((2 ^ k : Nat) : Int) := by simp
  rw [e, Int.fdiv_eq_ediv_of_nonneg _ (Int.natCast_nonneg _)]
  rfl
/-- As often as one likes. -/
inductive StarR (R : Nat → Nat → Prop) : Nat → Nat → Prop where
  | refl (i : Nat) : StarR R i i
  | step {i j k : Nat} (h : StarR R i j) (h' : R j k) : StarR R i k
theorem StarR.one {R : Nat → Nat → Prop} {i j : Nat} (h : R i j) : StarR R i j := .step (.refl i) h
theorem StarR.trans {R : Nat → Nat → Prop} {i j k : Nat} (h : StarR R i j) (h' : StarR R j k) : StarR R i k := by
  induction h' with
  | refl => exact h
  | step _ h2 ih => exact .step ih h2
theorem StarR.mono {R R' : Nat → Nat → Prop} (hr : ∀ i j, R i j → R' i j) {i j : Nat} (h : StarR R i j) : StarR R' i j := by
  induction h with
  | refl => exact .refl _
  | step _ h2 ih => exact .step ih (hr _ _ h2)
def byteAt (s : ByteArray) (i : Nat) : Nat := (s.data.getD i 0).toNat
/-- From i to j. -/
def Re.mt (s : ByteArray) : Re → Nat → Nat → Prop
  | .mk k _ _ _ _ [x, y] => fun i j => if k = 4 then ∃ m, x.mt s i m ∧ y.mt s m j else x.mt s i j ∨ y.mt s i j
  | .mk _ _ _ _ _ [x] => StarR (x.mt s)
  | .mk k a b c d _ => fun i j => (k = 2 ∧ i = j) ∨ (k = 3 ∧ i < s.size ∧ j = i + 1 ∧ hasB [a, b, c, d] (byteAt s i) = true)
/-! ### Places -/
abbrev On (p : List Bool) (i : Nat) : Prop := p[i]? = some true
theorem On.lt {p : List Bool} {i : Nat} (h : On p i) : i < p.length := (List.getElem?_eq_some_iff.1 h).1
open Classical in
/-! ### A text's rest -/
theorem StarR.shift {R R' : Nat → Nat → Prop} {k : Nat} (h : ∀ i j, R' i j ↔ R (k + i) (k + j)) (hR : ∀ i j, R i j → i ≤ j) {i j : Nat} : StarR R' i j ↔ StarR R (k + i) (k + j) := by
  constructor
  · intro hs
    induction hs with
    | refl => exact .refl _
    | step _ h2 ih => exact .step ih ((h _ _).1 h2)
  · intro hs
    generalize ha : k + i = a at hs
    generalize hb : k + j = b at hs
    induction hs generalizing j with
    | refl => have : i = j := by omega
              rw [this]; exact .refl _
    | step hs1 h2 ih =>
      rename_i m b'
      have hle : a ≤ m := by
        clear ih h2
        induction hs1 with
        | refl => exact Nat.le_refl _
        | step _ h2 ih2 => exact Nat.le_trans (ih2) (hR _ _ h2)
      obtain ⟨m', hm'⟩ : ∃ m', m = k + m' := ⟨m - k, by omega⟩
      subst hm'
      subst hb
      exact .step (ih rfl) ((h _ _).2 h2)
/-! ### Places, by kind -/
/-! ### The places' numbers -/
end Go.Proofs.YtdliolbjngcgcaaGreatDoor.AWP
set_option maxRecDepth 100000
/- The lowest bit of a word. -/
namespace Go.Proofs.YtdliolbjngcgcaaGreatDoor.AWP
open Go
theorem low_bit : ∀ (w : Nat), w ≠ 0 → ∃ k q, w = 2 ^ k * (2 * q + 1) := by
  intro w
  induction w using Nat.strongRecOn with
  | _ w ih =>
    intro h
    rcases Nat.mod_two_eq_zero_or_one w with e | e
    · obtain ⟨k, q, hk⟩ := ih (w / 2) (by omega) (by omega)
      refine ⟨k + 1, q, ?_⟩
      have : w = 2 * (w / 2) := by omega
      rw [this, hk, Nat.pow_succ]
      rw [Nat.mul_comm (2 ^ k) 2, Nat.mul_assoc]
    · exact ⟨0, w / 2, by omega⟩
theorem bit_mul (k a j : Nat) : (2 ^ k * a).testBit j = (decide (k ≤ j) && a.testBit (j - k)) := by
  rw [Nat.testBit_two_pow_mul]
theorem clear_low (k q : Nat) : (2 ^ k * (2 * q + 1)) &&& (2 ^ k * (2 * q + 1) - 1) = 2 ^ k * (2 * q) := by
  have hp : 0 < 2 ^ k := Nat.two_pow_pos k
  have e : 2 ^ k * (2 * q + 1) - 1 = 2 ^ k * (2 * q) + (2 ^ k - 1) := by rw [Nat.mul_add]; omega
  apply Nat.eq_of_testBit_eq
  intro j
  rw [Nat.testBit_and, e, Nat.testBit_two_pow_mul_add _ (by omega), bit_mul, bit_mul]
  by_cases h : j < k
  · simp [h, show ¬ k ≤ j by omega]
  · rw [if_neg h]
    have hk : k ≤ j := by omega
    simp only [hk, decide_true, Bool.true_and]
    cases hj : j - k with
    | zero => simp
    | succ n => simp [Nat.testBit_succ, show (2 * q + 1) / 2 = q by omega]
theorem and_neg (k q : Nat) (h : 2 ^ k * (2 * q + 1) < 2 ^ 64) : (2 ^ k * (2 * q + 1)) &&& (2 ^ 64 - 2 ^ k * (2 * q + 1)) = 2 ^ k := by
  have hk : k < 64 := by
    rcases Nat.lt_or_ge k 64 with hk | hk
    · exact hk
    · have h1 : 2 ^ 64 ≤ 2 ^ k := Nat.pow_le_pow_right (by omega) hk
      have h2 : 2 ^ k ≤ 2 ^ k * (2 * q + 1) := Nat.le_mul_of_pos_right _ (by omega)
      omega
  obtain ⟨m, hm⟩ : ∃ m, 64 = k + (m + 1) := ⟨63 - k, by omega⟩
  have e64 : (2 : Nat) ^ 64 = 2 ^ (k + (m + 1)) := by rw [← hm]
  rw [e64] at h ⊢
  have hq : 2 * q + 1 < 2 ^ (m + 1) := by
    rw [Nat.pow_add] at h
    exact Nat.lt_of_mul_lt_mul_left h
  have hq2 : q < 2 ^ m := by rw [Nat.pow_succ] at hq; omega
  have e : 2 ^ (k + (m + 1)) - 2 ^ k * (2 * q + 1) = 2 ^ k * (2 * (2 ^ m - (q + 1)) + 1) := by
    rw [Nat.pow_add, ← Nat.mul_sub]
    congr 1
    rw [Nat.pow_succ]; omega
  rw [e]
  apply Nat.eq_of_testBit_eq
  intro j
  rw [Nat.testBit_and, bit_mul, bit_mul, Nat.testBit_two_pow]
  by_cases hj : k ≤ j
  · simp only [hj, decide_true, Bool.true_and]
    cases hjk : j - k with
    | zero =>
      have : k = j := by omega
      simp [this]
    | succ n =>
      have : ¬ k = j := by omega
      rw [Nat.testBit_succ, Nat.testBit_succ, show (2 * q + 1) / 2 = q by omega, show (2 * (2 ^ m - (q + 1)) + 1) / 2 = 2 ^ m - (q + 1) by omega, Nat.testBit_two_pow_sub_succ hq2]
      simp [this]
      intro h1 h2
      exact h1
  · have : ¬ k = j := by omega
    simp [hj, this]
/-- The bits that are set. -/
def bitsL (w : Nat) : List Nat := (List.range 64).filter fun n => w.testBit n
theorem bitsL_zero : bitsL 0 = [] := by
  unfold bitsL
  rw [List.filter_eq_nil_iff]
  intro n _
  simp
theorem bitsL_step (k q : Nat) (hk : k < 64) : bitsL (2 ^ k * (2 * q + 1)) = k :: bitsL (2 ^ k * (2 * q)) := by
  unfold bitsL
  have e : List.range 64 = List.range k ++ (k :: (List.range (63 - k)).map (k + 1 + ·)) := by
    have h1 : 64 = k + (1 + (63 - k)) := by omega
    conv => lhs; rw [h1]
    rw [List.range_add, List.range_add]
    simp [Nat.add_assoc]
  rw [e, List.filter_append, List.filter_append, List.filter_cons, List.filter_cons]
  have a1 : (List.range k).filter (fun n => (2 ^ k * (2 * q + 1)).testBit n) = [] := by
    rw [List.filter_eq_nil_iff]
    intro n hn
    have : n < k := List.mem_range.1 hn
    rw [bit_mul]; simp; omega
  have a2 : (List.range k).filter (fun n => (2 ^ k * (2 * q)).testBit n) = [] := by
    rw [List.filter_eq_nil_iff]
    intro n hn
    have : n < k := List.mem_range.1 hn
    rw [bit_mul]; simp; omega
  rw [a1, a2]
  have b1 : (2 ^ k * (2 * q + 1)).testBit k = true := by rw [bit_mul]; simp
  have b2 : (2 ^ k * (2 * q)).testBit k = false := by rw [bit_mul]; simp
  rw [b1, b2]
  simp only [List.nil_append, if_true, Bool.false_eq_true, if_false, List.cons.injEq, true_and]
  refine List.filter_congr fun n hn => ?_
  obtain ⟨t, _, rfl⟩ := List.mem_map.1 hn
  rw [bit_mul, bit_mul]
  have : k + 1 + t - k = t + 1 := by omega
  rw [this, Nat.testBit_succ, Nat.testBit_succ, show (2 * q + 1) / 2 = q by omega, show 2 * q / 2 = q by omega]
end Go.Proofs.YtdliolbjngcgcaaGreatDoor.AWP
set_option maxRecDepth 100000
/- Expressions' texts: what they are, and that they are read as they were. -/
namespace Go.Proofs.YtdliolbjngcgcaaGreatDoor.AWP
open Go
/-! ### The bytes of a set -/
def hasL (ws : List Int) (n : Nat) : List Nat := (List.range n).filter fun b => hasB ws b
theorem hasL_len (ws : List Int) (n : Nat) : (hasL ws n).length ≤ n := by
  have := List.length_filter_le (fun b => hasB ws b) (List.range n)
  simpa [hasL] using this
theorem hasL_mem {ws : List Int} {n b : Nat} : b ∈ hasL ws n ↔ b < n ∧ hasB ws b = true := by simp [hasL]
theorem hasL_sorted (ws : List Int) (n : Nat) : (hasL ws n).Pairwise (· < ·) := List.Pairwise.filter _ List.pairwise_lt_range
/-! ### Runs -/
def runLen : Nat → List Nat → Nat
  | _, [] => 0
  | b, c :: l => if c = b + 1 then runLen c l + 1 else 0
theorem runLen_mem : ∀ (b : Nat) (l : List Nat) (x : Nat), x ∈ l ↔ (b < x ∧ x ≤ b + runLen b l) ∨ x ∈ l.drop (runLen b l)
  | _, [], x => by simp [runLen] <;> omega
  | b, c :: l, x => by
    rw [runLen]
    split
    · rename_i h
      subst h
      rw [List.mem_cons, runLen_mem (b + 1) l x, List.drop_succ_cons]
      constructor
      · rintro (h | h | h)
        · exact .inl (by omega)
        · exact .inl (by omega)
        · exact .inr h
      · rintro (h | h)
        · by_cases e : x = b + 1
          · exact .inl e
          · exact .inr (.inl (by omega))
        · exact .inr (.inr h)
    · rw [List.drop_zero]
      constructor
      · exact .inr
      · rintro (h | h)
        · omega
        · exact h
theorem runLen_lt : ∀ (b : Nat) (l : List Nat) (n : Nat), b < n → (∀ x ∈ l, x < n) → b + runLen b l < n
  | b, [], n, hb, _ => hb
  | b, c :: l, n, hb, h => by
    rw [runLen]
    split
    · have := runLen_lt c l n (h c (by simp)) fun x hx => h x (by simp [hx])
      omega
    · exact hb
/-- What comes behind a run isn't its next one. -/
theorem runLen_next : ∀ (b : Nat) (l : List Nat), (b :: l).Pairwise (· < ·) → ∀ x ∈ l.drop (runLen b l), b + runLen b l + 1 < x
  | b, [], _, x, hx => by simp at hx
  | b, c :: l, hp, x, hx => by
    rw [runLen] at hx ⊢
    rw [List.pairwise_cons] at hp
    split at hx
    · rename_i h
      rw [if_pos h]
      have := runLen_next c l hp.2 x (by simpa using hx)
      omega
    · rename_i h
      rw [if_neg h]
      rw [List.drop_zero, List.mem_cons] at hx
      have h1 := hp.1 c (by simp)
      have h2 := List.pairwise_cons.1 hp.2
      rcases hx with rfl | hx
      · omega
      · have := h2.1 x hx; omega
def ub (n : Nat) : UInt8 := UInt8.ofNat n
theorem ub_nat {n : Nat} (h : n < 256) : (ub n).toNat = n := by unfold ub; rw [UInt8.toNat_ofNat']; omega
def rng (b n : Nat) : List UInt8 := signB (ub b) ++ ((if 1 < n then [45] else []) ++ (if 0 < n then signB (ub (b + n)) else []))
def runsL : List Nat → List UInt8
  | [] => []
  | b :: l => rng b (runLen b l) ++ runsL (l.drop (runLen b l))
termination_by l => l.length
decreasing_by simp; omega
def setT (ws : List Int) : List UInt8 :=
  if (hasL ws 256).length = 256 then [46] else
  match hasL ws 256 with
  | [b] => signB (ub b)
  | l => 91 :: (runsL l ++ [93])
theorem signB_len (b : UInt8) : 1 ≤ (signB b).length ∧ (signB b).length ≤ 3 := by unfold signB; split <;> simp [hexB]
theorem rng_len (b n : Nat) : (rng b n).length + 1 ≤ 2 * (n + 2) ∨ (rng b n).length ≤ 2 * (n + 2) := by
  have h1 := signB_len (ub b)
  have h2 := signB_len (ub (b + n))
  unfold rng
  refine .inr ?_
  rw [List.length_append, List.length_append]
  split <;> split <;> simp <;> omega
theorem rng_len7 (b n : Nat) : (rng b n).length ≤ 7 := by
  have h1 := signB_len (ub b)
  have h2 := signB_len (ub (b + n))
  unfold rng
  rw [List.length_append, List.length_append]
  split <;> split <;> simp <;> omega
theorem runs_len : ∀ (n : Nat) (l : List Nat) (b : Nat), l.length ≤ n → l.Pairwise (· < ·) → (∀ x ∈ l, b ≤ x ∧ x < 256) → b ≤ 257 → (runsL l).length ≤ 2 * (257 - b) := by
  intro n
  induction n with
  | zero =>
    intro l b hn hp hl hb
    have : l = [] := List.eq_nil_of_length_eq_zero (by omega)
    subst this
    rw [runsL]; simp
  | succ n ih =>
    intro l b hn hp hl hb
    cases l with
    | nil => rw [runsL]; simp
    | cons c l =>
      have hc := hl c (by simp)
      have h1 := runLen_lt c l 256 hc.2 fun x hx => (hl x (by simp [hx])).2
      have h2 := runLen_next c l hp
      have h3 := ih (l.drop (runLen c l)) (c + runLen c l + 2) (by simp at hn ⊢; omega) ((List.pairwise_cons.1 hp).2.sublist (List.drop_sublist _ _)) (fun x hx => ⟨by have := h2 x hx; omega, (hl x (by simp [List.mem_of_mem_drop hx])).2⟩) (by omega)
      have h4 := rng_len c (runLen c l)
      rw [runsL, List.length_append]
      omega
theorem setT_len (ws : List Int) : (setT ws).length ≤ 516 := by
  unfold setT
  split
  · simp
  split
  · rename_i b _; have := signB_len (ub b); omega
  · have := runs_len _ (hasL ws 256) 0 (Nat.le_refl _) (hasL_sorted ws 256) (fun x hx => ⟨by omega, (hasL_mem.1 hx).1⟩) (by omega)
    simp; omega
/-! ### A text stands at a place -/
def At (s : ByteArray) : Nat → List UInt8 → Prop
  | _, [] => True
  | p, c :: l => s.data[p]? = some c ∧ At s (p + 1) l
theorem At_app {s : ByteArray} : ∀ (l m : List UInt8) (p : Nat), At s p (l ++ m) ↔ At s p l ∧ At s (p + l.length) m
  | [], m, p => by simp [At]
  | c :: l, m, p => by
    rw [List.cons_append, At, At, At_app l m (p + 1), List.length_cons, show p + 1 + l.length = p + (l.length + 1) from by omega, and_assoc]
theorem At_le {s : ByteArray} : ∀ (l : List UInt8) (p : Nat), At s p l → l ≠ [] → p + l.length ≤ s.size
  | [], p, _, h => absurd rfl h
  | [c], p, h, _ => by
    have := (Array.getElem?_eq_some_iff.1 h.1).1
    have h2 : s.data.size = s.size := rfl
    simp; omega
  | c :: d :: l, p, h, _ => by
    have := At_le (d :: l) (p + 1) h.2 (by simp)
    simp at this ⊢; omega
theorem At_of (m : List UInt8) : ∀ (l : List UInt8) (pre : List UInt8), At ⟨(pre ++ (l ++ m)).toArray⟩ pre.length l
  | [], pre => trivial
  | c :: l, pre => by
    refine ⟨by simp, ?_⟩
    have := At_of m l (pre ++ [c])
    simpa using this
theorem At_all (l : List UInt8) : At ⟨l.toArray⟩ 0 l := by simpa using At_of [] l []
/-! ### Signs -/
theorem isB_of {s l : ByteArray} {p : Nat} {b : UInt8} (hb : s.data[p]? = some b) {v : Bool} (h : decide (0 ≤ firstIdx l b) = v) : isB s p l = v := by rw [isB_at hb, h]
/-- How a sign begins. -/
def begC (c : UInt8) : Bool := plain c || c == 92
theorem begC_not (c : UInt8) (h : begC c = true) : decide (0 ≤ firstIdx cRb c) = false ∧ decide (0 ≤ firstIdx cDash c) = false ∧ decide (0 ≤ firstIdx cDot c) = false ∧ decide (0 ≤ firstIdx cLb c) = false ∧ decide (0 ≤ firstIdx cLp c) = false ∧
    decide (0 ≤ firstIdx cRp c) = false ∧ decide (0 ≤ firstIdx cStar c) = false ∧ decide (0 ≤ firstIdx cBar c) = false := by
  revert h
  exact all_ofNat (p := fun c => begC c = true → decide (0 ≤ firstIdx cRb c) = false ∧ decide (0 ≤ firstIdx cDash c) = false ∧ decide (0 ≤ firstIdx cDot c) = false ∧ decide (0 ≤ firstIdx cLb c) = false ∧ decide (0 ≤ firstIdx cLp c) = false ∧
    decide (0 ≤ firstIdx cRp c) = false ∧ decide (0 ≤ firstIdx cStar c) = false ∧ decide (0 ≤ firstIdx cBar c) = false) (by decide +kernel) c
theorem begC_beg {s : ByteArray} {p : Nat} {c : UInt8} (hc : s.data[p]? = some c) (h : begC c = true) : begB s p = true := by
  unfold begB
  rw [isB_at hc, hc]
  revert h
  exact all_ofNat (p := fun c => begC c = true → (decide (0 ≤ firstIdx ⟨#[92]⟩ c) || plain c) = true) (by decide +kernel) c
theorem signB_cons (b : UInt8) : ∃ c l, signB b = c :: l ∧ begC c = true := by
  unfold signB
  split
  · rename_i h; exact ⟨b, [], rfl, by simp [begC, h]⟩
  · exact ⟨92, hexB b, rfl, by decide⟩
theorem hexD_is (n : Nat) : decide (0 ≤ firstIdx hexS (hexD n)) = true ∧ (firstIdx hexS (hexD n)).toNat = n % 16 := by
  have h : hexD n = hexD (n % 16) := by unfold hexD; rw [Nat.mod_mod]
  rw [h]
  have hn : n % 16 < 16 := Nat.mod_lt _ (by omega)
  generalize n % 16 = k at hn
  revert k
  have : ∀ k : _root_.Fin 16, decide (0 ≤ firstIdx hexS (hexD k.val)) = true ∧ (firstIdx hexS (hexD k.val)).toNat = k.val := by decide +kernel
  exact fun k hk => this ⟨k, hk⟩
theorem sign_at {s : ByteArray} {p : Nat} {b : UInt8} (h : At s p (signB b)) : pSign s p = .ok b (p + (signB b).length) := by
  obtain ⟨c, l, hcl, hc⟩ := signB_cons b
  have h0 : s.data[p]? = some c := by rw [hcl] at h; exact h.1
  unfold pSign
  rw [if_pos (begC_beg h0 hc), at_of h0]
  unfold signB at hcl h ⊢
  by_cases hp : plain b = true
  · rw [if_pos hp] at hcl h ⊢
    cases hcl
    rw [if_neg]
    · rfl
    · intro e
      have : b = 92 := UInt8.toNat_inj.1 (by simpa using e)
      subst this
      revert hp; decide
  · rw [if_neg hp] at hcl h ⊢
    cases hcl
    obtain ⟨h1, h2, h3, _⟩ := h
    obtain ⟨e2, f2⟩ := hexD_is (b.toNat / 16)
    obtain ⟨e3, f3⟩ := hexD_is b.toNat
    rw [if_pos (by decide), isB_of h2 e2, if_pos rfl, show p + 2 = p + 1 + 1 from rfl, isB_of h3 e3, if_pos rfl]
    unfold hexAt
    rw [at_of h2, at_of h3, f2, f3]
    have hb := b.toNat_lt
    congr 1
    apply UInt8.toNat_inj.1
    rw [UInt8.toNat_ofNat']
    omega
theorem sign_beg {s : ByteArray} {p : Nat} {b : UInt8} {m : List UInt8} (h : At s p (signB b ++ m)) : ∃ c, s.data[p]? = some c ∧ begC c = true := by
  obtain ⟨c, l, hcl, hc⟩ := signB_cons b
  rw [hcl] at h
  exact ⟨c, h.1, hc⟩
/-! ### A class -/
theorem hasB_rangeS {low k : Nat} (hk : k < 256) : ∀ n, low + n ≤ 256 → hasB (rangeS low n) k = decide (low ≤ k ∧ k < low + n)
  | 0, _ => by rw [rangeS, hasB_none k hk]; symm; simp <;> omega
  | n + 1, h => by
    rw [rangeS, hasB_setBit (rangeS_w low n (by omega)) (by omega) hk, hasB_rangeS hk n (by omega), Bool.eq_iff_iff, Bool.or_eq_true, decide_eq_true_eq, decide_eq_true_eq, decide_eq_true_eq]
    omega
theorem hasB_ofS1 (b : UInt8) {k : Nat} (hk : k < 256) : hasB (ofS [b]) k = decide (k = b.toNat) := by
  show hasB (setBit noneS b.toNat) k = _
  rw [hasB_setBit W64.none b.toNat_lt hk, hasB_none k hk, Bool.false_or]
/-- One item. -/
theorem cls_item {s : ByteArray} {ws : List Int} {p : Nat} {b : Nat} {c : UInt8} (hb : b < 256) (h : At s p (signB (ub b))) (hn : s.data[p + (signB (ub b)).length]? = some c) (hd : decide (0 ≤ firstIdx cDash c) = false) :
    clsGo s ws p = clsGo s (joinAll [ws, rangeS b 1]) (p + (signB (ub b)).length) := by
  have hl := signB_len (ub b)
  have hle := At_le _ _ h (by intro e; rw [e] at hl; simp at hl)
  obtain ⟨c0, h0, hc0⟩ := sign_beg (m := []) (by rw [List.append_nil]; exact h)
  rw [clsGo, isB_of h0 (begC_not c0 hc0).1, if_neg (by simp), sign_at h]
  dsimp only
  rw [dif_pos (by omega), isB_of hn hd, if_neg (by simp), ub_nat hb, show b + 1 - b = 1 by omega]
theorem cls_range {s : ByteArray} {ws : List Int} {p : Nat} {b n : Nat} (hb : b + n < 256) (h : At s p (signB (ub b) ++ (45 :: signB (ub (b + n))))) :
    clsGo s ws p = clsGo s (joinAll [ws, rangeS b (n + 1)]) (p + (signB (ub b) ++ (45 :: signB (ub (b + n)))).length) := by
  have hl := signB_len (ub b)
  have hl2 := signB_len (ub (b + n))
  have hle := At_le _ _ h (by simp)
  obtain ⟨c0, h0, hc0⟩ := sign_beg h
  rw [At_app] at h
  obtain ⟨h1, h2, h3⟩ := h
  rw [List.length_append, List.length_cons] at hle ⊢
  rw [clsGo, isB_of h0 (begC_not c0 hc0).1, if_neg (by simp), sign_at h1]
  dsimp only
  rw [dif_pos (by omega), isB_of h2 (v := true) (by decide +kernel), if_pos rfl, sign_at h3]
  dsimp only
  rw [ub_nat hb, ub_nat (show b < 256 by omega), if_neg (by omega), dif_pos (by omega), show b + n + 1 - b = n + 1 by omega]
  congr 1; omega
theorem cls_runs {s : ByteArray} : ∀ (n : Nat) (l : List Nat) (ws : List Int) (p : Nat), l.length ≤ n → (∀ x ∈ l, x < 256) → W64 ws → At s p (runsL l ++ [93]) →
    ∃ vs, clsGo s ws p = .ok (reS vs) (p + (runsL l).length + 1) ∧ W64 vs ∧ ∀ k, k < 256 → hasB vs k = (hasB ws k || decide (k ∈ l)) := by
  intro n
  induction n with
  | zero =>
    intro l ws p hn hl hw h
    have : l = [] := List.eq_nil_of_length_eq_zero (by omega)
    subst this
    rw [runsL] at h ⊢
    refine ⟨ws, ?_, hw, fun k hk => by simp⟩
    rw [clsGo, isB_of h.1 (v := true) (by decide +kernel), if_pos rfl]
    rfl
  | succ n ih =>
    intro l ws p hn hl hw h
    cases l with
    | nil =>
      rw [runsL] at h ⊢
      refine ⟨ws, ?_, hw, fun k hk => by simp⟩
      rw [clsGo, isB_of h.1 (v := true) (by decide +kernel), if_pos rfl]
      rfl
    | cons b l =>
      have hb := hl b (by simp)
      have hlt := runLen_lt b l 256 hb fun x hx => hl x (by simp [hx])
      have hmem := runLen_mem b l
      rw [runsL] at h ⊢
      have hn' : (l.drop (runLen b l)).length ≤ n := by simp at hn ⊢; omega
      have hl' : ∀ x ∈ l.drop (runLen b l), x < 256 := fun x hx => hl x (by simp [List.mem_of_mem_drop hx])
      generalize l.drop (runLen b l) = m at *
      generalize runLen b l = r at *
      -- what stands behind the run begins no item of it
      have hnext : ∀ q, At s q (runsL m ++ [93]) → ∃ c, s.data[q]? = some c ∧ decide (0 ≤ firstIdx cDash c) = false := by
        intro q hq
        cases m with
        | nil => rw [runsL] at hq; exact ⟨93, hq.1, by decide +kernel⟩
        | cons d m =>
          rw [runsL] at hq
          unfold rng at hq
          rw [List.append_assoc, List.append_assoc] at hq
          obtain ⟨c, h1, h2⟩ := sign_beg hq
          exact ⟨c, h1, (begC_not c h2).2.1⟩
      rw [List.append_assoc, At_app] at h
      obtain ⟨h1, h2⟩ := h
      obtain ⟨c, hc, hd⟩ := hnext _ h2
      have key : ∃ us, clsGo s ws p = clsGo s us (p + (rng b r).length) ∧ W64 us ∧ ∀ k, k < 256 → hasB us k = (hasB ws k || decide (b ≤ k ∧ k ≤ b + r)) := by
        unfold rng at h1 hc h2 ⊢
        by_cases r0 : r = 0
        · subst r0
          simp only [Nat.lt_irrefl, Nat.not_lt_zero, if_false, List.append_nil] at h1 hc h2 ⊢
          refine ⟨_, cls_item hb h1 hc hd, hw.joinAll2 (rangeS_w b 1 (by omega)), fun k hk => ?_⟩
          rw [hasB_joinAll2 hw (rangeS_w b 1 (by omega)) hk, hasB_rangeS hk 1 (by omega)]
          congr 1
          rw [decide_eq_decide]; omega
        by_cases r1 : r = 1
        · subst r1
          simp only [Nat.lt_irrefl, if_false, Nat.lt_add_one, if_true, List.nil_append, Nat.zero_lt_one] at h1 hc h2 ⊢
          rw [At_app] at h1
          obtain ⟨c1, hc1, hd1⟩ := sign_beg (m := []) (by rw [List.append_nil]; exact h1.2)
          have hw1 := hw.joinAll2 (rangeS_w b 1 (by omega))
          refine ⟨joinAll [joinAll [ws, rangeS b 1], rangeS (b + 1) 1], ?_, hw1.joinAll2 (rangeS_w _ 1 (by omega)), fun k hk => ?_⟩
          · rw [cls_item hb h1.1 hc1 (begC_not c1 hd1).2.1, cls_item (by omega) h1.2 (by rw [List.length_append, ← Nat.add_assoc] at hc; exact hc) hd, List.length_append, ← Nat.add_assoc]
          · rw [hasB_joinAll2 hw1 (rangeS_w _ 1 (by omega)) hk, hasB_joinAll2 hw (rangeS_w b 1 (by omega)) hk, hasB_rangeS hk 1 (by omega), hasB_rangeS hk 1 (by omega), Bool.or_assoc]
            congr 1
            rw [Bool.eq_iff_iff, Bool.or_eq_true, decide_eq_true_eq, decide_eq_true_eq, decide_eq_true_eq]; omega
        · rw [if_pos (show 1 < r by omega), if_pos (show 0 < r by omega)] at h1 ⊢
          refine ⟨_, cls_range hlt h1, hw.joinAll2 (rangeS_w b (r + 1) (by omega)), fun k hk => ?_⟩
          rw [hasB_joinAll2 hw (rangeS_w b (r + 1) (by omega)) hk, hasB_rangeS hk (r + 1) (by omega)]
          congr 1
          rw [decide_eq_decide]; omega
      obtain ⟨us, e, hu, hub⟩ := key
      obtain ⟨vs, e2, hv, hvb⟩ := ih m us _ hn' hl' hu h2
      refine ⟨vs, ?_, hv, fun k hk => ?_⟩
      · rw [e, e2, List.length_append]; congr 1; omega
      · rw [hvb k hk, hub k hk, Bool.or_assoc]
        congr 1
        have := hmem k
        rw [Bool.eq_iff_iff, Bool.or_eq_true, decide_eq_true_eq, decide_eq_true_eq, decide_eq_true_eq, List.mem_cons, this]
        constructor
        · rintro (h | h)
          · by_cases e : k = b
            · exact .inl e
            · exact .inr (.inl (by omega))
          · exact .inr (.inr h)
        · rintro (h | h | h)
          · exact .inl (by omega)
          · exact .inl (by omega)
          · exact .inr h
theorem hasL_full {ws : List Int} (h : (hasL ws 256).length = 256) {k : Nat} (hk : k < 256) : hasB ws k = true := by
  have := List.length_filter_eq_length_iff.1 (show ((List.range 256).filter fun b => hasB ws b).length = (List.range 256).length by rw [List.length_range]; exact h)
  exact this k (List.mem_range.2 hk)
/-- A set's text is read as the set. -/
theorem set_at {A : Nat → PR} {s : ByteArray} {ws : List Int} {p : Nat} (hw : W64 ws) (h : At s p (setT ws)) : pAtom A s p = .ok (reS ws) (p + (setT ws).length) := by
  have hmem : ∀ k, k < 256 → (k ∈ hasL ws 256 ↔ hasB ws k = true) := fun k hk => by rw [hasL_mem]; simp [hk]
  unfold setT at h ⊢
  split at h
  · rename_i hf
    rw [if_pos hf]
    unfold pAtom
    rw [isB_of h.1 (v := true) (by decide +kernel), if_pos rfl]
    have : rangeS 0 256 = ws := (rangeS_w 0 256 (by omega)).ext hw fun k hk => by
      rw [hasB_rangeS hk 256 (by omega), hasL_full hf hk]; simp [hk]
    rw [this]; rfl
  rename_i hf
  rw [if_neg hf]
  split at h
  · rename_i b hb
    have hb256 : b < 256 := by have := (hasL_mem (ws := ws) (n := 256) (b := b)).1 (by rw [hb]; simp); exact this.1
    obtain ⟨c, hc, hcb⟩ := sign_beg (m := []) (by rw [List.append_nil]; exact h)
    obtain ⟨_, _, n1, n2, n3, _⟩ := begC_not c hcb
    unfold pAtom
    rw [isB_of hc n1, isB_of hc n2, isB_of hc n3, if_neg (by simp), if_neg (by simp), if_neg (by simp), sign_at h]
    dsimp only
    have : ofS [ub b] = ws := (ofS_w _).ext hw fun k hk => by
      rw [hasB_ofS1 _ hk, ub_nat hb256, Bool.eq_iff_iff, decide_eq_true_eq, ← hmem k hk, hb]; simp
    rw [this]
  · rename_i l hl
    obtain ⟨h1, h2⟩ := h
    obtain ⟨vs, e, hv, hvb⟩ := cls_runs _ (hasL ws 256) noneS (p + 1) (Nat.le_refl _) (fun x hx => (hasL_mem.1 hx).1) W64.none h2
    have : vs = ws := hv.ext hw fun k hk => by
      rw [hvb k hk, hasB_none k hk, Bool.false_or, Bool.eq_iff_iff, decide_eq_true_eq, hmem k hk]
    subst this
    unfold pAtom
    rw [isB_of h1 (v := false) (by decide +kernel), isB_of h1 (v := true) (by decide +kernel), if_neg (by simp), if_pos rfl, e]
    congr 1
    simp; omega
end Go.Proofs.YtdliolbjngcgcaaGreatDoor.AWP
set_option maxRecDepth 100000
/- Any expression is read from its text as it was. -/
namespace Go.Proofs.YtdliolbjngcgcaaGreatDoor.AWP
open Go
def brk (b : Bool) (l : List UInt8) : List UInt8 := if b then 40 :: (l ++ [41]) else l
def Re.is5 (x : Re) : Bool := decide (x.kd = 5)
def Re.is45 (x : Re) : Bool := decide (x.kd = 4) || decide (x.kd = 5)
/-- An expression's text. -/
def Re.txt : Re → List UInt8
  | .mk k _ _ _ _ [x, y] => if k = 4 then brk x.is45 x.txt ++ brk y.is5 y.txt else brk x.is5 x.txt ++ 124 :: y.txt
  | .mk _ _ _ _ _ [x] => brk x.is45 x.txt ++ [42]
  | .mk k a b c d _ => if k = 1 then [91, 93] else if k = 2 then [40, 41] else setT [a, b, c, d]
theorem txt_1 : (Re.mk 1 0 0 0 0 []).txt = [91, 93] := by simp [Re.txt]
theorem txt_2 : (Re.mk 2 0 0 0 0 []).txt = [40, 41] := by simp [Re.txt]
theorem txt_3 {a b c d : Int} : (Re.mk 3 a b c d []).txt = setT [a, b, c, d] := by simp [Re.txt]
theorem txt_4 {x y : Re} : (Re.mk 4 0 0 0 0 [x, y]).txt = brk x.is45 x.txt ++ brk y.is5 y.txt := by simp [Re.txt]
theorem txt_5 {x y : Re} : (Re.mk 5 0 0 0 0 [x, y]).txt = brk x.is5 x.txt ++ 124 :: y.txt := by simp [Re.txt]
theorem txt_6 {x : Re} : (Re.mk 6 0 0 0 0 [x]).txt = brk x.is45 x.txt ++ [42] := by simp [Re.txt]
theorem brk_len (b : Bool) (l : List UInt8) : l.length ≤ (brk b l).length ∧ (brk b l).length ≤ l.length + 2 := by unfold brk; split <;> simp <;> omega
theorem txt_len (r : Re) : r.nodesOk = true → r.txt.length + 4 ≤ 260 * (r.sz + 1) := by
  refine Re.indOk (p := fun r => r.txt.length + 4 ≤ 260 * (r.sz + 1)) ?_ ?_ ?_ ?_ r
  · intro k hk
    rcases hk with rfl | rfl
    · rw [txt_1]; simp [Re.sz, Re.szs]
    · rw [txt_2]; simp [Re.sz, Re.szs]
  · intro a b c d _
    have := setT_len [a, b, c, d]
    rw [txt_3, Re.sz, Re.szs]; omega
  · intro k x y hk _ _ hx hy
    have e : (Re.mk k 0 0 0 0 [x, y]).sz = 1 + (x.sz + y.sz) := by simp [Re.sz, Re.szs]
    rw [e]
    rcases hk with rfl | rfl
    · have h1 := brk_len x.is45 x.txt
      have h2 := brk_len y.is5 y.txt
      rw [txt_4, List.length_append]; omega
    · have h1 := brk_len x.is5 x.txt
      rw [txt_5, List.length_append, List.length_cons]; omega
  · intro x _ hx
    have e : (Re.mk 6 0 0 0 0 [x]).sz = 1 + x.sz := by simp [Re.sz, Re.szs]
    have h1 := brk_len x.is45 x.txt
    rw [e, txt_6, List.length_append]
    simp; omega
/-! ### How a text begins -/
def begE (c : UInt8) : Bool := begC c || decide (0 ≤ firstIdx cAtom c)
theorem begE_ok {s : ByteArray} {p : Nat} {c : UInt8} (hc : s.data[p]? = some c) (h : begE c = true) : (isB s p cAtom || begB s p) = true := by
  unfold begE at h
  rw [Bool.or_eq_true] at h ⊢
  rcases h with h | h
  · exact .inr (begC_beg hc h)
  · exact .inl (isB_of hc h)
theorem begE_not (c : UInt8) (h : begE c = true) : decide (0 ≤ firstIdx cRp c) = false ∧ decide (0 ≤ firstIdx cStar c) = false ∧ decide (0 ≤ firstIdx cBar c) = false := by
  revert h
  exact all_ofNat (p := fun c => begE c = true → decide (0 ≤ firstIdx cRp c) = false ∧ decide (0 ≤ firstIdx cStar c) = false ∧ decide (0 ≤ firstIdx cBar c) = false) (by decide +kernel) c
theorem setT_cons (ws : List Int) : ∃ c l, setT ws = c :: l ∧ begE c = true := by
  unfold setT
  split
  · exact ⟨46, [], rfl, by decide +kernel⟩
  split
  · rename_i b _
    obtain ⟨c, l, h1, h2⟩ := signB_cons (ub b)
    exact ⟨c, l, h1, by simp [begE, h2]⟩
  · exact ⟨91, _, rfl, by decide +kernel⟩
theorem brk_cons {b : Bool} {l : List UInt8} (h : ∃ c m, l = c :: m ∧ begE c = true) : ∃ c m, brk b l = c :: m ∧ begE c = true := by
  unfold brk
  split
  · exact ⟨40, _, rfl, by decide +kernel⟩
  · exact h
theorem app_cons {l n : List UInt8} (h : ∃ c m, l = c :: m ∧ begE c = true) : ∃ c m, l ++ n = c :: m ∧ begE c = true := by
  obtain ⟨c, m, rfl, h⟩ := h
  exact ⟨c, m ++ n, rfl, h⟩
theorem txt_cons (r : Re) : r.nodesOk = true → ∃ c l, r.txt = c :: l ∧ begE c = true := by
  refine Re.indOk (p := fun r => ∃ c l, r.txt = c :: l ∧ begE c = true) ?_ ?_ ?_ ?_ r
  · intro k hk
    rcases hk with rfl | rfl
    · rw [txt_1]; exact ⟨91, _, rfl, by decide +kernel⟩
    · rw [txt_2]; exact ⟨40, _, rfl, by decide +kernel⟩
  · intro a b c d _
    rw [txt_3]; exact setT_cons _
  · intro k x y hk _ _ hx hy
    rcases hk with rfl | rfl
    · rw [txt_4]; exact app_cons (brk_cons hx)
    · rw [txt_5]; exact app_cons (brk_cons hx)
  · intro x _ hx
    rw [txt_6]; exact app_cons (brk_cons hx)
theorem at_beg {s : ByteArray} {p : Nat} {l m : List UInt8} (hl : ∃ c m, l = c :: m ∧ begE c = true) (h : At s p (l ++ m)) : ∃ c, s.data[p]? = some c ∧ begE c = true := by
  obtain ⟨c, n, rfl, hc⟩ := hl
  exact ⟨c, h.1, hc⟩
/-! ### It is read -/
structure StopR (s : ByteArray) (q : Nat) : Prop where
  star : isB s q cStar = false
  beg : (isB s q cAtom || begB s q) = false
def rowSt (A : Nat → PR) (s : ByteArray) (l : List Re) (p : Nat) : PR :=
  match pPart A s p with
  | .bad e => .bad e
  | .ok x q => rowGo A s (l ++ [x]) q
def altSt (A : Nat → PR) (s : ByteArray) (l : List Re) (p : Nat) : PR :=
  match pRow A s p with
  | .bad e => .bad e
  | .ok x q => altGo A s (l ++ [x]) q
theorem pRow_st (A : Nat → PR) (s : ByteArray) (p : Nat) : pRow A s p = rowSt A s [] p := rfl
theorem pAlt_st (A : Nat → PR) (s : ByteArray) (p : Nat) : pAlt A s p = altSt A s [] p := rfl
theorem foldL_add (k n : Int) (l : List Re) (x : Re) : foldL k n (l ++ [x]) = foldR k l x := by simp [foldL]
theorem foldR_add (k : Int) (l : List Re) (x y : Re) : foldR k (l ++ [x]) y = foldR k l (.mk k 0 0 0 0 [x, y]) := by simp [foldR]
theorem rowGo_stop {A : Nat → PR} {s : ByteArray} {l : List Re} {x : Re} {q : Nat} (h : (isB s q cAtom || begB s q) = false) : rowGo A s (l ++ [x]) q = .ok (foldR 4 l x) q := by
  rw [rowGo, if_neg (by rw [h]; simp), foldL_add]
theorem rowGo_more {A : Nat → PR} {s : ByteArray} (hA : Fwd A s) {l : List Re} {p : Nat} (h : (isB s p cAtom || begB s p) = true) : rowGo A s l p = rowSt A s l p := by
  unfold rowSt
  rw [rowGo, if_pos h]
  cases e : pPart A s p with
  | bad e => rfl
  | ok r q => have := pPart_lt hA e; dsimp only; rw [dif_pos this]
theorem altGo_stop {A : Nat → PR} {s : ByteArray} {l : List Re} {x : Re} {q : Nat} (h : isB s q cBar = false) : altGo A s (l ++ [x]) q = .ok (foldR 5 l x) q := by
  rw [altGo, if_neg (by rw [h]; simp), foldL_add]
theorem altGo_more {A : Nat → PR} {s : ByteArray} (hA : Fwd A s) {l : List Re} {p : Nat} (h : isB s p cBar = true) : altGo A s l p = altSt A s l (p + 1) := by
  unfold altSt
  rw [altGo, if_pos h]
  cases e : pRow A s (p + 1) with
  | bad e => rfl
  | ok r q => have := pRow_lt hA e; dsimp only; rw [dif_pos (by omega)]
theorem starGo_more {s : ByteArray} {r : Re} {p : Nat} (h : isB s p cStar = true) : starGo s r p = starGo s (.mk 6 0 0 0 0 [r]) (p + 1) := by
  rw [starGo, dif_pos h]
/-- A closing bracket, or the end, stops everything. -/
structure StopA (s : ByteArray) (q : Nat) : Prop extends StopR s q where
  bar : isB s q cBar = false
theorem stop_end {s : ByteArray} {q : Nat} (h : ¬ q < s.size) : StopA s q := ⟨⟨isB_end h, by rw [isB_end h, begB_end h]; rfl⟩, isB_end h⟩
theorem stop_rp {s : ByteArray} {q : Nat} (h : s.data[q]? = some 41) : StopA s q :=
  ⟨⟨isB_of h (by decide +kernel), by unfold begB; rw [isB_of h (v := false) (by decide +kernel), isB_of h (v := false) (by decide +kernel), h]; decide +kernel⟩, isB_of h (by decide +kernel)⟩
theorem stop_bar {s : ByteArray} {q : Nat} (h : s.data[q]? = some 124) : StopR s q :=
  ⟨isB_of h (by decide +kernel), by unfold begB; rw [isB_of h (v := false) (by decide +kernel), isB_of h (v := false) (by decide +kernel), h]; decide +kernel⟩
structure Rdb (r : Re) : Prop where
  part : r.is45 = false → ∀ s p0 p, p0 ≤ p → At s p r.txt → ∃ core q, pAtom (altA s p0) s p = .ok core q ∧ starGo s core q = starGo s r (p + r.txt.length)
  row : r.is5 = false → ∀ s p0 p l, p0 ≤ p → At s p r.txt → StopR s (p + r.txt.length) → rowSt (altA s p0) s l p = .ok (foldR 4 l r) (p + r.txt.length)
  alt : ∀ s p0 p l, p0 ≤ p → At s p r.txt → StopA s (p + r.txt.length) → altSt (altA s p0) s l p = .ok (foldR 5 l r) (p + r.txt.length)
theorem Rdb.whole {r : Re} (h : Rdb r) {s : ByteArray} {p : Nat} (ha : At s p r.txt) (hs : StopA s (p + r.txt.length)) : altF s p = .ok r (p + r.txt.length) := by
  rw [altF_eq, pAlt_st]
  exact h.alt s p p [] (Nat.le_refl _) ha hs
/-- In brackets where it must. -/
theorem Rdb.atom {r : Re} (h : Rdb r) (hok : r.nodesOk = true) {b : Bool} (hb : b = true ∨ r.is45 = false) {s : ByteArray} {p0 p : Nat} (hp : p0 ≤ p) (ha : At s p (brk b r.txt)) :
    ∃ core q, pAtom (altA s p0) s p = .ok core q ∧ starGo s core q = starGo s r (p + (brk b r.txt).length) := by
  unfold brk at ha ⊢
  split at ha
  case isFalse hf =>
    rw [if_neg hf]
    exact h.part (hb.resolve_left hf) s p0 p hp ha
  rename_i ht
  rw [if_pos ht]
  have hle := At_le _ _ ha (by simp)
  have ha0 := ha
  obtain ⟨h1, h2⟩ := ha
  have h3 := (At_app _ _ _).1 h2
  obtain ⟨c, hc, hcb⟩ := at_beg (txt_cons r hok) h2
  have h4 := h3.2.1
  simp only [List.length_cons, List.length_append, List.length_nil] at hle
  refine ⟨r, p + r.txt.length + 2, ?_, ?_⟩
  · unfold pAtom
    rw [isB_of h1 (v := false) (by decide +kernel), isB_of h1 (v := false) (by decide +kernel), isB_of h1 (v := true) (by decide +kernel), if_neg (by simp), if_neg (by simp), if_pos rfl, isB_of hc (begE_not c hcb).1, if_neg (by simp)]
    have e : altA s p0 (p + 1) = .ok r (p + 1 + r.txt.length) := by
      unfold altA
      rw [if_pos (by omega)]
      exact h.whole h3.1 (stop_rp h4)
    rw [e]
    dsimp only
    rw [isB_of h4 (v := true) (by decide +kernel), if_pos rfl]
    congr 1; omega
  · congr 1
    simp; omega
theorem Rdb.pt {r : Re} (h : Rdb r) (hok : r.nodesOk = true) {b : Bool} (hb : b = true ∨ r.is45 = false) {s : ByteArray} {p0 p : Nat} (hp : p0 ≤ p) (ha : At s p (brk b r.txt)) (hs : isB s (p + (brk b r.txt).length) cStar = false) :
    pPart (altA s p0) s p = .ok r (p + (brk b r.txt).length) := by
  obtain ⟨core, q, h1, h2⟩ := h.atom hok hb hp ha
  unfold pPart
  rw [h1]
  dsimp only
  rw [h2, starGo_no hs]
/-- A part is a row, a row is an alternative. -/
theorem row_of_part {r : Re} {s : ByteArray} {p0 p : Nat} {l : List Re} {q : Nat} (h : pPart (altA s p0) s p = .ok r q) (hs : StopR s q) : rowSt (altA s p0) s l p = .ok (foldR 4 l r) q := by
  unfold rowSt
  rw [h]
  exact rowGo_stop hs.beg
theorem alt_of_row {r : Re} {s : ByteArray} {p0 p : Nat} {l : List Re} {q : Nat} (h : rowSt (altA s p0) s [] p = .ok r q) (hs : StopA s q) : altSt (altA s p0) s l p = .ok (foldR 5 l r) q := by
  unfold altSt
  rw [pRow_st, h]
  exact altGo_stop hs.bar
theorem rdb_part {r : Re} (h : ∀ s p0 p, p0 ≤ p → At s p r.txt → ∃ core q, pAtom (altA s p0) s p = .ok core q ∧ starGo s core q = starGo s r (p + r.txt.length)) : Rdb r := by
  have hrow : ∀ s p0 p l, p0 ≤ p → At s p r.txt → StopR s (p + r.txt.length) → rowSt (altA s p0) s l p = .ok (foldR 4 l r) (p + r.txt.length) := by
    intro s p0 p l hp ha hs
    refine row_of_part ?_ hs
    obtain ⟨core, q, h1, h2⟩ := h s p0 p hp ha
    unfold pPart
    rw [h1]
    dsimp only
    rw [h2, starGo_no hs.star]
  exact ⟨fun _ => h, fun _ => hrow, fun s p0 p l hp ha hs => alt_of_row (hrow s p0 p [] hp ha hs.toStopR) hs⟩
/-- A row's rest, from behind its first part. -/
theorem Rdb.rest {y : Re} (h : Rdb y) (hok : y.nodesOk = true) {s : ByteArray} {p0 p : Nat} {l : List Re} (hp : p0 ≤ p) (ha : At s p (brk y.is5 y.txt)) (hs : StopR s (p + (brk y.is5 y.txt).length)) :
    rowSt (altA s p0) s l p = .ok (foldR 4 l y) (p + (brk y.is5 y.txt).length) := by
  by_cases h5 : y.is5 = true
  · exact row_of_part (h.pt hok (.inl h5) hp ha hs.star) hs
  · have h5' : y.is5 = false := by simpa using h5
    rw [h5'] at ha hs ⊢
    exact h.row h5' s p0 p l hp ha hs
theorem rdb (r : Re) (hok : r.nodesOk = true) (hw : r.wd) : Rdb r := by
  revert hw
  refine Re.indOk (p := fun r => r.wd → Rdb r) ?_ ?_ ?_ ?_ r hok
  · intro k hk _
    refine rdb_part fun s p0 p hp ha => ?_
    rcases hk with rfl | rfl
    · rw [txt_1] at ha ⊢
      refine ⟨_, _, ?_, rfl⟩
      unfold pAtom
      rw [isB_of ha.1 (v := false) (by decide +kernel), isB_of ha.1 (v := true) (by decide +kernel), if_neg (by simp), if_pos rfl, clsGo, isB_of ha.2.1 (v := true) (by decide +kernel), if_pos rfl]
      rfl
    · rw [txt_2] at ha ⊢
      refine ⟨_, _, ?_, rfl⟩
      unfold pAtom
      rw [isB_of ha.1 (v := false) (by decide +kernel), isB_of ha.1 (v := false) (by decide +kernel), isB_of ha.1 (v := true) (by decide +kernel), if_neg (by simp), if_neg (by simp), if_pos rfl, isB_of ha.2.1 (v := true) (by decide +kernel), if_pos rfl]
      rfl
  · intro a b c d hn hw
    rw [Re.wd] at hw
    refine rdb_part fun s p0 p hp ha => ?_
    rw [txt_3] at ha ⊢
    refine ⟨_, _, set_at hw.1 ha, ?_⟩
    have : reS [a, b, c, d] = .mk 3 a b c d [] := by
      unfold reS
      rw [if_neg (by unfold noneS; simpa using hn)]
      rfl
    rw [this]
  · intro k x y hk hx hy ihx ihy hw
    rw [Re.wd, Re.wds, Re.wds] at hw
    have Hx := ihx hw.2.1
    have Hy := ihy hw.2.2.1
    rcases hk with rfl | rfl
    · have hrow : ∀ s p0 p l, p0 ≤ p → At s p (Re.mk 4 0 0 0 0 [x, y]).txt → StopR s (p + (Re.mk 4 0 0 0 0 [x, y]).txt.length) → rowSt (altA s p0) s l p = .ok (foldR 4 l (.mk 4 0 0 0 0 [x, y])) (p + (Re.mk 4 0 0 0 0 [x, y]).txt.length) := by
        intro s p0 p l hp ha hs
        rw [txt_4] at ha hs ⊢
        obtain ⟨h1, h2⟩ := (At_app _ _ _).1 ha
        rw [List.length_append, ← Nat.add_assoc] at hs ⊢
        obtain ⟨c, hc, hcb⟩ := at_beg (m := []) (brk_cons (b := y.is5) (txt_cons y hy)) (by rw [List.append_nil]; exact h2)
        unfold rowSt
        rw [Hx.pt hx (by cases x.is45 <;> simp) hp h1 (isB_of hc (begE_not c hcb).2.1)]
        dsimp only
        rw [rowGo_more (altA_fwd s p0) (begE_ok hc hcb), Hy.rest hy (by omega) h2 hs, foldR_add]
      refine ⟨fun h => ?_, fun _ => hrow, fun s p0 p l hp ha hs => alt_of_row (hrow s p0 p [] hp ha hs.toStopR) hs⟩
      simp [Re.is45, Re.kd] at h
    · refine ⟨fun h => ?_, fun h => ?_, fun s p0 p l hp ha hs => ?_⟩
      · simp [Re.is45, Re.kd] at h
      · simp [Re.is5, Re.kd] at h
      · rw [txt_5] at ha hs ⊢
        obtain ⟨h1, h2, h3⟩ := (At_app _ _ _).1 ha
        have e : p + (brk x.is5 x.txt ++ 124 :: y.txt).length = p + (brk x.is5 x.txt).length + 1 + y.txt.length := by
          rw [List.length_append, List.length_cons]; omega
        rw [e] at hs ⊢
        unfold altSt
        rw [pRow_st, Hx.rest hx hp h1 (stop_bar h2)]
        dsimp only
        rw [altGo_more (altA_fwd s p0) (isB_of h2 (by decide +kernel))]
        show altSt _ s (l ++ [foldR 4 [] x]) _ = _
        rw [Hy.alt s p0 _ _ (by omega) h3 hs, foldR_add]
        rfl
  · intro x hx ihx hw
    rw [Re.wd, Re.wds, Re.wds] at hw
    have Hx := ihx hw.2.1
    refine rdb_part fun s p0 p hp ha => ?_
    rw [txt_6] at ha ⊢
    obtain ⟨h1, h2, _⟩ := (At_app _ _ _).1 ha
    obtain ⟨core, q, e1, e2⟩ := Hx.atom hx (by cases x.is45 <;> simp) hp h1
    refine ⟨core, q, e1, ?_⟩
    rw [e2, starGo_more (isB_of h2 (by decide +kernel)), List.length_append, ← Nat.add_assoc]
    rfl
/-! ### The whole text -/
abbrev Re.text (r : Re) : ByteArray := ⟨r.txt.toArray⟩
theorem read_text {r : Re} (hm : mayB r = true) (hw : r.wd) (hl : r.txt.length ≤ 65536) : pRead r.text = (r, 0, 0) := by
  have hok : r.nodesOk = true := by unfold mayB at hm; rw [Bool.and_eq_true] at hm; exact hm.1
  have hz : r.text.size = r.txt.length := ba_size _
  refine pRead_of ?_ hm (by rw [hz]; exact hl)
  have := (rdb r hok hw).whole (At_all r.txt) (stop_end (by rw [Nat.zero_add, hz]; omega))
  rw [this, hz, Nat.zero_add]
end Go.Proofs.YtdliolbjngcgcaaGreatDoor.AWP
set_option maxRecDepth 100000
/- What is read has a text that isn't much longer. -/
namespace Go.Proofs.YtdliolbjngcgcaaGreatDoor.AWP
open Go
/-! ### Ends of runs -/
theorem hasB_256 {ws : List Int} (h : W64 ws) : hasB ws 256 = false := by
  have := h.len
  unfold hasB
  rw [show 256 / 64 = 4 from rfl, List.getD_eq_getElem?_getD, List.getElem?_eq_none (by omega)]
  rfl
def endB (ws : List Int) (n : Nat) : Bool := hasB ws n && !hasB ws (n + 1)
def endsN (ws : List Int) : Nat := ((List.range 256).filter fun n => endB ws n).length
theorem filter_or {p q r : Nat → Bool} : ∀ (l : List Nat), (∀ n ∈ l, p n = true → q n = true ∨ r n = true) → (l.filter p).length ≤ (l.filter q).length + (l.filter r).length
  | [], _ => by simp
  | x :: l, h => by
    have ih := filter_or l fun n hn => h n (by simp [hn])
    have hx := h x (by simp)
    rw [List.filter_cons, List.filter_cons, List.filter_cons]
    cases hp : p x <;> cases hq : q x <;> cases hr : r x <;> simp_all <;> omega
theorem filter_one {p : Nat → Bool} {c : Nat} : ∀ (l : List Nat), l.Nodup → (∀ n ∈ l, p n = true → n = c) → (l.filter p).length ≤ 1
  | [], _, _ => by simp
  | x :: l, hn, h => by
    rw [List.nodup_cons] at hn
    rw [List.filter_cons]
    split
    · rename_i hp
      have hx := h x (by simp) hp
      have : l.filter p = [] := by
        rw [List.filter_eq_nil_iff]
        intro y hy hpy
        have := h y (by simp [hy]) hpy
        exact hn.1 (by rw [hx, ← this]; exact hy)
      rw [this]; simp
    · exact filter_one l hn.2 fun n hm => h n (by simp [hm])
theorem hasB_next {a b : List Int} (ha : W64 a) (hb : W64 b) {n : Nat} (hn : n < 256) : hasB (joinAll [a, b]) (n + 1) = (hasB a (n + 1) || hasB b (n + 1)) := by
  by_cases h : n + 1 < 256
  · exact hasB_joinAll2 ha hb h
  · rw [show n + 1 = 256 by omega, hasB_256 (ha.joinAll2 hb), hasB_256 ha, hasB_256 hb]; rfl
theorem ends_join {a b : List Int} (ha : W64 a) (hb : W64 b) : endsN (joinAll [a, b]) ≤ endsN a + endsN b := by
  refine filter_or _ fun n hn h => ?_
  have hn' : n < 256 := List.mem_range.1 hn
  unfold endB at h ⊢
  rw [hasB_joinAll2 ha hb hn', hasB_next ha hb hn'] at h
  revert h
  cases hasB a n <;> cases hasB b n <;> cases hasB a (n + 1) <;> cases hasB b (n + 1) <;> simp
theorem ends_range {low n : Nat} (h : low + n ≤ 256) : endsN (rangeS low n) ≤ 1 := by
  refine filter_one (c := low + n - 1) _ List.nodup_range fun k hk he => ?_
  have hk' : k < 256 := List.mem_range.1 hk
  unfold endB at he
  rw [hasB_rangeS hk' n h, Bool.and_eq_true, decide_eq_true_eq, Bool.not_eq_true'] at he
  by_cases h1 : k + 1 < 256
  · rw [hasB_rangeS h1 n h, decide_eq_false_iff_not] at he; omega
  · omega
theorem ends_none : endsN noneS = 0 := by
  unfold endsN
  rw [List.length_eq_zero_iff, List.filter_eq_nil_iff]
  intro n hn h
  unfold endB at h
  rw [hasB_none n (List.mem_range.1 hn)] at h
  simp at h
/-- No more runs than ends. -/
theorem runs_ends (L : List Nat) : ∀ (k : Nat) (pre l : List Nat), l.length ≤ k → L = pre ++ l → L.Pairwise (· < ·) → (runsL l).length ≤ 7 * (l.filter fun x => !L.contains (x + 1)).length := by
  intro k
  induction k with
  | zero =>
    intro pre l hk hL hs
    have : l = [] := List.eq_nil_of_length_eq_zero (by omega)
    subst this
    rw [runsL]; simp
  | succ k ih =>
    intro pre l hk hL hs
    cases l with
    | nil => rw [runsL]; simp
    | cons b t =>
      have hsl : (b :: t).Pairwise (· < ·) := by rw [hL] at hs; exact (List.pairwise_append.1 hs).2.1
      have hpre : ∀ x ∈ pre, x < b := by rw [hL] at hs; exact fun x hx => (List.pairwise_append.1 hs).2.2 x hx b (by simp)
      have hnext := runLen_next b t hsl
      have hmem := runLen_mem b t
      have ht : b :: t = (b :: t.take (runLen b t)) ++ t.drop (runLen b t) := by rw [List.cons_append, List.take_append_drop]
      have hd := ih (pre ++ (b :: t.take (runLen b t))) (t.drop (runLen b t)) (by simp at hk ⊢; omega) (by rw [List.append_assoc, ← ht]; exact hL) hs
      have h7 := rng_len7 b (runLen b t)
      have hone : 1 ≤ ((b :: t.take (runLen b t)).filter fun x => !L.contains (x + 1)).length := by
        refine List.length_pos_of_mem (a := b + runLen b t) (List.mem_filter.2 ⟨?_, ?_⟩)
        · have hb : b + runLen b t ∈ b :: t := by
            rw [List.mem_cons, hmem]
            by_cases h0 : runLen b t = 0
            · exact .inl (by omega)
            · exact .inr (.inl (by omega))
          rw [ht, List.mem_append] at hb
          rcases hb with hb | hb
          · exact hb
          · have := hnext _ hb; omega
        · rw [Bool.not_eq_true', ← Bool.not_eq_true, List.contains_iff_mem]
          intro hc
          rw [hL, List.mem_append, List.mem_cons, hmem] at hc
          rcases hc with hc | hc | hc | hc
          · have := hpre _ hc; omega
          · omega
          · omega
          · have := hnext _ hc; omega
      rw [runsL, List.length_append]
      rw [ht, List.filter_append, List.length_append]
      omega
theorem setT_ends {ws : List Int} (hw : W64 ws) : (setT ws).length ≤ 7 * endsN ws + 3 := by
  have h1 := runs_ends (hasL ws 256) _ [] (hasL ws 256) (Nat.le_refl _) rfl (hasL_sorted ws 256)
  have h2 : ((hasL ws 256).filter fun x => !(hasL ws 256).contains (x + 1)) = (List.range 256).filter fun n => endB ws n := by
    conv => lhs; arg 2; unfold hasL
    rw [List.filter_filter]
    refine List.filter_congr fun n hn => ?_
    have hn' : n < 256 := List.mem_range.1 hn
    unfold endB
    rw [Bool.and_comm]
    congr 2
    rw [Bool.eq_iff_iff, List.contains_iff_mem, hasL_mem]
    constructor
    · exact fun h => h.2
    · intro h
      refine ⟨?_, h⟩
      by_cases h256 : n + 1 < 256
      · exact h256
      · rw [show n + 1 = 256 by omega, hasB_256 hw] at h; cases h
  rw [h2] at h1
  have h3 : (runsL (hasL ws 256)).length ≤ 7 * endsN ws := h1
  unfold setT
  split
  · simp
  split
  · rename_i b _; have := signB_len (ub b); omega
  · simp; omega
theorem reS_tl {ws : List Int} (hw : W64 ws) : (reS ws).txt.length ≤ 7 * endsN ws + 3 ∧ (reS ws).wd := by
  have h := hw.len
  match ws, h with
  | [a, b, c, d], _ =>
    unfold reS
    split
    · rw [txt_1]
      exact ⟨by simp, by rw [Re.wd, Re.wds]; exact ⟨W64.none, trivial⟩⟩
    · show (Re.mk 3 a b c d []).txt.length ≤ _ ∧ _
      rw [txt_3]
      exact ⟨setT_ends hw, by rw [Re.wd, Re.wds]; exact ⟨hw, trivial⟩⟩
theorem wd_two {k : Int} {x y : Re} (hx : x.wd) (hy : y.wd) : (Re.mk k 0 0 0 0 [x, y]).wd := by rw [Re.wd, Re.wds, Re.wds, Re.wds]; exact ⟨W64.none, hx, hy, trivial⟩
theorem wd_star {x : Re} (hx : x.wd) : (Re.mk 6 0 0 0 0 [x]).wd := by rw [Re.wd, Re.wds, Re.wds]; exact ⟨W64.none, hx, trivial⟩
/-- What is asked of what is read of n bytes. -/
def Short (r : Re) (n : Nat) : Prop := r.txt.length + 4 ≤ 20 * n ∧ r.wd
def tls : List Re → Nat
  | [] => 0
  | r :: l => r.txt.length + 4 + tls l
theorem tls_app : ∀ (l m : List Re), tls (l ++ m) = tls l + tls m
  | [], m => by simp [tls]
  | r :: l, m => by rw [List.cons_append, tls, tls, tls_app l m]; omega
def ShortL (l : List Re) (n : Nat) : Prop := tls l ≤ 20 * n ∧ ∀ x ∈ l, x.wd
theorem foldR_tl (kind : Int) (hk : kind = 4 ∨ kind = 5) : ∀ (l : List Re) (x : Re), (∀ y ∈ l, y.wd) → x.wd → (foldR kind l x).txt.length + 4 ≤ tls l + (x.txt.length + 4) ∧ (foldR kind l x).wd
  | [], x, _, hx => ⟨by simp [foldR, tls], hx⟩
  | y :: l, x, hl, hx => by
    have ih := foldR_tl kind hk l x (fun z hz => hl z (by simp [hz])) hx
    have hw : (foldR kind (y :: l) x).wd := wd_two (hl y (by simp)) ih.2
    refine ⟨?_, hw⟩
    show (Re.mk kind 0 0 0 0 [y, foldR kind l x]).txt.length + 4 ≤ _
    rw [tls]
    rcases hk with rfl | rfl
    · have h1 := brk_len y.is45 y.txt
      have h2 := brk_len (foldR 4 l x).is5 (foldR 4 l x).txt
      rw [txt_4, List.length_append]; omega
    · have h1 := brk_len y.is5 y.txt
      rw [txt_5, List.length_append, List.length_cons]; omega
theorem foldL_tl (kind none : Int) (hk : kind = 4 ∨ kind = 5) {l : List Re} {n : Nat} (h : l ≠ []) (hz : ShortL l n) : Short (foldL kind none l) n := by
  rcases List.eq_nil_or_concat l with h' | ⟨m, x, rfl⟩
  · exact absurd h' h
  · rw [List.concat_eq_append] at hz ⊢
    have e : foldL kind none (m ++ [x]) = foldR kind m x := by simp [foldL]
    have := foldR_tl kind hk m x (fun y hy => hz.2 y (by simp [hy])) (hz.2 x (by simp))
    have h1 := hz.1
    rw [tls_app, tls, tls] at h1
    rw [e]
    exact ⟨by omega, this.2⟩
theorem Short.mono {r : Re} {n m : Nat} (h : Short r n) (hnm : n ≤ m) : Short r m := ⟨by have := h.1; omega, h.2⟩
theorem ShortL.add {l : List Re} {x : Re} {n m k : Nat} (h : ShortL l n) (hx : Short x m) (hk : n + m ≤ k) : ShortL (l ++ [x]) k := by
  have h1 := h.1
  have h2 := hx.1
  refine ⟨by rw [tls_app, tls, tls]; omega, fun y hy => ?_⟩
  rcases List.mem_append.1 hy with hy | hy
  · exact h.2 y hy
  · rw [List.mem_singleton.1 hy]; exact hx.2
theorem ShortL.one {x : Re} {n : Nat} (hx : Short x n) : ShortL [x] n := by
  have h2 := hx.1
  exact ⟨by rw [tls, tls]; omega, fun y hy => by rw [List.mem_singleton.1 hy]; exact hx.2⟩
theorem clsGo_tl {s : ByteArray} : ∀ (n : Nat) (ws : List Int) (p : Nat) {r : Re} {q : Nat}, s.size - p ≤ n → W64 ws → clsGo s ws p = .ok r q → ∃ vs, r = reS vs ∧ W64 vs ∧ endsN vs + p < endsN ws + q := by
  intro n
  induction n with
  | zero =>
    intro ws p r q hn hw h
    rw [clsGo] at h
    split at h
    · cases h; exact ⟨ws, rfl, hw, by omega⟩
    · split at h
      · cases h
      · rename_i lo q1 hs
        have := pSign_lt hs
        omega
  | succ n ih =>
    intro ws p r q hn hw h
    rw [clsGo] at h
    split at h
    · cases h; exact ⟨ws, rfl, hw, by omega⟩
    · split at h
      · cases h
      · rename_i lo q1 hs
        split at h
        case isFalse => cases h
        rename_i hlt
        have hlo := lo.toNat_lt
        split at h
        · split at h
          · cases h
          · rename_i hi q2 hs2
            split at h
            · cases h
            · split at h
              case isFalse => cases h
              have hlt2 := pSign_lt hs2
              have hhi := hi.toNat_lt
              have hr := rangeS_w lo.toNat (hi.toNat + 1 - lo.toNat) (by omega)
              obtain ⟨vs, h1, h2, h3⟩ := ih _ _ (by omega) (hw.joinAll2 hr) h
              have h4 := ends_join hw hr
              have h5 := ends_range (low := lo.toNat) (n := hi.toNat + 1 - lo.toNat) (by omega)
              exact ⟨vs, h1, h2, by omega⟩
        · have hr := rangeS_w lo.toNat (lo.toNat + 1 - lo.toNat) (by omega)
          obtain ⟨vs, h1, h2, h3⟩ := ih _ _ (by omega) (hw.joinAll2 hr) h
          have h4 := ends_join hw hr
          have h5 := ends_range (low := lo.toNat) (n := lo.toNat + 1 - lo.toNat) (by omega)
          exact ⟨vs, h1, h2, by omega⟩
theorem starGo_tl {s : ByteArray} : ∀ (n : Nat) (r : Re) (p k : Nat), s.size - p ≤ n → p ≤ s.size → k ≤ p → Short r (p - k) → Short (starGo s r p).1 ((starGo s r p).2 - k) := by
  intro n
  induction n with
  | zero =>
    intro r p k hn hp hk hr
    rw [starGo]
    split
    · rename_i h; have := isB_lt h; omega
    · exact hr
  | succ n ih =>
    intro r p k hn hp hk hr
    rw [starGo]
    split
    · rename_i h; have := isB_lt h
      refine ih (.mk 6 0 0 0 0 [r]) (p + 1) k (by omega) (by omega) (by omega) ⟨?_, wd_star hr.2⟩
      have h1 := hr.1
      have h2 := brk_len r.is45 r.txt
      rw [txt_6, List.length_append]
      simp; omega
    · exact hr
def Tld (A : Nat → PR) (s : ByteArray) : Prop := ∀ {p r q}, A p = .ok r q → Short r (q - p) ∧ p < q ∧ q ≤ s.size
section
variable {A : Nat → PR} {s : ByteArray}
theorem Tld.fwd (h : Tld A s) : Fwd A s := fun h' => by have := (h h').2; omega
theorem pAtom_tl (hA : Tld A s) {p : Nat} {r : Re} {q : Nat} (h : pAtom A s p = .ok r q) : Short r (q - p) := by
  have hlt := pAtom_lt hA.fwd h
  unfold pAtom at h
  split at h
  · cases h
    have h0 := reS_tl (rangeS_w 0 256 (by omega))
    have h1 := ends_range (low := 0) (n := 256) (by omega)
    exact ⟨by omega, h0.2⟩
  split at h
  · have h2 := clsGo_tl _ _ _ (Nat.le_refl _) W64.none h
    obtain ⟨vs, rfl, hv, h3⟩ := h2
    have h0 := reS_tl hv
    rw [ends_none] at h3
    exact ⟨by omega, h0.2⟩
  split at h
  · split at h
    · cases h
      exact ⟨by rw [txt_2]; simp, by rw [Re.wd, Re.wds]; exact ⟨W64.none, trivial⟩⟩
    · split at h
      · cases h
      · rename_i h1
        have h2 := hA h1
        split at h
        · cases h; exact h2.1.mono (by omega)
        · cases h
  · split at h
    · cases h
    · rename_i b q1 hs
      cases h
      have h0 := reS_tl (ofS_w [b])
      have h1 : endsN (ofS [b]) ≤ 1 := by
        refine filter_one (c := b.toNat) _ List.nodup_range fun k hk he => ?_
        unfold endB at he
        rw [hasB_ofS1 b (List.mem_range.1 hk), Bool.and_eq_true, decide_eq_true_eq] at he
        exact he.1
      exact ⟨by omega, h0.2⟩
theorem pPart_tl (hA : Tld A s) {p : Nat} {r : Re} {q : Nat} (h : pPart A s p = .ok r q) : Short r (q - p) := by
  unfold pPart at h
  split at h
  · cases h
  · rename_i r1 q1 h1
    have h2 := pAtom_tl hA h1
    have h3 := pAtom_lt hA.fwd h1
    have h4 := starGo_tl _ r1 q1 p (Nat.le_refl _) h3.2 (by omega) h2
    cases h
    exact h4
theorem rowGo_tl (hA : Tld A s) (p0 : Nat) : ∀ (n : Nat) (l : List Re) (p : Nat) {r : Re} {q : Nat}, s.size - p ≤ n → p0 ≤ p → p ≤ s.size → l ≠ [] → ShortL l (p - p0) → rowGo A s l p = .ok r q → Short r (q - p0) := by
  intro n
  induction n with
  | zero =>
    intro l p r q hn hp0 hp hl hz h
    rw [rowGo] at h
    split at h
    · split at h
      · cases h
      · rename_i h1
        have := pPart_lt hA.fwd h1
        omega
    · cases h; exact foldL_tl _ _ (.inl rfl) hl hz
  | succ n ih =>
    intro l p r q hn hp0 hp hl hz h
    rw [rowGo] at h
    split at h
    · split at h
      · cases h
      · rename_i r1 q1 h1
        have h2 := pPart_tl hA h1
        split at h
        case isFalse => cases h
        exact ih _ _ (by omega) (by omega) (by omega) (by simp) (hz.add h2 (by have := pPart_lt hA.fwd h1; omega)) h
    · cases h; exact foldL_tl _ _ (.inl rfl) hl hz
theorem pRow_tl (hA : Tld A s) {p : Nat} {r : Re} {q : Nat} (h : pRow A s p = .ok r q) : Short r (q - p) := by
  unfold pRow at h
  split at h
  · cases h
  · rename_i r1 q1 h1
    have h2 := pPart_lt hA.fwd h1
    have h3 := pPart_tl hA h1
    exact rowGo_tl hA p _ _ _ (Nat.le_refl _) (by omega) h2.2 (by simp) (ShortL.one h3) h
theorem altGo_tl (hA : Tld A s) (p0 : Nat) : ∀ (n : Nat) (l : List Re) (p : Nat) {r : Re} {q : Nat}, s.size - p ≤ n → p0 ≤ p → p ≤ s.size → l ≠ [] → ShortL l (p - p0) → altGo A s l p = .ok r q → Short r (q - p0) := by
  intro n
  induction n with
  | zero =>
    intro l p r q hn hp0 hp hl hz h
    rw [altGo] at h
    split at h
    · rename_i h0; have := isB_lt h0; omega
    · cases h; exact foldL_tl _ _ (.inr rfl) hl hz
  | succ n ih =>
    intro l p r q hn hp0 hp hl hz h
    rw [altGo] at h
    split at h
    · split at h
      · cases h
      · rename_i r1 q1 h1
        have h2 := pRow_tl hA h1
        have h3 := pRow_lt hA.fwd h1
        split at h
        case isFalse => cases h
        exact ih _ _ (by omega) (by omega) (by omega) (by simp) (hz.add h2 (by have := h3; omega)) h
    · cases h; exact foldL_tl _ _ (.inr rfl) hl hz
theorem pAlt_tl (hA : Tld A s) {p : Nat} {r : Re} {q : Nat} (h : pAlt A s p = .ok r q) : Short r (q - p) := by
  unfold pAlt at h
  split at h
  · cases h
  · rename_i r1 q1 h1
    have h2 := pRow_lt hA.fwd h1
    have h3 := pRow_tl hA h1
    exact altGo_tl hA p _ _ _ (Nat.le_refl _) (by omega) h2.2 (by simp) (ShortL.one h3) h
end
theorem altF_tl {s : ByteArray} : ∀ (n p : Nat) {r : Re} {q : Nat}, s.size - p ≤ n → altF s p = .ok r q → Short r (q - p) := by
  intro n
  induction n with
  | zero =>
    intro p r q hn h
    rw [altF_eq] at h
    refine pAlt_tl ?_ h
    intro p' r' q' h'
    unfold altA at h'
    split at h'
    · omega
    · cases h'
  | succ n ih =>
    intro p r q hn h
    rw [altF_eq] at h
    refine pAlt_tl ?_ h
    intro p' r' q' h'
    unfold altA at h'
    split at h'
    · exact ⟨ih _ (by omega) h', altF_lt _ _ (Nat.le_refl _) h'⟩
    · cases h'
end Go.Proofs.YtdliolbjngcgcaaGreatDoor.AWP
set_option maxRecDepth 100000
/- Names; places of bytes; letters of a text. -/
namespace Go.Proofs.YtdliolbjngcgcaaGreatDoor.AWP
open Go
/-- The first place of a byte, or how many there are. -/
def ixN (c : UInt8) : List UInt8 → Nat
  | [] => 0
  | b :: l => if b = c then 0 else ixN c l + 1
theorem ixN_le (c : UInt8) : ∀ l : List UInt8, ixN c l ≤ l.length
  | [] => Nat.le_refl _
  | b :: l => by
    rw [ixN]; split
    · exact Nat.zero_le _
    · have := ixN_le c l; simp only [List.length_cons]; omega
theorem ixN_none {c : UInt8} : ∀ {l : List UInt8}, ixN c l = l.length → ∀ x ∈ l, x ≠ c
  | [], _, x, h => by cases h
  | b :: l, h, x, hx => by
    rw [ixN] at h
    split at h
    · simp at h
    · rename_i hb
      rcases List.mem_cons.1 hx with rfl | hx
      · exact hb
      · exact ixN_none (by simpa using h) x hx
theorem ixN_get {c : UInt8} : ∀ {l : List UInt8}, ixN c l < l.length → l[ixN c l]? = some c
  | [], h => by simp at h
  | b :: l, h => by
    rw [ixN] at h ⊢
    split
    · rename_i hb; simp [hb]
    · rename_i hb
      rw [if_neg hb] at h
      rw [List.getElem?_cons_succ]
      exact ixN_get (by simpa using h)
/-! ### Letters -/
theorem get!_of {s : ByteArray} {i : Nat} (h : i < s.size) {b : UInt8} (hb : s.data.toList[i]? = some b) : s.get! i = b := by
  cases s with | mk d =>
  show d[i]! = b
  have hi : i < d.size := h
  rw [getElem!_pos d i hi]
  have : d.toList[i]? = some d[i] := by simp [hi]
  simp only at hb
  rw [this] at hb
  exact Option.some.inj hb
theorem dec_lt {s : ByteArray} {i : Nat} (h : i < s.size) {b : UInt8} (hb : s.data.toList[i]? = some b) (hl : b.toNat < 128) : Utf8.decode s i = (b.toNat, 1) := by
  have := get!_of h hb
  unfold Utf8.decode
  simp only [Nat.add_zero, this]
  rw [if_pos hl]
theorem dec_ge {s : ByteArray} {i : Nat} (h : i < s.size) {b : UInt8} (hb : s.data.toList[i]? = some b) (hl : ¬ b.toNat < 128) : 128 ≤ (Utf8.decode s i).1 := by
  have := get!_of h hb
  unfold Utf8.decode
  simp only [Nat.add_zero, this]
  rw [if_neg hl]
  split
  · split
    · assumption
    · simp [Utf8.runeError]
  · split
    · split
      · rename_i h2
        simp only [Bool.and_eq_true, decide_eq_true_eq] at h2
        have := h2.1
        simp only
        omega
      · simp [Utf8.runeError]
    · split
      · split
        · rename_i h2
          simp only [Bool.and_eq_true, decide_eq_true_eq] at h2
          have := h2.1
          simp only
          omega
        · simp [Utf8.runeError]
      · simp [Utf8.runeError]
/-! ### Names -/
def okB (i : Nat) (n : Nat) : Bool := (decide (97 ≤ n) && decide (n ≤ 122)) || (decide (i ≠ 0) && (decide (n = 95) || (decide (48 ≤ n) && decide (n ≤ 57))))
def nameL : Nat → List UInt8 → Bool
  | _, [] => true
  | i, b :: l => okB i b.toNat && nameL (i + 1) l
def nameB (s : ByteArray) : Bool := nameL 0 s.data.toList && (decide (1 ≤ s.size) && decide (s.size ≤ 30))
end Go.Proofs.YtdliolbjngcgcaaGreatDoor.AWP
namespace Go.Proofs.YtdliolbjngcgcaaGreatDoor.AWP
open Go
theorem indexByte_ixN (c : UInt8) : ∀ l : List UInt8, Lib.indexByte l c = if ixN c l < l.length then (ixN c l : Int) else -1
  | [] => by simp [Lib.indexByte, ixN]
  | b :: l => by
    have hle := ixN_le c l
    have ih := indexByte_ixN c l
    rw [Lib.indexByte, ixN]
    by_cases hb : b = c
    · rw [if_pos hb]; simp [hb]
    · have hb' : (b == c) = false := by simpa using hb
      rw [if_neg hb, hb']
      simp only [Bool.false_eq_true, if_false, List.length_cons]
      by_cases h : ixN c l < l.length
      · rw [if_pos h] at ih
        rw [ih, if_pos (show ixN c l + 1 < l.length + 1 by omega)]
        have : (((ixN c l : Nat) : Int) == -1) = false := by rw [beq_eq_false_iff_ne]; omega
        rw [this]
        simp
      · rw [if_neg h] at ih
        rw [ih, if_neg (show ¬ ixN c l + 1 < l.length + 1 by omega)]
        simp
/-- The first place of a byte in a text, or -1. -/
def ixS (c : UInt8) (s : ByteArray) : Int := if ixN c s.data.toList < s.size then (ixN c s.data.toList : Int) else -1
theorem ixS_lib (c : UInt8) (s : ByteArray) : Lib.indexByte s.data.toList c = ixS c s := by
  rw [indexByte_ixN]
  unfold ixS
  rw [show s.data.toList.length = s.size from Array.length_toList]
theorem nameL_at : ∀ (l : List UInt8) (i k : Nat), nameL i l = true → ∀ b, l[k]? = some b → okB (i + k) b.toNat = true
  | [], i, k, _, b, h => by simp at h
  | x :: l, i, 0, h, b, hb => by
    rw [nameL, Bool.and_eq_true] at h
    simp only [List.getElem?_cons_zero, Option.some.injEq] at hb
    subst hb
    exact h.1
  | x :: l, i, k + 1, h, b, hb => by
    rw [nameL, Bool.and_eq_true] at h
    rw [List.getElem?_cons_succ] at hb
    have := nameL_at l (i + 1) k h.2 b hb
    rwa [show i + 1 + k = i + (k + 1) by omega] at this
theorem nameL_drop : ∀ (l : List UInt8) (i : Nat) (b : UInt8), l[i]? = some b → nameL i (l.drop i) = (okB i b.toNat && nameL (i + 1) (l.drop (i + 1)))
  | l, i, b, h => by
    have : l.drop i = b :: l.drop (i + 1) := by
      obtain ⟨h1, h2⟩ := List.getElem?_eq_some_iff.1 h
      rw [← h2]
      exact List.drop_eq_getElem_cons h1
    rw [this, nameL]
end Go.Proofs.YtdliolbjngcgcaaGreatDoor.AWP
set_option maxRecDepth 100000
/- A text's bytes, one behind the other: their own normal form. -/
namespace Go.Proofs.YtdliolbjngcgcaaGreatDoor.AWP
open Go
def clsR (x : Re) : Prop := ∃ a b c d : Int, x = .mk 3 a b c d [] ∧ ¬ (a = 0 ∧ b = 0 ∧ c = 0 ∧ d = 0)
theorem clsR.ok {x : Re} (h : clsR x) : x.nodesOk = true := by obtain ⟨a, b, c, d, rfl, h⟩ := h; exact nodesOk_cls h
end Go.Proofs.YtdliolbjngcgcaaGreatDoor.AWP
set_option maxRecDepth 100000
/- What a normal form is; it is its own one. -/
namespace Go.Proofs.YtdliolbjngcgcaaGreatDoor.AWP
open Go
def clsN (l : List Re) : Nat := (l.filter fun r => decide (r.kd = 3)).length
def SF (f : List Re) : Prop := Sorted f ∧ f.Nodup ∧ clsN f ≤ 1
/-- The form of a normal form. -/
def Re.N : Re → Prop
  | .mk k _ _ _ _ [x, y] => x.N ∧ y.N ∧ (if k = 4 then x.kd ≠ 1 ∧ x.kd ≠ 2 ∧ x.kd ≠ 4 ∧ y.kd ≠ 1 ∧ y.kd ≠ 2 else x.kd ≠ 1 ∧ x.kd ≠ 5 ∧ y.kd ≠ 1 ∧ SF (x :: y.fl))
  | .mk _ _ _ _ _ [x] => x.N ∧ x.kd ≠ 1 ∧ x.kd ≠ 2 ∧ x.kd ≠ 6
  | _ => True
theorem SF.tail {x : Re} {f : List Re} (h : SF (x :: f)) : SF f := by
  obtain ⟨h1, h2, h3⟩ := h
  refine ⟨(List.pairwise_cons.1 h1).2, (List.nodup_cons.1 h2).2, ?_⟩
  unfold clsN at *
  rw [List.filter_cons] at h3
  split at h3
  · rw [List.length_cons] at h3; omega
  · exact h3
/-! ### Alts -/
/-! ### Its own -/
end Go.Proofs.YtdliolbjngcgcaaGreatDoor.AWP
