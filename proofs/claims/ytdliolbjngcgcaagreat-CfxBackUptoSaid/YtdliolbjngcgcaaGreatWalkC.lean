/- The expression of any text in any grammar. -/
import Derived.Test.YtdliolbjngcgcaaGreatWalkB
import Derived.Test.YtdliolbjngcgcaaGreatMathB
import Derived.Test.YtdliolbjngcgcaaGreatLogicD
set_option linter.unusedVariables false
set_option linter.unusedSimpArgs false
set_option linter.unusedSectionVars false
set_option maxRecDepth 100000
namespace Go.Proofs.YtdliolbjngcgcaaGreat.W
open Go Go.Proofs Go.Proofs.YtdliolbjngcgcaaGreat.AWP
theorem index_name : ∀ (a b : List UInt8), (∀ x ∈ a, x ≠ 32) → Go.Lib.index (a ++ ([32, 61, 32] ++ b)) [32, 61, 32] = (a.length : Int)
 | [], b, _ => by simp [Go.Lib.index, List.isPrefixOf]
 | x :: a, b, h => by
  have ih := index_name a b fun y hy => h y (by simp [hy])
  have hx : ((32 : UInt8) == x) = false := by
   rw [beq_eq_false_iff_ne]; exact fun e => h x (by simp) e.symm
  rw [List.cons_append, Go.Lib.index, ih]
  have hp : List.isPrefixOf [32, 61, 32] (x :: (a ++ ([32, 61, 32] ++ b))) = false := by
   rw [List.isPrefixOf, hx]; rfl
  have h1 : (((a.length : Nat) : Int) == -1) = false := by rw [beq_eq_false_iff_ne]; omega
  rw [hp, h1]
  simp
theorem cut_nameS {S : ByteArray} {a b : List UInt8} (hS : S.data.toList = a ++ ([32, 61, 32] ++ b)) (h : ∀ x ∈ a, x ≠ 32) : cutL S eqS = (⟨a.toArray⟩, ⟨b.toArray⟩, true) := by
 have hi := index_name a b h
 have he : eqS.data.toList = [32, 61, 32] := rfl
 unfold cutL Go.Lib.cut
 rw [hS, he, hi, if_pos (by omega)]
 have h1 : (a ++ ([32, 61, 32] ++ b)).take (a.length : Int).toNat = a := by simp
 have h2 : (a ++ ([32, 61, 32] ++ b)).drop ((a.length : Int).toNat + [(32 : UInt8), 61, 32].length) = b := by
  rw [← List.append_assoc, List.drop_append_of_le_length (by simp)]
  simp
 rw [h1, h2]
theorem cut_name {a b : List UInt8} (h : ∀ x ∈ a, x ≠ 32) : cutL ⟨(a ++ ([32, 61, 32] ++ b)).toArray⟩ eqS = (⟨a.toArray⟩, ⟨b.toArray⟩, true) := cut_nameS (List.toList_toArray ..) h
theorem ixN_app {c : UInt8} : ∀ (l m : List UInt8), (∀ b ∈ l, b ≠ c) → ixN c (l ++ c :: m) = l.length
 | [], m, _ => by rw [List.nil_append, ixN, if_pos rfl]; rfl
 | b :: l, m, h => by
  rw [List.cons_append, ixN, if_neg (h b (by simp)), ixN_app l m fun x hx => h x (by simp [hx])]; rfl
theorem lineOf_S {S : ByteArray} {L m : List UInt8} (hS : S.data.toList = L ++ 10 :: m) (h : ∀ b ∈ L, b ≠ 10) (hz : S.size = L.length + 1 + m.length) (e1 : S.extract 0 (L.length + 1) = ⟨(L ++ [10]).toArray⟩) (e2 : S.extract (L.length + 1) (L.length + 1 + m.length) = ⟨m.toArray⟩) :
  lineOfC S = (⟨(L ++ [10]).toArray⟩, ⟨m.toArray⟩) := by
 have hi := ixN_app (c := 10) L m h
 unfold lineOfC
 rw [hS, hi, if_pos (by omega), e1, hz, e2]
theorem lineOf_app {L m : List UInt8} (h : ∀ b ∈ L, b ≠ 10) : lineOfC ⟨(L ++ 10 :: m).toArray⟩ = (⟨(L ++ [10]).toArray⟩, ⟨m.toArray⟩) := by
 have e : L ++ 10 :: m = (L ++ [10]) ++ m := by simp
 have h1 : At ⟨((L ++ [10]) ++ m).toArray⟩ 0 (L ++ [10]) := At_of m (L ++ [10]) []
 have h2 : At ⟨((L ++ [10]) ++ (m ++ [])).toArray⟩ (L ++ [10]).length m := At_of [] m (L ++ [10])
 rw [List.append_nil] at h2
 rw [← e] at h1 h2
 have hz : (⟨(L ++ 10 :: m).toArray⟩ : ByteArray).size = L.length + 1 + m.length := by rw [ba_size, List.length_append, List.length_cons]; omega
 have e1 := At_extract h1
 have e2 := At_extract h2
 have hS : (⟨(L ++ 10 :: m).toArray⟩ : ByteArray).data.toList = L ++ 10 :: m := List.toList_toArray ..
 generalize (⟨(L ++ 10 :: m).toArray⟩ : ByteArray) = S at *
 rw [Nat.zero_add, List.length_append, List.length_singleton] at e1
 rw [List.length_append, List.length_singleton] at e2
 exact lineOf_S hS h hz e1 e2
theorem csuf_S {S : ByteArray} {L : List UInt8} (hz : S.size = L.length + 1) (e1 : S.extract 0 L.length = ⟨L.toArray⟩) (e2 : S.extract L.length (L.length + 1) = ⟨[10].toArray⟩) : csuf 10 S = (⟨L.toArray⟩, true) := by
 have hs : sufB 10 S = true := by
  unfold sufB
  rw [hz, Nat.add_sub_cancel, e2]
  simp
 unfold csuf
 rw [if_pos hs, hz, Nat.add_sub_cancel, e1]
theorem csuf_app (L : List UInt8) : csuf 10 ⟨(L ++ [10]).toArray⟩ = (⟨L.toArray⟩, true) := by
 have h1 : At ⟨(L ++ [10]).toArray⟩ 0 L := At_of [10] L []
 have h2 : At ⟨(L ++ ([10] ++ [])).toArray⟩ L.length [10] := At_of [] [10] L
 rw [List.append_nil] at h2
 have hz : (⟨(L ++ [10]).toArray⟩ : ByteArray).size = L.length + 1 := by rw [ba_size, List.length_append]; rfl
 have e1 := At_extract h1
 have e2 := At_extract h2
 generalize (⟨(L ++ [10]).toArray⟩ : ByteArray) = S at *
 rw [Nat.zero_add] at e1
 rw [List.length_singleton] at e2
 exact csuf_S hz e1 e2
theorem brk_mem {c : Bool} {l : List UInt8} {b : UInt8} (h : b ∈ brk c l) : b = 40 ∨ b = 41 ∨ b ∈ l := by
 unfold brk at h
 split at h
 ·rcases List.mem_cons.1 h with h | h
  ·exact .inl h
  ·rcases List.mem_append.1 h with h | h
   ·exact .inr (.inr h)
   ·exact .inr (.inl (List.mem_singleton.1 h))
 ·exact .inr (.inr h)
theorem ltr_no {b : UInt8} (h : ltrB b.toNat = true) : b ≠ 10 ∧ b ≠ 32 := by
 constructor
 ·rintro rfl; revert h; decide
 ·rintro rfl; revert h; decide
theorem tx_no10 {K N : List ByteArray} (hok : NmOk K N) : ∀ r : Cf, r.may K.length N.length = true → ∀ b ∈ r.tx K N, b ≠ 10 := by
 have hnm : ∀ (L : List ByteArray), (∀ w ∈ L, nameB w = true) → ∀ n : Nat, n < L.length → ∀ b ∈ (L.getD n ⟨#[]⟩).data.toList, b ≠ 10 := by
  intro L hL n hn b hb
  rw [List.getD_eq_getElem?_getD, List.getElem?_eq_getElem hn, Option.getD_some] at hb
  exact (ltr_no ((name_ltr (hL _ (List.getElem_mem hn))).1 b hb)).1
 refine may_cases ?_ ?_ ?_ ?_ ?_ ?_
 ·rw [Cf.tx_1]; decide
 ·rw [Cf.tx_2]; decide
 ·intro n hn
  rw [Cf.tx_3, Int.toNat_natCast]; exact hnm K (fun w hw => hok.nms w (by simp [hw])) n hn
 ·intro n hn
  rw [Cf.tx_6, Int.toNat_natCast]; exact hnm N (fun w hw => hok.nms w (by simp [hw])) n hn
 ·intro x y _ _ hx hy b hb
  rw [Cf.tx_4] at hb
  rcases List.mem_append.1 hb with hb | hb
  ·rcases brk_mem hb with rfl | rfl | hb
   ·decide
   ·decide
   ·exact hx b hb
  ·rcases List.mem_cons.1 hb with rfl | hb
   ·decide
   rcases brk_mem hb with rfl | rfl | hb
   ·decide
   ·decide
   ·exact hy b hb
 ·intro x y _ _ hx hy b hb
  rw [Cf.tx_5] at hb
  rcases List.mem_append.1 hb with hb | hb
  ·rcases brk_mem hb with rfl | rfl | hb
   ·decide
   ·decide
   ·exact hx b hb
  ·simp only [List.mem_cons] at hb
   rcases hb with rfl | rfl | rfl | hb
   ·decide
   ·decide
   ·decide
   ·exact hy b hb
def lnOf (g : Gr) : Nat → List Df → List Ln
 | _, [] => []
 | a, x :: l => (a, x.1, ⟨(x.2.tx g.kinds (gNm g)).toArray⟩) :: lnOf g (a + (dfL g x).length) l
theorem lnOf_nms (g : Gr) : ∀ (l : List Df) (a : Nat), (lnOf g a l).map (·.2.1) = l.map (·.1)
 | [], a => rfl
 | x :: l, a => by rw [lnOf, List.map_cons, List.map_cons, lnOf_nms g l]
theorem lnOf_app (g : Gr) : ∀ (l m : List Df) (a : Nat), lnOf g a (l ++ m) = lnOf g a l ++ lnOf g (a + (dfT g l).length) m
 | [], m, a => rfl
 | x :: l, m, a => by rw [List.cons_append, lnOf, lnOf, lnOf_app g l m, dfT, List.length_append, List.cons_append, Nat.add_assoc]
theorem lnOf_len (g : Gr) : ∀ (l : List Df) (a : Nat), (lnOf g a l).length = l.length
 | [], a => rfl
 | x :: l, a => by rw [lnOf, List.length_cons, List.length_cons, lnOf_len g l]
theorem lnStep_of {g : Gr} (hok : NmOk g.kinds (gNm g)) (tot : Nat) (done : List Df) (x : Df) (rest : List Df) (hd : g.defs = done ++ x :: rest) (hl : done.length < 50) (hx : x.2.may g.kinds.length g.defs.length = true) :
  lnStep tot g.kinds (lnOf g 0 done) (dfT g done).length ⟨(dfL g x).toArray⟩ = .inr (lnOf g 0 (done ++ [x]), (dfT g (done ++ [x])).length) := by
 have hnx : nameB x.1 = true := hok.nms x.1 (List.mem_append.2 (.inr (List.mem_map.2 ⟨x, by rw [hd]; simp, rfl⟩)))
 have hlt := (name_ltr hnx).1
 have e : dfL g x = (x.1.data.toList ++ ([32, 61, 32] ++ x.2.tx g.kinds (gNm g))) ++ [10] := by unfold dfL; simp
 have hback : (⟨x.1.data.toList.toArray⟩ : ByteArray) = x.1 := ba_back x.1
 have hmet : ((metC g.kinds (lnOf g 0 done)).any fun y => decide (x.1 = y)) = false := by
  rw [List.any_eq_false]
  intro y hy
  simp only [decide_eq_true_eq]
  rintro rfl
  have hn := hok.nod
  rw [metC, lnOf_nms] at hy
  have hgn : gNm g = done.map (·.1) ++ x.1 :: rest.map (·.1) := by unfold gNm; rw [hd]; simp
  rw [hgn, ← List.append_assoc, List.nodup_append] at hn
  exact hn.2.2 _ hy _ (by simp) rfl
 unfold lnStep
 rw [show csuf 10 ⟨(dfL g x).toArray⟩ = (⟨(x.1.data.toList ++ ([32, 61, 32] ++ x.2.tx g.kinds (gNm g))).toArray⟩, true) from by rw [e]; exact csuf_app _]
 dsimp only
 rw [cut_name fun b hb => (ltr_no (hlt b hb)).2, hback]
 unfold lnK
 rw [if_neg (by simp), if_neg (by rw [lnOf_len]; omega), if_neg (by simp), if_neg (by rw [hnx]; simp), if_neg (by rw [hmet]; simp)]
 rw [lnOf_app, dfT_app, ba_size, Nat.zero_add]
 simp [lnOf, dfT]
theorem lnGo_of {g : Gr} (hok : NmOk g.kinds (gNm g)) (hl : g.defs.length ≤ 50) (hm : ∀ x ∈ g.defs, x.2.may g.kinds.length g.defs.length = true) (tot : Nat) :
  ∀ (rest done : List Df) (n : Nat), g.defs = done ++ rest → (dfT g rest).length ≤ n → lnGo tot g.kinds n ⟨(dfT g rest).toArray⟩ (lnOf g 0 done) (dfT g done).length = .inr (lnOf g 0 g.defs, (dfT g g.defs).length)
 | [], done, n, hd, hn => by
  rw [List.append_nil] at hd
  rw [hd]
  cases n with
  | zero => rw [lnGo]
  | succ n => rw [lnGo, if_pos (by rw [ba_size]; rfl)]
 | x :: rest, done, n, hd, hn => by
  have hx := hm x (by rw [hd]; simp)
  have hlen : done.length < 50 := by rw [hd, List.length_append, List.length_cons] at hl; omega
  have hno : ∀ b ∈ x.1.data.toList ++ ([32, 61, 32] ++ x.2.tx g.kinds (gNm g)), b ≠ 10 := by
   intro b hb
   rcases List.mem_append.1 hb with hb | hb
   ·exact (ltr_no ((name_ltr (hok.nms x.1 (List.mem_append.2 (.inr (List.mem_map.2 ⟨x, by rw [hd]; simp, rfl⟩))))).1 b hb)).1
   rcases List.mem_append.1 hb with hb | hb
   ·simp only [List.mem_cons, List.not_mem_nil, or_false] at hb
    rcases hb with rfl | rfl | rfl <;> decide
   ·exact tx_no10 hok x.2 (by rw [List.length_map]; exact hx) b hb
  have e : dfL g x = (x.1.data.toList ++ ([32, 61, 32] ++ x.2.tx g.kinds (gNm g))) ++ [10] := by unfold dfL; simp
  have e2 : dfT g (x :: rest) = (x.1.data.toList ++ ([32, 61, 32] ++ x.2.tx g.kinds (gNm g))) ++ 10 :: dfT g rest := by rw [dfT, e]; simp
  have hlen2 : (dfT g (x :: rest)).length = (dfL g x).length + (dfT g rest).length := by rw [dfT, List.length_append]
  have hpos : 1 ≤ (dfL g x).length := by rw [e, List.length_append]; simp
  cases n with
  | zero => omega
  | succ n =>
   have hline := lineOf_app (m := dfT g rest) hno
   rw [lnGo, if_neg (by rw [ba_size, hlen2]; omega), e2, hline]
   dsimp only
   rw [← e, lnStep_of hok tot done x rest hd hlen hx]
   dsimp only
   exact lnGo_of hok hl hm tot rest (done ++ [x]) n (by rw [hd]; simp) (by omega)
theorem bodies_of {g : Gr} (hok : NmOk g.kinds (gNm g)) : ∀ (l d : List Df) (a : Nat), (∀ x ∈ l, x.2.may g.kinds.length (gNm g).length = true) → bodiesGo g.kinds (gNm g) (lnOf g a l) d = .inr (d ++ l)
 | [], d, a, _ => by rw [lnOf, bodiesGo, List.append_nil]
 | x :: l, d, a, h => by
  have hw := whole_tx hok (h x (by simp))
  rw [lnOf, bodiesGo]
  dsimp only
  rw [hw, if_neg (by simp), bodies_of hok l _ _ fun y hy => h y (by simp [hy])]
  simp
theorem read_dfT {g : Gr} (hm : mayG g = true) (hz : (dfT g g.defs).length ≤ 65536) : readC ⟨(dfT g g.defs).toArray⟩ g.kinds = (g, 0, 0) := by
 obtain ⟨hkz, hdz, h1, h2, h3, h4, hon, hsz⟩ := mayG_facts hm
 have hok : NmOk g.kinds (gNm g) := nmOk_of hon
 have hs : (⟨(dfT g g.defs).toArray⟩ : ByteArray).size = (dfT g g.defs).length := ba_size _
 have hgo := lnGo_of hok h4 (fun x hx => (hdz x hx).2) (dfT g g.defs).length g.defs [] (dfT g g.defs).length rfl (Nat.le_refl _)
 have hne : lnOf g 0 g.defs ≠ [] := by
  intro h
  have := lnOf_len g g.defs 0
  rw [h] at this
  simp at this; omega
 have hL : linesR ⟨(dfT g g.defs).toArray⟩ g.kinds = (lnOf g 0 g.defs, 0, 0) := by
  unfold linesR
  rw [hs]
  rw [show lnOf g 0 [] = [] from rfl, show (dfT g []).length = 0 from rfl] at hgo
  rw [hgo]
  show (if lnOf g 0 g.defs = [] then _ else _) = _
  rw [if_neg hne]
 have hk : onceB g.kinds = true := by
  have hn := List.nodup_append.1 hok.nod
  unfold onceB
  rw [Bool.and_eq_true, List.all_eq_true, decide_eq_true_eq]
  exact ⟨fun w hw => hok.nms w (by simp [hw]), hn.1⟩
 unfold readC
 rw [hL, hs, if_neg (by omega), if_neg (by omega), if_neg (by omega), if_neg (by rw [hk]; simp), if_neg (by simp)]
 dsimp only
 rw [lnOf_nms, show g.defs.map (·.1) = gNm g from rfl, bodies_of hok g.defs [] 0 fun x hx => by rw [List.length_map]; exact (hdz x hx).2, List.nil_append]
 show (if 2000 < grSz g.defs then _ else _) = _
 rw [if_neg (by omega)]
attribute [local irreducible] xl hide aop aops aopQ qops guardP condP
set_option maxHeartbeats 4000000 in
theorem cfxBackL (g : Gr) (hg : ∀ x ∈ g.defs, x.2.sz ≤ 1099511627776) : AP Tryz.prog 4 [.agg g.c] (.b true) := by
 refine AC.lbody hT hm Tryz.func4 f4_nm f4_lc f4_res f4_nt ?_
 simp only [go_sem, Int.reduceEq, Int.reduceLE, Int.reduceLT, Int.reduceToNat, gr_take, gr_c_len]
 refine (rGreat g).pv ⟨.same (Gr.d_bl g), trivial⟩ ?_
 cases hgr : greatB g with
 | true =>
  simp only [go_sem, Int.reduceEq, Int.reduceLE, Int.reduceLT, Int.reduceToNat]
  refine awake21.pv (by simp) ?_
  simp only [go_sem, Int.reduceEq, Int.reduceLE, Int.reduceLT, Int.reduceToNat]
  exact Fin.v rfl
 | false =>
 obtain ⟨hF, hk, hd, hkz, hdz, hsz⟩ := great_fit hgr hg
 simp only [go_sem, Int.reduceEq, Int.reduceLE, Int.reduceLT, Int.reduceToNat, gr_take, gr_c_len]
 refine (rMayG g hF.nodes hF.kinds hF.defs).pv ⟨.same (Gr.d_bl g), trivial⟩ ?_
 cases hm : mayG g with
 | false =>
  simp only [go_sem, Int.reduceEq, Int.reduceLE, Int.reduceLT, Int.reduceToNat, Bool.not_false]
  refine awake21.pv (by simp) ?_
  simp only [go_sem, Int.reduceEq, Int.reduceLE, Int.reduceLT, Int.reduceToNat]
  exact Fin.v rfl
 | true =>
 have hPr := prC_fit hm hsz hd
 have hCP := cPrint g hF
 rw [hPr] at hCP
 have hlen : (dfT g g.defs).length ≤ 65536 := by
  by_cases h : (dfT g g.defs).length ≤ 65536
  ·exact h
  ·exfalso
   unfold prC at hPr
   rw [hm, if_neg (by simp), if_pos (by omega)] at hPr
   exact absurd (congrArg (fun x => x.2) hPr) (by simp)
 have hR := cReadA ⟨(dfT g g.defs).toArray⟩ g.kinds (by omega) fun x hx => by have := hkz x hx; omega
 rw [read_dfT hm hlen] at hR
 have hSA := rSameAll g (by omega) (by omega)
 have c0 : ((0 : Int) == 0) = true := rfl
 have c1 : (((0 : Nat) : Int) == 0) = true := rfl
 simp only [go_sem, Int.reduceEq, Int.reduceLE, Int.reduceLT, Int.reduceToNat, Bool.not_true, gr_take, gr_c_len]
 refine hCP.pd ⟨.same (Gr.d_bl g), trivial⟩ (.tup (by simp)) ?_
 simp only [go_sem, Int.reduceEq, Int.reduceLE, Int.reduceLT, Int.reduceToNat, gr_take, gr_c_len, c0, c1]
 refine hR.pd ⟨.v, .same (Strs_bl g.kinds), trivial⟩ (readCD_bl _) ?_
 simp only [go_sem, Int.reduceEq, Int.reduceLE, Int.reduceLT, Int.reduceToNat, gr_take, gr_c_len, c0, c1]
 refine hSA.pv ⟨.same (Gr.d_bl g), .same (Gr.d_bl g), trivial⟩ ?_
 simp only [go_sem, Int.reduceEq, Int.reduceLE, Int.reduceLT, Int.reduceToNat]
 refine awake21.pv (by simp) ?_
 simp only [go_sem, Int.reduceEq, Int.reduceLE, Int.reduceLT, Int.reduceToNat]
 exact Fin.v rfl
end Go.Proofs.YtdliolbjngcgcaaGreat.W
set_option maxRecDepth 100000
namespace Go.Proofs.YtdliolbjngcgcaaGreat.W
open Go Go.Proofs Go.Proofs.YtdliolbjngcgcaaGreat.AWP
attribute [local irreducible] xl hide aop aops aopQ qops guardP condP
abbrev zcf : Cf := .mk 0 0 []
def oneW (x : Cf × Nat × Nat) : Cf × Nat × Nat := if x.2.2 = 0 ∧ 2000 < x.1.sz then (zcf, 0, 4) else x
def oneC (g : Gr) (s : ByteArray) : Cf × Nat × Nat :=
 if mayG g = false then (zcf, 0, 1)
 else if 65536 < s.size then (zcf, 0, 3)
 else oneW (wholeP g.kinds (gNm g) s)
theorem cvZf {om : List Ob} {F : Nat → Bool} {kk : List (Option Nat)} : Cv om F kk (.agg [.v (.int .u8 0), .v (.int .i64 0), .v (.slice Option.none 0 0)]) (.agg zcf.c) := by
 rw [Cf.c_mk, Cf.cs_eq]
 exact .aggL ⟨.v, .v, .nil, trivial⟩
theorem wholeSM (ks ds : List ByteArray) (s : ByteArray) (hs : s.size ≤ 65536) (hk : ks.length ≤ 1000000) (hd : ds.length ≤ 1000000) (fr bk : List Ob) : AC Tryz.prog 27 [.ref fr.length 0] (fr ++ [crOb ks ds s 0] ++ bk) (fun o om => ∃ om', (o = .ret (wcD (wholeP ks ds s)) ∧ ∃ k, om' = [crOb ks ds s k]) ∧ om = fr ++ om' ++ bk) := by
 refine (wholeK (ks := ks) (ds := ds) hs hk hd).shiftM rfl ?_ ?_ ?_ ?_
 ·intro j d d' h1 h2
  match j with
  | 0 => cases h1; cases h2; exact .inr ⟨0, 0, rfl, rfl⟩
  | j + 1 => cases h1
 ·intro j k off h
  match j with
  | 0 => cases h; exact Nat.zero_lt_one
  | j + 1 => cases h
 ·intro o ho
  rw [List.mem_singleton.1 ho]
  exact crBl ks ds s 0
 ·rintro o om' ⟨rfl, k, rfl⟩
  refine ⟨rfl, .tup ?_, fun x hx => ?_⟩
  ·intro d hd
   simp only [List.mem_cons, List.not_mem_nil, or_false] at hd
   rcases hd with rfl | rfl | rfl
   ·exact Cf.d_bl _
   ·exact .v _
   ·exact .v _
  ·rw [List.mem_singleton.1 hx]
   exact crBl ks ds s k
theorem gd_set (env : List D) (i j : Nat) (v : D) : (env.set i v).getD j .any = if i = j ∧ i < env.length then v else env.getD j .any := by
 by_cases h : i = j
 ·subst h
  by_cases h2 : i < env.length
  ·rw [if_pos ⟨rfl, h2⟩]; exact getD_setS h2
  ·rw [if_neg fun h => h2 h.2, List.set_eq_of_length_le (by omega)]
 ·rw [if_neg fun h2 => h h2.1]; exact getD_setN h
def oneJ (ks ds : List ByteArray) (s : ByteArray) (w : Cf × Nat × Nat) (L : Nat → Bool) (x : St) : Prop :=
  ∃ k, (L 8 = false → k = 0) ∧ (L 8 = true → L 7 = true ∧ x.env.getD 29 .any = wcD w) ∧ (L 14 = true → L 13 = true) ∧
    ((L 7 = false ∧ L 13 = false ∧ x.om = [zCfOb]) ∨
     (L 7 = true ∧ L 13 = false ∧ x.om = [zCfOb, crOb ks ds s k] ∧ x.env.getD 28 .any = .ref 1 0) ∨
     (L 7 = false ∧ L 13 = true ∧ x.om = [zCfOb, .var 40 (if L 14 = true then w.1.c else zCf)] ∧ x.env.getD 7 .any = .ref 1 0) ∨
     (L 7 = true ∧ L 13 = true ∧ x.om = [zCfOb, crOb ks ds s k, .var 40 (if L 14 = true then w.1.c else zCf)] ∧ x.env.getD 28 .any = .ref 1 0 ∧ x.env.getD 7 .any = .ref 2 0) ∨
     (L 7 = true ∧ L 13 = true ∧ x.om = [zCfOb, .var 40 (if L 14 = true then w.1.c else zCf), crOb ks ds s k] ∧ x.env.getD 28 .any = .ref 2 0 ∧ x.env.getD 7 .any = .ref 1 0))
theorem oneJ_mono {ks ds : List ByteArray} {s : ByteArray} {w : Cf × Nat × Nat} {L L' : Nat → Bool} {e e' : List D} {om : List Ob} (h7 : L' 7 = L 7) (h8 : L' 8 = L 8) (h13 : L' 13 = L 13) (h14 : L' 14 = L 14) (e28 : e'.getD 28 .any = e.getD 28 .any) (e29 : e'.getD 29 .any = e.getD 29 .any) (e7 : e'.getD 7 .any = e.getD 7 .any)
  (h : oneJ ks ds s w L ⟨e, om⟩) : oneJ ks ds s w L' ⟨e', om⟩ := by
 unfold oneJ at h ⊢
 dsimp only at h ⊢
 rw [h7, h8, h13, h14, e28, e29, e7]
 exact h
def oneV (g : Gr) (s : ByteArray) (w : Cf × Nat × Nat) (i : Nat) : D :=
 ([.s s, .pel g.c, Strs g.kinds, .pel [Defs g.defs], Defs g.defs, Strs (gNm g), .agg [.s s, .i 0, Strs g.kinds, Strs (gNm g)], .any, .any, wcD w, .agg w.1.c, .i w.2.1, .i w.2.2, .any, .any, .i w.2.1, .i w.2.2] : List D).getD i .any
set_option maxHeartbeats 4000000 in
theorem cOne (g : Gr) (s : ByteArray) (hg : GFit g) : AP Tryz.prog 21 [.agg g.c, .s s] (wcD (oneC g s)) := by
 have hM := cMayG g hg
 have hN := cNames g.defs hg.defs
 unfold oneC
 refine AC.lbody hT hm Tryz.func21 f21_nm f21_lc f21_res f21_nt ?_
 simp only [go_sem, Int.reduceEq, Int.reduceLE, Int.reduceLT, Int.reduceToNat, gr_take, gr_c_len, List.length_map]
 refine hM.pv ⟨.same (Gr.d_bl g), trivial⟩ ?_
 cases hmay : mayG g with
 | false =>
  rw [if_pos rfl]
  simp only [go_sem, Int.reduceEq, Int.reduceLE, Int.reduceLT, Int.reduceToNat, Bool.not_false]
  exact Fin.ret (.tupL ⟨cvZf, .v, .v, trivial⟩)
 | true =>
 rw [if_neg (by simp)]
 by_cases h0 : 65536 < s.size
 ·have h0' : (65536 : Int) < s.size := by omega
  rw [if_pos h0]
  simp only [go_sem, Int.reduceEq, Int.reduceLE, Int.reduceLT, Int.reduceToNat, h0', Bool.not_true]
  exact Fin.ret (.tupL ⟨cvZf, .v, .v, trivial⟩)
 have h0' : ¬ (65536 : Int) < s.size := by omega
 rw [if_neg h0]
 obtain ⟨hkz, hdz, hk1, hk2, hd1, hd2, hon, hsz⟩ := mayG_facts hmay
 have hW := wholeSK g.kinds (gNm g) s (by omega) (by omega) (by rw [List.length_map]; omega)
 have hgood := wholeP_good g.kinds (gNm g) s
 simp only [go_sem, Int.reduceEq, Int.reduceLE, Int.reduceLT, Int.reduceToNat, h0', Bool.not_true]
 have hW0 := wholeSM g.kinds (gNm g) s (by omega) (by omega) (by rw [List.length_map]; omega)
 generalize wholeP g.kinds (gNm g) s = w at hW hW0 hgood ⊢
 refine free_genJ (oneV g s w) [1, 2, 4] [7, 8, 13, 14] (oneJ g.kinds (gNm g) s w) (by rfl) ⟨0, fun _ => rfl, fun h => (by cases h), fun h => (by cases h), .inl ⟨rfl, rfl, rfl⟩⟩ ?_ ?_ ?_
 ·intro L L' e e' om' hL he hJ
  exact oneJ_mono (hL 7 (by simp)) (hL 8 (by simp)) (hL 13 (by simp)) (hL 14 (by simp)) (he 7 (by simp) 28 rfl) (he 8 (by simp) 29 rfl) (he 13 (by simp) 7 rfl) hJ
 ·intro i o hio L env' om' hlen hkeep hds hL hdep hJ K' hK1 hK2
  have k1 : env'.getD 1 .any = .s s := hkeep 1 (by simp)
  have k2 : env'.getD 2 .any = .pel g.c := hkeep 2 (by simp)
  have hlen' : env'.length = 45 := hlen
  have hi : i < 17 := (List.getElem?_eq_some_iff.1 hio).1
  match i, hi with
  | 0, _ =>
   cases hio
   simp only [go_sem, Int.reduceEq, Int.reduceLE, Int.reduceLT, Int.reduceToNat, evD_tmp, k1]
   exact hK1 rfl
  | 1, _ =>
   cases hio
   simp only [go_sem, Int.reduceEq, Int.reduceLE, Int.reduceLT, Int.reduceToNat, evD_tmp, k2]
   exact hK1 rfl
  | 2, _ =>
   cases hio
   have d := hdep 1 (by decide) rfl 22 rfl
   simp only [go_sem, Int.reduceEq, Int.reduceLE, Int.reduceLT, Int.reduceToNat, evD_tmp, d, oneV, List.getD_cons_succ, List.getD_cons_zero]
   exact hK1 rfl
  | 3, _ =>
   cases hio
   simp only [go_sem, Int.reduceEq, Int.reduceLE, Int.reduceLT, Int.reduceToNat, evD_tmp, k2]
   exact hK1 rfl
  | 4, _ =>
   cases hio
   have d := hdep 3 (by decide) rfl 24 rfl
   simp only [go_sem, Int.reduceEq, Int.reduceLE, Int.reduceLT, Int.reduceToNat, evD_tmp, d, oneV, List.getD_cons_succ, List.getD_cons_zero]
   exact hK1 rfl
  | 5, _ =>
   cases hio
   have d := hdep 4 (by decide) rfl 25 rfl
   simp only [go_sem, Int.reduceEq, Int.reduceLE, Int.reduceLT, Int.reduceToNat, evD_tmp, d, oneV, List.getD_cons_succ, List.getD_cons_zero]
   refine hN.pd ⟨.same (Defs_bl _), trivial⟩ (Strs_bl _) ?_
   simp only [go_sem, Int.reduceEq, Int.reduceLE, Int.reduceLT, Int.reduceToNat]
   exact hK1 rfl
  | 6, _ =>
   cases hio
   have d0 := hdep 0 (by decide) rfl 21 rfl
   have d2 := hdep 2 (by decide) rfl 23 rfl
   have d5 := hdep 5 (by decide) rfl 26 rfl
   simp only [go_sem, Int.reduceEq, Int.reduceLE, Int.reduceLT, Int.reduceToNat, evD_tmp, d0, d2, d5, oneV, List.getD_cons_succ, List.getD_cons_zero]
   exact hK1 rfl
  | 7, _ =>
   cases hio
   have d := hdep 6 (by decide) rfl 27 rfl
   simp only [go_sem, Int.reduceEq, Int.reduceLE, Int.reduceLT, Int.reduceToNat, evD_tmp, d, oneV, List.getD_cons_succ, List.getD_cons_zero]
   obtain ⟨k, j1, j2, j3, j⟩ := hJ
   have j8 : L 8 = true → False := fun h => by rw [(j2 h).1] at hL; cases hL
   dsimp only at j
   rcases j with ⟨a, b, rfl⟩ | ⟨a, _⟩ | ⟨a, b, rfl, c⟩ | ⟨a, _⟩ | ⟨a, _⟩
   ·refine hK2 rfl _ (by simp [hlen']) (fun k hk => getD_setN fun e => hk (by rw [← e]; rfl)) ⟨0, fun _ => rfl, fun h => (j8 h).elim, j3, .inr (.inl ⟨rfl, b, rfl, getD_setS (by omega)⟩)⟩
   ·rw [a] at hL; cases hL
   ·refine hK2 rfl _ (by simp [hlen']) (fun k hk => getD_setN fun e => hk (by rw [← e]; rfl)) ⟨0, fun _ => rfl, fun h => (j8 h).elim, j3, .inr (.inr (.inr (.inr ⟨rfl, b, rfl, getD_setS (by omega), (getD_setN (by omega)).trans c⟩)))⟩
   ·rw [a] at hL; cases hL
   ·rw [a] at hL; cases hL
  | 8, _ =>
   cases hio
   have hL7 : L 7 = true := hds 7 (by decide)
   obtain ⟨k, j1, j2, j3, j⟩ := hJ
   have hk := j1 hL
   subst hk
   dsimp only at j
   rcases j with ⟨a, _⟩ | ⟨a, b, rfl, c⟩ | ⟨a, _⟩ | ⟨a, b, rfl, c, d⟩ | ⟨a, b, rfl, c, d⟩
   ·rw [a] at hL7; cases hL7
   ·simp only [go_sem, Int.reduceEq, Int.reduceLE, Int.reduceLT, Int.reduceToNat, evD_tmp, c]
    refine ⟨_, hW [_], ?_⟩
    rintro _ _ ⟨_, ⟨rfl, k, rfl⟩, rfl⟩
    simp only [go_sem, Int.reduceEq, Int.reduceLE, Int.reduceLT, Int.reduceToNat]
    refine hK2 rfl _ (by simp [hlen']) (fun k hk => getD_setN fun e => hk (by rw [← e]; rfl)) ⟨k, fun h => (by cases h), fun _ => ⟨a, getD_setS (by omega)⟩, j3, .inr (.inl ⟨a, b, rfl, (getD_setN (by omega)).trans c⟩)⟩
   ·rw [a] at hL7; cases hL7
   ·simp only [go_sem, Int.reduceEq, Int.reduceLE, Int.reduceLT, Int.reduceToNat, evD_tmp, c]
    refine ⟨_, hW0 [_] [_], ?_⟩
    rintro _ _ ⟨_, ⟨rfl, k, rfl⟩, rfl⟩
    simp only [go_sem, Int.reduceEq, Int.reduceLE, Int.reduceLT, Int.reduceToNat]
    refine hK2 rfl _ (by simp [hlen']) (fun k hk => getD_setN fun e => hk (by rw [← e]; rfl)) ⟨k, fun h => (by cases h), fun _ => ⟨a, getD_setS (by omega)⟩, j3, .inr (.inr (.inr (.inl ⟨a, b, rfl, (getD_setN (by omega)).trans c, (getD_setN (by omega)).trans d⟩)))⟩
   ·simp only [go_sem, Int.reduceEq, Int.reduceLE, Int.reduceLT, Int.reduceToNat, evD_tmp, c]
    refine ⟨_, hW [_, _], ?_⟩
    rintro _ _ ⟨_, ⟨rfl, k, rfl⟩, rfl⟩
    simp only [go_sem, Int.reduceEq, Int.reduceLE, Int.reduceLT, Int.reduceToNat]
    refine hK2 rfl _ (by simp [hlen']) (fun k hk => getD_setN fun e => hk (by rw [← e]; rfl)) ⟨k, fun h => (by cases h), fun _ => ⟨a, getD_setS (by omega)⟩, j3, .inr (.inr (.inr (.inr ⟨a, b, rfl, (getD_setN (by omega)).trans c, (getD_setN (by omega)).trans d⟩)))⟩
  | 9, _ =>
   cases hio
   obtain ⟨k, j1, j2, j3, j⟩ := hJ
   have d := (j2 (hds 8 (by decide))).2
   dsimp only at d
   simp only [go_sem, Int.reduceEq, Int.reduceLE, Int.reduceLT, Int.reduceToNat, evD_tmp, d]
   exact hK1 rfl
  | 10, _ =>
   cases hio
   have d := hdep 9 (by decide) rfl 20 rfl
   simp only [go_sem, Int.reduceEq, Int.reduceLE, Int.reduceLT, Int.reduceToNat, evD_tmp, d, oneV, List.getD_cons_succ, List.getD_cons_zero]
   exact hK1 rfl
  | 11, _ =>
   cases hio
   have d := hdep 9 (by decide) rfl 20 rfl
   simp only [go_sem, Int.reduceEq, Int.reduceLE, Int.reduceLT, Int.reduceToNat, evD_tmp, d, oneV, List.getD_cons_succ, List.getD_cons_zero]
   exact hK1 rfl
  | 12, _ =>
   cases hio
   have d := hdep 9 (by decide) rfl 20 rfl
   simp only [go_sem, Int.reduceEq, Int.reduceLE, Int.reduceLT, Int.reduceToNat, evD_tmp, d, oneV, List.getD_cons_succ, List.getD_cons_zero]
   exact hK1 rfl
  | 13, _ =>
   cases hio
   simp only [go_sem, Int.reduceEq, Int.reduceLE, Int.reduceLT, Int.reduceToNat, evD_tmp]
   obtain ⟨k, j1, j2, j3, j⟩ := hJ
   have j14 : L 14 = false := by
    cases h : L 14 with
    | false => rfl
    | true => rw [j3 h] at hL; cases hL
   dsimp only at j
   rcases j with ⟨a, b, rfl⟩ | ⟨a, b, rfl, c⟩ | ⟨a, b, _⟩ | ⟨a, b, _⟩ | ⟨a, b, _⟩
   ·refine hK2 rfl _ (by simp [hlen']) (fun k hk => getD_setN fun e => hk (by rw [← e]; rfl)) ⟨k, j1, fun h => ⟨(j2 h).1, (getD_setN (by omega)).trans (j2 h).2⟩, fun _ => rfl, .inr (.inr (.inl ⟨a, rfl, ?_, getD_setS (by omega)⟩))⟩
    show _ = [zCfOb, .var _ (if L 14 = true then w.1.c else zCf)]
    rw [j14]; rfl
   ·refine hK2 rfl _ (by simp [hlen']) (fun k hk => getD_setN fun e => hk (by rw [← e]; rfl)) ⟨k, j1, fun h => ⟨(j2 h).1, (getD_setN (by omega)).trans (j2 h).2⟩, fun _ => rfl, .inr (.inr (.inr (.inl ⟨a, rfl, ?_, (getD_setN (by omega)).trans c, getD_setS (by omega)⟩)))⟩
    show _ = [zCfOb, _, .var _ (if L 14 = true then w.1.c else zCf)]
    rw [j14]; rfl
   ·rw [b] at hL; cases hL
   ·rw [b] at hL; cases hL
   ·rw [b] at hL; cases hL
  | 14, _ =>
   cases hio
   have hL7 : L 7 = true := hds 7 (by decide)
   have hL13 : L 13 = true := hds 13 (by decide)
   have d := hdep 10 (by decide) rfl 30 rfl
   obtain ⟨k, j1, j2, j3, j⟩ := hJ
   dsimp only at j
   rcases j with ⟨a, _⟩ | ⟨a, b, _⟩ | ⟨a, _⟩ | ⟨a, b, rfl, c, e⟩ | ⟨a, b, rfl, c, e⟩
   ·rw [a] at hL7; cases hL7
   ·rw [b] at hL13; cases hL13
   ·rw [a] at hL7; cases hL7
   ·simp only [go_sem, Int.reduceEq, Int.reduceLE, Int.reduceLT, Int.reduceToNat, evD_tmp, d, e, oneV, List.getD_cons_succ, List.getD_cons_zero, hL]
    refine hK2 rfl _ hlen' (fun k hk => rfl) ⟨k, j1, j2, fun _ => b, .inr (.inr (.inr (.inl ⟨a, b, ?_, c, e⟩)))⟩
    rfl
   ·simp only [go_sem, Int.reduceEq, Int.reduceLE, Int.reduceLT, Int.reduceToNat, evD_tmp, d, e, oneV, List.getD_cons_succ, List.getD_cons_zero, hL]
    refine hK2 rfl _ hlen' (fun k hk => rfl) ⟨k, j1, j2, fun _ => b, .inr (.inr (.inr (.inr ⟨a, b, ?_, c, e⟩)))⟩
    rfl
  | 15, _ =>
   cases hio
   have d := hdep 11 (by decide) rfl 31 rfl
   simp only [go_sem, Int.reduceEq, Int.reduceLE, Int.reduceLT, Int.reduceToNat, evD_tmp, d, oneV, List.getD_cons_succ, List.getD_cons_zero]
   exact hK1 rfl
  | 16, _ =>
   cases hio
   have d := hdep 12 (by decide) rfl 32 rfl
   simp only [go_sem, Int.reduceEq, Int.reduceLE, Int.reduceLT, Int.reduceToNat, evD_tmp, d, oneV, List.getD_cons_succ, List.getD_cons_zero]
   exact hK1 rfl
  | i + 17, hi => exact absurd hi (by omega)
 ·intro L env' om' hall hlen hkeep hV hJ
  have k4 : env'.getD 4 .any = .ref 0 0 := hkeep 4 (by simp)
  have k8 : env'.getD 8 .any = .i w.2.1 := hV 15 8 rfl rfl
  have k9 : env'.getD 9 .any = .i w.2.2 := hV 16 9 rfl rfl
  have hall' : ∀ i, i < 17 → L i = true := hall
  have h14 := hall' 14 (by omega)
  obtain ⟨k, j1, j2, j3, j⟩ := hJ
  have h7 := hall' 7 (by omega)
  have h13 := hall' 13 (by omega)
  unfold oneW
  dsimp only at j
  rw [h14, if_pos rfl] at j
  have hlen' : env'.length = 45 := hlen
  rcases j with ⟨a, _⟩ | ⟨a, b, _⟩ | ⟨a, _⟩ | ⟨a, b, rfl, c, e⟩ | ⟨a, b, rfl, c, e⟩
  ·rw [a] at h7; cases h7
  ·rw [b] at h13; cases h13
  ·rw [a] at h7; cases h7
  ·simp only [go_sem, Int.reduceEq, Int.reduceLE, Int.reduceLT, Int.reduceToNat, evD_tmp, gd_set, List.length_set, hlen', Nat.reduceLT, Nat.reduceEqDiff, and_true, and_self, false_and, if_true, if_false, e, k8, k9]
   by_cases he : w.2.2 = 0
   ·have c0 : ((w.2.2 : Int) == 0) = true := by rw [he]; rfl
    have hS := cSize1 w.1 (by have := (hgood he).1; omega)
    simp only [go_sem, Int.reduceEq, Int.reduceLE, Int.reduceLT, Int.reduceToNat, evD_tmp, gd_set, List.length_set, hlen', Nat.reduceLT, Nat.reduceEqDiff, and_true, and_self, false_and, if_true, if_false, e, k4, k8, k9, c0, Cf.c_take]
    refine hS.pv ⟨.same (one_blC _), trivial⟩ ?_
    by_cases hz : 2000 < w.1.sz
    ·have hz' : (2000 : Int) < w.1.sz := by omega
     simp only [go_sem, Int.reduceEq, Int.reduceLE, Int.reduceLT, Int.reduceToNat, evD_tmp, gd_set, List.length_set, hlen', Nat.reduceLT, Nat.reduceEqDiff, and_true, and_self, false_and, if_true, if_false, e, k4, k8, k9, hz', Cf.c_take]
     rw [if_pos ⟨he, hz⟩]
     exact Fin.ret (.tupL ⟨cvZf, .v, .v, trivial⟩)
    ·have hz' : ¬ (2000 : Int) < w.1.sz := by omega
     simp only [go_sem, Int.reduceEq, Int.reduceLE, Int.reduceLT, Int.reduceToNat, evD_tmp, gd_set, List.length_set, hlen', Nat.reduceLT, Nat.reduceEqDiff, and_true, and_self, false_and, if_true, if_false, e, k4, k8, k9, hz', Cf.c_take]
     rw [if_neg fun h => hz h.2]
     exact Fin.ret (.tupL ⟨.same (Cf.d_bl _), .v, .v, trivial⟩)
   ·have c0 : ((w.2.2 : Int) == 0) = false := by rw [beq_eq_false_iff_ne]; omega
    simp only [go_sem, Int.reduceEq, Int.reduceLE, Int.reduceLT, Int.reduceToNat, evD_tmp, gd_set, List.length_set, hlen', Nat.reduceLT, Nat.reduceEqDiff, and_true, and_self, false_and, if_true, if_false, e, k4, k8, k9, c0, Cf.c_take]
    rw [if_neg fun h => he h.1]
    exact Fin.ret (.tupL ⟨.same (Cf.d_bl _), .v, .v, trivial⟩)
  ·simp only [go_sem, Int.reduceEq, Int.reduceLE, Int.reduceLT, Int.reduceToNat, evD_tmp, gd_set, List.length_set, hlen', Nat.reduceLT, Nat.reduceEqDiff, and_true, and_self, false_and, if_true, if_false, e, k8, k9]
   by_cases he : w.2.2 = 0
   ·have c0 : ((w.2.2 : Int) == 0) = true := by rw [he]; rfl
    have hS := cSize1 w.1 (by have := (hgood he).1; omega)
    simp only [go_sem, Int.reduceEq, Int.reduceLE, Int.reduceLT, Int.reduceToNat, evD_tmp, gd_set, List.length_set, hlen', Nat.reduceLT, Nat.reduceEqDiff, and_true, and_self, false_and, if_true, if_false, e, k4, k8, k9, c0, Cf.c_take]
    refine hS.pv ⟨.same (one_blC _), trivial⟩ ?_
    by_cases hz : 2000 < w.1.sz
    ·have hz' : (2000 : Int) < w.1.sz := by omega
     simp only [go_sem, Int.reduceEq, Int.reduceLE, Int.reduceLT, Int.reduceToNat, evD_tmp, gd_set, List.length_set, hlen', Nat.reduceLT, Nat.reduceEqDiff, and_true, and_self, false_and, if_true, if_false, e, k4, k8, k9, hz', Cf.c_take]
     rw [if_pos ⟨he, hz⟩]
     exact Fin.ret (.tupL ⟨cvZf, .v, .v, trivial⟩)
    ·have hz' : ¬ (2000 : Int) < w.1.sz := by omega
     simp only [go_sem, Int.reduceEq, Int.reduceLE, Int.reduceLT, Int.reduceToNat, evD_tmp, gd_set, List.length_set, hlen', Nat.reduceLT, Nat.reduceEqDiff, and_true, and_self, false_and, if_true, if_false, e, k4, k8, k9, hz', Cf.c_take]
     rw [if_neg fun h => hz h.2]
     exact Fin.ret (.tupL ⟨.same (Cf.d_bl _), .v, .v, trivial⟩)
   ·have c0 : ((w.2.2 : Int) == 0) = false := by rw [beq_eq_false_iff_ne]; omega
    simp only [go_sem, Int.reduceEq, Int.reduceLE, Int.reduceLT, Int.reduceToNat, evD_tmp, gd_set, List.length_set, hlen', Nat.reduceLT, Nat.reduceEqDiff, and_true, and_self, false_and, if_true, if_false, e, k4, k8, k9, c0, Cf.c_take]
    rw [if_neg fun h => he h.1]
    exact Fin.ret (.tupL ⟨.same (Cf.d_bl _), .v, .v, trivial⟩)
end Go.Proofs.YtdliolbjngcgcaaGreat.W
set_option maxRecDepth 100000
namespace Go.Proofs.YtdliolbjngcgcaaGreat.W
open Go Go.Proofs Go.Proofs.YtdliolbjngcgcaaGreat.AWP
attribute [local irreducible] xl hide aop aops aopQ qops guardP condP
theorem one_ok {g : Gr} {s : ByteArray} (h : (oneC g s).2.2 = 0) : mayG g = true ∧ s.size ≤ 65536 ∧ ∃ r : Cf, wholeP g.kinds (gNm g) s = (r, 0, 0) ∧ r.sz ≤ 2000 ∧ oneC g s = (r, 0, 0) := by
 unfold oneC at h ⊢
 split at h
 ·cases h
 rename_i hm
 rw [if_neg hm]
 split at h
 ·cases h
 rename_i hs
 rw [if_neg hs]
 unfold oneW at h ⊢
 split at h
 ·cases h
 rename_i hw
 rw [if_neg hw]
 have hz : (wholeP g.kinds (gNm g) s).2.1 = 0 := by
  revert h
  unfold wholeP
  split
  ·rename_i q e he
   have := (orF_bad _ _ (Nat.le_refl _) he).1
   intro h; dsimp only at h; omega
  ·split
   ·intro h; cases h
   ·intro _; rfl
 refine ⟨by simpa using hm, by omega, (wholeP g.kinds (gNm g) s).1, ?_, by omega, ?_⟩
 ·exact Prod.ext rfl (Prod.ext hz h)
 ·exact Prod.ext rfl (Prod.ext hz h)
theorem wcD_bl (x : Cf × Nat × Nat) : Bl 0 (wcD x) := .tup (by
 intro d hd
 simp only [List.mem_cons, List.not_mem_nil, or_false] at hd
 rcases hd with rfl | rfl | rfl
 ·exact Cf.d_bl _
 ·exact .v _
 ·exact .v _)
end Go.Proofs.YtdliolbjngcgcaaGreat.W
set_option maxRecDepth 100000
namespace Go.Proofs.YtdliolbjngcgcaaGreat.W
open Go Go.Proofs Go.Proofs.YtdliolbjngcgcaaGreat.AWP
attribute [local irreducible] xl hide aop aops aopQ qops guardP condP
theorem whole_z (K N : List ByteArray) (s : ByteArray) : (wholeP K N s).2.2 ≠ 0 → (wholeP K N s).1 = zcf := by
 unfold wholeP
 split
 ·intro _; rfl
 ·split
  ·intro _; rfl
  ·intro h; exact absurd rfl h
theorem whole_p (K N : List ByteArray) (s : ByteArray) : (wholeP K N s).2.2 = 0 → (wholeP K N s).2.1 = 0 := by
 unfold wholeP
 split
 ·rename_i q e he
  have := (orF_bad _ _ (Nat.le_refl _) he).1
  intro h; dsimp only at h; omega
 ·split
  ·intro h; cases h
  ·intro _; rfl
theorem nms_drop (g : Gr) : (grNms g).drop g.kinds.length = gNm g := by unfold grNms; simp
set_option maxHeartbeats 4000000 in
theorem rOne (g : Gr) (s : ByteArray) (hg : GFit g) : AP Tryz.prog 22 [.agg g.c, .s s] (wcD (oneC g s)) := by
 have hM := rMayG g hg.nodes hg.kinds hg.defs
 have hN := rNames g hg.kinds hg.defs
 unfold oneC
 refine AC.lbody hT hm Tryz.func22 f22_nm f22_lc f22_res f22_nt ?_
 simp only [go_sem, Int.reduceEq, Int.reduceLE, Int.reduceLT, Int.reduceToNat, gr_take, gr_c_len, List.length_map]
 refine hM.pv ⟨.same (Gr.d_bl g), trivial⟩ ?_
 cases hmay : mayG g with
 | false =>
  rw [if_pos rfl]
  simp only [go_sem, Int.reduceEq, Int.reduceLE, Int.reduceLT, Int.reduceToNat, Bool.not_false, Cf.c_take]
  exact Fin.ret (.tupL ⟨cvZf, .v, .v, trivial⟩)
 | true =>
 rw [if_neg (by simp)]
 by_cases h0 : 65536 < s.size
 ·have h0' : (65536 : Int) < s.size := by omega
  rw [if_pos h0]
  simp only [go_sem, Int.reduceEq, Int.reduceLE, Int.reduceLT, Int.reduceToNat, h0', Bool.not_true]
  exact Fin.ret (.tupL ⟨cvZf, .v, .v, trivial⟩)
 have h0' : ¬ (65536 : Int) < s.size := by omega
 rw [if_neg h0]
 obtain ⟨hkz, hdz, hk1, hk2, hd1, hd2, hon, hsz⟩ := mayG_facts hmay
 have hW := rWhole g.kinds (gNm g) s (by omega) (by omega) (by rw [List.length_map]; omega)
 have hgood := wholeP_good g.kinds (gNm g) s
 have hnl : g.kinds.length ≤ (grNms g).length := by unfold grNms; simp
 have hnd : (strR (grNms g)).drop g.kinds.length = strR (gNm g) := by rw [← List.map_drop, nms_drop]
 have hnt : (strR (grNms g)).take (grNms g).length = strR (grNms g) := List.take_of_length_le (by simp)
 simp only [go_sem, Int.reduceEq, Int.reduceLE, Int.reduceLT, Int.reduceToNat, h0', Bool.not_true, ne_eq, reduceCtorEq, not_false_eq_true, implies_true, List.length_map, gr_take, gr_c_len]
 refine hN.qd ⟨.same (Gr.d_bl g), trivial⟩ (Strs_bl _) ?_
 simp only [go_sem, Int.reduceEq, Int.reduceLE, Int.reduceLT, Int.reduceToNat, ne_eq, reduceCtorEq, not_false_eq_true, implies_true, List.length_map, gr_take, gr_c_len, hnl, hnd, hnt, Nat.le_refl]
 refine hW.qd ⟨.v, .same (Strs_bl _), .same (Strs_bl _), trivial⟩ (.agg (Pd_bl _ _ _)) ?_
 have hzc := whole_z g.kinds (gNm g) s
 have hpz := whole_p g.kinds (gNm g) s
 generalize wholeP g.kinds (gNm g) s = w at hgood hzc hpz ⊢
 obtain ⟨c, p, e⟩ := w
 dsimp only at hgood hzc hpz
 simp only [go_sem, Int.reduceEq, Int.reduceLE, Int.reduceLT, Int.reduceToNat, ne_eq, reduceCtorEq, not_false_eq_true, implies_true, List.length_map, gr_take, gr_c_len, Pd_4]
 unfold oneW
 by_cases he : e = 0
 case neg =>
  have hc := hzc he
  subst hc
  have e0 : ((e : Int) != 0) = true := by simp; omega
  rw [if_neg fun h => he h.1]
  simp only [go_sem, Int.reduceEq, Int.reduceLE, Int.reduceLT, Int.reduceToNat, e0]
  refine free_gen (fun i => ([.agg zCf, .ref 2 3, .i p, .ref 2 4, .i e, .any, .i p, .i e] : List D).getD i .any) [4, 7, 8] (by rfl) ?_ ?_
  ·intro i o hio env' hlen hkeep hdep K' hK'
   have k4 : env'.getD 4 .any = .ref 0 0 := hkeep 4 (by simp)
   have k7 : env'.getD 7 .any = .ref 1 0 := hkeep 7 (by simp)
   have k8 : env'.getD 8 .any = .ref 2 0 := hkeep 8 (by simp)
   have hi : i < 8 := (List.getElem?_eq_some_iff.1 hio).1
   match i, hi with
   | 0, _ =>
    cases hio
    simp only [go_sem, Int.reduceEq, Int.reduceLE, Int.reduceLT, Int.reduceToNat, evD_tmp, k7]
    exact hK'
   | 1, _ =>
    cases hio
    simp only [go_sem, Int.reduceEq, Int.reduceLE, Int.reduceLT, Int.reduceToNat, evD_tmp, k8]
    exact hK'
   | 2, _ =>
    cases hio
    have d := hdep 1 (by decide) 32 rfl
    simp only [go_sem, Int.reduceEq, Int.reduceLE, Int.reduceLT, Int.reduceToNat, evD_tmp, d, Pd_3, List.getD_cons_succ, List.getD_cons_zero]
    exact hK'
   | 3, _ =>
    cases hio
    simp only [go_sem, Int.reduceEq, Int.reduceLE, Int.reduceLT, Int.reduceToNat, evD_tmp, k8]
    exact hK'
   | 4, _ =>
    cases hio
    have d := hdep 3 (by decide) 34 rfl
    simp only [go_sem, Int.reduceEq, Int.reduceLE, Int.reduceLT, Int.reduceToNat, evD_tmp, d, Pd_4, List.getD_cons_succ, List.getD_cons_zero]
    exact hK'
   | 5, _ =>
    cases hio
    have d := hdep 0 (by decide) 31 rfl
    simp only [go_sem, Int.reduceEq, Int.reduceLE, Int.reduceLT, Int.reduceToNat, evD_tmp, d, k4, List.getD_cons_succ, List.getD_cons_zero]
    exact hK'
   | 6, _ =>
    cases hio
    have d := hdep 2 (by decide) 33 rfl
    simp only [go_sem, Int.reduceEq, Int.reduceLE, Int.reduceLT, Int.reduceToNat, evD_tmp, d, List.getD_cons_succ, List.getD_cons_zero]
    exact hK'
   | 7, _ =>
    cases hio
    have d := hdep 4 (by decide) 35 rfl
    simp only [go_sem, Int.reduceEq, Int.reduceLE, Int.reduceLT, Int.reduceToNat, evD_tmp, d, List.getD_cons_succ, List.getD_cons_zero]
    exact hK'
   | i + 8, hi => exact absurd hi (by omega)
  ·intro env' hlen hkeep hV
   have k4 : env'.getD 4 .any = .ref 0 0 := hkeep 4 (by simp)
   have k5 : env'.getD 5 .any = .i p := hV 6 5 rfl
   have k6 : env'.getD 6 .any = .i e := hV 7 6 rfl
   simp only [go_sem, Int.reduceEq, Int.reduceLE, Int.reduceLT, Int.reduceToNat, evD_tmp, k4, k5, k6]
   exact Fin.ret (.tupL ⟨cvZf, .v, .v, trivial⟩)
 subst he
 have hp0 := hpz rfl
 subst hp0
 have e0 : (((0 : Nat) : Int) != 0) = false := rfl
 have hA := rAllC c (by have := (hgood rfl).1; omega)
 have hal := c.all_len
 simp only [go_sem, Int.reduceEq, Int.reduceLE, Int.reduceLT, Int.reduceToNat, e0, tk3, Pd_len, Cf.c_take]
 refine hA.pd ⟨.same (Cf.d_bl _), trivial⟩ (.sl (Cf.cs_bl _)) ?_
 by_cases hz : 2000 < c.sz
 ·have hz' : (2000 : Int) < c.all.length := by omega
  rw [if_pos hz]
  simp only [go_sem, Int.reduceEq, Int.reduceLE, Int.reduceLT, Int.reduceToNat, cfs_len, List.length_map, hz']
  exact Fin.ret (.tupL ⟨cvZf, .v, .v, trivial⟩)
 ·have hz' : ¬ (2000 : Int) < c.all.length := by omega
  rw [if_neg hz]
  simp only [go_sem, Int.reduceEq, Int.reduceLE, Int.reduceLT, Int.reduceToNat, cfs_len, List.length_map, hz', tk3, Cf.c_take, Cf.c_len]
  exact Fin.ret (.tupL ⟨.same (Cf.d_bl _), .v, .v, trivial⟩)
theorem one_tx {g : Gr} {s : ByteArray} (hs : s.size ≤ 500) {r : Cf} {p : Nat} (h : oneC g s = (r, p, 0)) : fitsB g r = true ∧ oneC g ⟨(r.tx g.kinds (gNm g)).toArray⟩ = (r, 0, 0) := by
 obtain ⟨h1, h2, r', h3, h4, h5⟩ := one_ok (g := g) (s := s) (by rw [h])
 rw [h] at h5
 have hr : r = r' := congrArg (fun x => x.1) h5
 subst hr
 obtain ⟨hkz, hdz, hk1, hk2, hd1, hd2, hon, hsz⟩ := mayG_facts h1
 have hg := wholeP_good g.kinds (gNm g) s (by rw [h3])
 rw [h3] at hg
 dsimp only at hg
 have hN : ∀ x ∈ gNm g, x.size ≤ 30 := by
  intro x hx
  obtain ⟨y, hy, rfl⟩ := List.mem_map.1 hx
  exact (hdz y hy).1
 have hlen := tx_len30 hkz hN r hg.2
 have hok : NmOk g.kinds (gNm g) := nmOk_of hon
 have hz : (⟨(r.tx g.kinds (gNm g)).toArray⟩ : ByteArray).size = (r.tx g.kinds (gNm g)).length := ba_size _
 refine ⟨?_, ?_⟩
 ·unfold fitsB
  have h6 := hg.2
  rw [List.length_map] at h6
  rw [h1, h6, decide_eq_true h4]; rfl
 ·unfold oneC
  rw [if_neg (by rw [h1]; simp), if_neg (by omega), whole_tx hok hg.2]
  unfold oneW
  rw [if_neg (by dsimp only; omega)]
set_option maxHeartbeats 8000000 in
theorem cfxOnesL (g : Gr) (s : ByteArray) (hg : ∀ x ∈ g.defs, x.2.sz ≤ 1099511627776) : AP Tryz.prog 6 [.agg g.c, .s s] (.b true) := by
 refine AC.lbody hT hm Tryz.func6 f6_nm f6_lc f6_res f6_nt ?_
 simp only [go_sem, Int.reduceEq, Int.reduceLE, Int.reduceLT, Int.reduceToNat, gr_take, gr_c_len]
 refine (rGreat g).pv ⟨.same (Gr.d_bl g), trivial⟩ ?_
 cases hgr : greatB g with
 | true =>
  simp only [go_sem, Int.reduceEq, Int.reduceLE, Int.reduceLT, Int.reduceToNat]
  refine awake21.pv (by simp) ?_
  simp only [go_sem, Int.reduceEq, Int.reduceLE, Int.reduceLT, Int.reduceToNat]
  exact Fin.v rfl
 | false =>
 obtain ⟨hF, hk, hd, hkz, hdz, hsz⟩ := great_fit hgr hg
 by_cases hs : 500 < s.size
 ·have hs' : (500 : Int) < s.size := by omega
  simp only [go_sem, Int.reduceEq, Int.reduceLE, Int.reduceLT, Int.reduceToNat, hs']
  refine awake21.pv (by simp) ?_
  simp only [go_sem, Int.reduceEq, Int.reduceLE, Int.reduceLT, Int.reduceToNat]
  exact Fin.v rfl
 have hs' : ¬ (500 : Int) < s.size := by omega
 have hO := cOne g s hF
 have hR := rOne g s hF
 have hB := @one_tx g s (by omega)
 simp only [go_sem, Int.reduceEq, Int.reduceLE, Int.reduceLT, Int.reduceToNat, hs', gr_take, gr_c_len]
 refine hO.pd ⟨.same (Gr.d_bl g), .v, trivial⟩ (wcD_bl _) ?_
 simp only [go_sem, Int.reduceEq, Int.reduceLE, Int.reduceLT, Int.reduceToNat, Cf.c_take, Cf.c_len, Cf.put0, gr_take, gr_c_len]
 refine hR.pd ⟨.same (Gr.d_bl g), .v, trivial⟩ (wcD_bl _) ?_
 generalize oneC g s = w at hB
 obtain ⟨r, p, e⟩ := w
 have e1 : ((e : Int) != (e : Int)) = false := by simp
 have e2 : ((p : Int) != (p : Int)) = false := by simp
 have hSm := rSame r r
 rw [Cf.same_refl] at hSm
 simp only [go_sem, Int.reduceEq, Int.reduceLE, Int.reduceLT, Int.reduceToNat, e1, e2, Cf.c_take, Cf.c_len, Cf.put0, gr_take, gr_c_len]
 refine hSm.pv ⟨.same (Cf.d_bl _), .same (Cf.d_bl _), trivial⟩ ?_
 by_cases he : e = 0
 case neg =>
  have c0 : ((e : Int) != 0) = true := by simp; omega
  simp only [go_sem, Int.reduceEq, Int.reduceLE, Int.reduceLT, Int.reduceToNat, c0, Bool.not_true, Cf.c_take, Cf.c_len, Cf.put0]
  refine awake21.pv (by simp) ?_
  simp only [go_sem, Int.reduceEq, Int.reduceLE, Int.reduceLT, Int.reduceToNat]
  exact Fin.v rfl
 subst he
 obtain ⟨hfit, hone⟩ := hB rfl
 have c0 : (((0 : Nat) : Int) != 0) = false := rfl
 have c1 : (((0 : Nat) : Int) == 0) = true := rfl
 have hrs : r.sz ≤ 2000 := by
  unfold fitsB at hfit
  simp only [Bool.and_eq_true, decide_eq_true_eq] at hfit
  exact hfit.2.2
 have hT := cText g r hF (by omega)
 have htx : textC g r = r.tx g.kinds (gNm g) := by unfold textC; rw [if_pos hfit]
 rw [htx] at hT
 have hO2 := cOne g ⟨(r.tx g.kinds (gNm g)).toArray⟩ hF
 rw [hone] at hO2
 simp only [go_sem, Int.reduceEq, Int.reduceLE, Int.reduceLT, Int.reduceToNat, c0, c1, Bool.not_true, Cf.c_take, Cf.c_len, Cf.put0, gr_take, gr_c_len, ne_eq, reduceCtorEq, not_false_eq_true, implies_true]
 refine hT.qv ⟨.same (Gr.d_bl g), .same (Cf.d_bl r), trivial⟩ ?_
 simp only [go_sem, Int.reduceEq, Int.reduceLE, Int.reduceLT, Int.reduceToNat, c0, c1, Bool.not_true, Cf.c_take, Cf.c_len, Cf.put0, gr_take, gr_c_len, ne_eq, reduceCtorEq, not_false_eq_true, implies_true]
 refine hO2.qd ⟨.same (Gr.d_bl g), .v, trivial⟩ (wcD_bl _) ?_
 simp only [go_sem, Int.reduceEq, Int.reduceLE, Int.reduceLT, Int.reduceToNat, c0, c1, Bool.not_true, Cf.c_take, Cf.c_len, Cf.put0, gr_take, gr_c_len, ne_eq, reduceCtorEq, not_false_eq_true, implies_true]
 refine ⟨stFit_cf r, ?_⟩
 refine hSm.pv ⟨.same (Cf.d_bl _), .same (Cf.d_bl _), trivial⟩ ?_
 simp only [go_sem, Int.reduceEq, Int.reduceLE, Int.reduceLT, Int.reduceToNat]
 refine awake21.pv (by simp) ?_
 simp only [go_sem, Int.reduceEq, Int.reduceLE, Int.reduceLT, Int.reduceToNat]
 exact Fin.v rfl
end Go.Proofs.YtdliolbjngcgcaaGreat.W
