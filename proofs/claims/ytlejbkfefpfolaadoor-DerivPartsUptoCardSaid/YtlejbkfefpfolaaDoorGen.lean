/- Part of a program logic over data: rules of the walk, each proved. -/
import Derived.Test.YtlejbkfefpfolaaDoorChecked
import Derived.Test.YtlejbkfefpfolaaDoorAwpT
import Derived.KernelRfl
set_option linter.unusedVariables false
set_option linter.unusedSimpArgs false
set_option linter.unusedSectionVars false
set_option maxRecDepth 100000
namespace Go.Proofs.YtlejbkfefpfolaaDoor.W
open Go Go.Proofs Go.Proofs.YtlejbkfefpfolaaDoor.AWP
/-! ### types -/
def ti3 : TI := ⟨.int .i64, 1, 8, [.int .i64 0]⟩
def ti4 : TI := ⟨.bool, 1, 1, [.bool false]⟩
def ti5 : TI := ⟨.int .u8, 1, 1, [.int .u8 0]⟩
def ti9 : TI := ⟨.str, 1, 16, [.string .empty]⟩
def ti20 : TI := ⟨.other, 1, 16, [.nilIface]⟩
def ti22 : TI := ⟨.int .u64, 1, 8, [.int .u64 0]⟩
def ti24 : TI := ⟨.arr 4 22, 4, 32, [.int .u64 0, .int .u64 0, .int .u64 0, .int .u64 0]⟩
def ti25 : TI := ⟨.slice 27, 1, 24, [.slice none 0 0]⟩
def ti27 : TI := ⟨.struct [(0, 5), (1, 24), (5, 25)], 6, 64, [.int .u8 0, .int .u64 0, .int .u64 0, .int .u64 0, .int .u64 0, .slice none 0 0]⟩
def ti30 : TI := ⟨.other, 1, 8, [.nilFunc]⟩
def ti31 : TI := ⟨.int .i64, 1, 8, [.int .i64 0]⟩
def ti37 : TI := ⟨.slice 3, 1, 24, [.slice none 0 0]⟩
def ti47 : TI := ⟨.other, 1, 8, [.pointer none]⟩
def ti49 : TI := ⟨.struct [(0, 9), (1, 3)], 2, 24, [.string .empty, .int .i64 0]⟩
def ti52 : TI := ⟨.other, 1, 8, [.pointer none]⟩
def ti53 : TI := ⟨.other, 1, 8, [.pointer none]⟩
def ti54 : TI := ⟨.slice 5, 1, 24, [.slice none 0 0]⟩
def ti56 : TI := ⟨.struct [(0, 53), (1, 54)], 2, 32, [.pointer none, .slice none 0 0]⟩
def ti58 : TI := ⟨.struct [(0, 56)], 2, 32, [.pointer none, .slice none 0 0]⟩
def ti64 : TI := ⟨.slice 4, 1, 24, [.slice none 0 0]⟩
def ti69 : TI := ⟨.slice 9, 1, 24, [.slice none 0 0]⟩
def ti71 : TI := ⟨.other, 1, 8, [.nilFunc]⟩
def ti73 : TI := ⟨.struct [(0, 3)], 1, 8, [.int .i64 0]⟩
def ti83 : TI := ⟨.other, 1, 8, [.pointer none]⟩
def ti106 : TI := ⟨.other, 1, 8, [.pointer none]⟩
def ti111 : TI := ⟨.slice 24, 1, 24, [.slice none 0 0]⟩
def ti112 : TI := ⟨.other, 1, 8, [.nilFunc]⟩
def ti115 : TI := ⟨.other, 1, 8, [.nilFunc]⟩
def ti121 : TI := ⟨.arr 64 5, 64, 64, [.int .u8 0, .int .u8 0, .int .u8 0, .int .u8 0, .int .u8 0, .int .u8 0, .int .u8 0, .int .u8 0, .int .u8 0, .int .u8 0, .int .u8 0, .int .u8 0, .int .u8 0, .int .u8 0, .int .u8 0, .int .u8 0, .int .u8 0, .int .u8 0, .int .u8 0, .int .u8 0, .int .u8 0, .int .u8 0, .int .u8 0, .int .u8 0, .int .u8 0, .int .u8 0, .int .u8 0, .int .u8 0, .int .u8 0, .int .u8 0, .int .u8 0, .int .u8 0, .int .u8 0, .int .u8 0, .int .u8 0, .int .u8 0, .int .u8 0, .int .u8 0, .int .u8 0, .int .u8 0, .int .u8 0, .int .u8 0, .int .u8 0, .int .u8 0, .int .u8 0, .int .u8 0, .int .u8 0, .int .u8 0, .int .u8 0, .int .u8 0, .int .u8 0, .int .u8 0, .int .u8 0, .int .u8 0, .int .u8 0, .int .u8 0, .int .u8 0, .int .u8 0, .int .u8 0, .int .u8 0, .int .u8 0, .int .u8 0, .int .u8 0, .int .u8 0]⟩
def ti122 : TI := ⟨.int .u64, 1, 8, [.int .u64 0]⟩
def ti136 : TI := ⟨.slice 22, 1, 24, [.slice none 0 0]⟩
def ti137 : TI := ⟨.other, 1, 8, [.nilFunc]⟩
def tab : List (Nat × TI) := [(3, ti3), (4, ti4), (5, ti5), (9, ti9), (20, ti20), (22, ti22), (24, ti24), (25, ti25), (27, ti27), (30, ti30), (31, ti31), (37, ti37), (47, ti47), (49, ti49), (52, ti52), (53, ti53), (54, ti54), (56, ti56), (58, ti58), (64, ti64), (69, ti69), (71, ti71), (73, ti73), (83, ti83), (106, ti106), (111, ti111), (112, ti112), (115, ti115), (121, ti121), (122, ti122), (136, ti136), (137, ti137)]
def T : Tab := fun t => (tab.find? fun p => p.1 == t).map (·.2)
theorem T3 : T 3 = some ti3 := rfl
theorem T4 : T 4 = some ti4 := rfl
theorem T5 : T 5 = some ti5 := rfl
theorem T9 : T 9 = some ti9 := rfl
theorem T20 : T 20 = some ti20 := rfl
theorem T22 : T 22 = some ti22 := rfl
theorem T24 : T 24 = some ti24 := rfl
theorem T25 : T 25 = some ti25 := rfl
theorem T27 : T 27 = some ti27 := rfl
theorem T30 : T 30 = some ti30 := rfl
theorem T31 : T 31 = some ti31 := rfl
theorem T37 : T 37 = some ti37 := rfl
theorem T47 : T 47 = some ti47 := rfl
theorem T49 : T 49 = some ti49 := rfl
theorem T52 : T 52 = some ti52 := rfl
theorem T53 : T 53 = some ti53 := rfl
theorem T54 : T 54 = some ti54 := rfl
theorem T56 : T 56 = some ti56 := rfl
theorem T58 : T 58 = some ti58 := rfl
theorem T64 : T 64 = some ti64 := rfl
theorem T69 : T 69 = some ti69 := rfl
theorem T71 : T 71 = some ti71 := rfl
theorem T73 : T 73 = some ti73 := rfl
theorem T83 : T 83 = some ti83 := rfl
theorem T106 : T 106 = some ti106 := rfl
theorem T111 : T 111 = some ti111 := rfl
theorem T112 : T 112 = some ti112 := rfl
theorem T115 : T 115 = some ti115 := rfl
theorem T121 : T 121 = some ti121 := rfl
theorem T122 : T 122 = some ti122 := rfl
theorem T136 : T 136 = some ti136 := rfl
theorem T137 : T 137 = some ti137 := rfl
theorem tab_ok : tabB Tryd.prog tab = true := by kernel_rfl
theorem hT : TabOk Tryd.prog T := by
  intro t i h
  unfold T at h
  simp only [Option.map_eq_some_iff] at h
  obtain ⟨p, hp, rfl⟩ := h
  have h1 := List.find?_some hp
  have h2 := List.mem_of_find?_eq_some hp
  simp only [beq_iff_eq] at h1
  obtain ⟨t', i'⟩ := p
  subst h1
  exact tabB_ok tab_ok t' i' h2
theorem hm : Tryd.prog.follows .mixedOrders = true := by kernel_rfl
/-! quill/quillref03.Great -/
def f6_r0 : List LOp := [
⟨some 2, .box 27 (.tmp 0), none⟩,
⟨some 4, .assign (.const (.bool false)), none⟩]
def f6_r1 : List LOp := [
⟨some 5, .load 27 (.tmp 2), none⟩,
⟨some 6, .move (.tmp 1), none⟩,
⟨some 7, .call ⟨.value (.func 19), #[.tmp 5, .tmp 6], #[27, 3]⟩, none⟩,
⟨some 8, .move (.tmp 1), none⟩,
⟨some 9, .binOp .gtr 3 (.tmp 7) (.tmp 8) 3, none⟩,
⟨some 4, .assign (.tmp 9), none⟩]
def f6_c : LC := (.seq (.reg f6_r0 [] none) (.seq (.reg f6_r1 [] none) .ret))
theorem f6_lc : Tryd.f6.body.map lc = some f6_c.st := by kernel_rfl
theorem f6_res : Tryd.f6.results.toList = [.tmp 4] := by kernel_rfl
theorem f6_nt : Tryd.f6.ntmps = 10 := by kernel_rfl
theorem f6_nm : (Tryd.f6.name == "runtime.NumGoroutine") = false := by kernel_rfl
/-! quill/quillref03.May -/
/-! quill/read.Read -/
def f9_r0 : List LOp := [
⟨some 2, .alloc 27, none⟩,
⟨some 3, .assign (.const (.int .i64 0)), none⟩,
⟨some 4, .assign (.const (.int .i64 0)), none⟩]
def f9_r1 : List LOp := [
⟨some 8, .move (.tmp 0), none⟩,
⟨some 9, .call ⟨.builtin .len, #[.tmp 8], #[9]⟩, none⟩,
⟨some 10, .binOp .gtr 3 (.tmp 9) (.const (.int .i64 65536)) 3, none⟩]
def f9_r2 : List LOp := [
⟨some 11, .build 27 #[], none⟩,
⟨none, .store 27 (.tmp 2) (.tmp 11), none⟩,
⟨some 3, .assign (.const (.int .i64 0)), none⟩,
⟨some 4, .assign (.const (.int .i64 3)), none⟩]
def f9_r3 : List LOp := [
⟨some 13, .move (.tmp 0), none⟩,
⟨some 14, .build 49 #[(0, .tmp 13)], none⟩,
⟨some 15, .box 49 (.tmp 14), none⟩,
⟨some 16, .call ⟨.value (.func 22), #[.tmp 15], #[47]⟩, none⟩,
⟨some 12, .move (.tmp 16), none⟩,
⟨some 17, .extract (.tmp 12) 0, none⟩,
⟨some 18, .extract (.tmp 12) 1, none⟩,
⟨some 19, .extract (.tmp 12) 2, none⟩,
⟨some 5, .alloc 27, none⟩,
⟨none, .store 27 (.tmp 5) (.tmp 17), none⟩,
⟨some 6, .assign (.tmp 18), none⟩,
⟨some 7, .assign (.tmp 19), none⟩]
def f9_r4 : List LOp := [
⟨some 20, .move (.tmp 7), none⟩,
⟨some 21, .binOp .eql 31 (.tmp 20) (.const (.int .i64 0)) 31, none⟩,
⟨some 22, .move (.tmp 21), none⟩,
⟨some 23, .load 27 (.tmp 5), some (2, true)⟩,
⟨some 24, .buildSlice 25 1 #[(0, .tmp 23)], some (2, true)⟩,
⟨some 25, .call ⟨.value (.func 23), #[.tmp 24], #[25]⟩, some (2, true)⟩,
⟨some 26, .unOp .not 4 (.tmp 25), some (2, true)⟩,
⟨some 27, .pick (.tmp 22) (.tmp 26) (.const (.bool false)), none⟩]
def f9_r5 : List LOp := [
⟨some 28, .build 27 #[], none⟩,
⟨none, .store 27 (.tmp 2) (.tmp 28), none⟩,
⟨some 3, .assign (.const (.int .i64 0)), none⟩,
⟨some 4, .assign (.const (.int .i64 4)), none⟩]
def f9_r6 : List LOp := [
⟨some 29, .load 27 (.tmp 5), none⟩,
⟨some 30, .move (.tmp 6), none⟩,
⟨some 31, .move (.tmp 7), none⟩,
⟨none, .store 27 (.tmp 2) (.tmp 29), none⟩,
⟨some 3, .assign (.tmp 30), none⟩,
⟨some 4, .assign (.tmp 31), none⟩]
def f9_c : LC := (.seq (.reg f9_r0 [] none) (.seq (.seq (.reg f9_r1 [] none) (.cond (.tmp 10) (.seq (.reg f9_r2 [] none) .ret) .skip)) (.seq (.reg f9_r3 [2] none) (.seq (.seq (.reg f9_r4 [] none) (.cond (.tmp 27) (.seq (.reg f9_r5 [] none) .ret) .skip)) (.seq (.reg f9_r6 [] none) .ret)))))
theorem f9_lc : Tryd.f9.body.map lc = some f9_c.st := by kernel_rfl
theorem f9_res : Tryd.f9.results.toList = [.cell 2 27, .tmp 3, .tmp 4] := by kernel_rfl
theorem f9_nt : Tryd.f9.ntmps = 32 := by kernel_rfl
theorem f9_nm : (Tryd.f9.name == "runtime.NumGoroutine") = false := by kernel_rfl
/-! quill/show.Text -/
def f10_r0 : List LOp := [
⟨some 1, .box 27 (.tmp 0), none⟩,
⟨some 2, .assign (.const (.string { data := #[] })), none⟩]
def f10_r1 : List LOp := [
⟨some 4, .load 27 (.tmp 1), none⟩,
⟨some 5, .buildSlice 25 1 #[(0, .tmp 4)], none⟩,
⟨some 6, .call ⟨.value (.func 23), #[.tmp 5], #[25]⟩, none⟩,
⟨some 7, .unOp .not 4 (.tmp 6), none⟩]
def f10_r2 : List LOp := [
⟨some 2, .assign (.const (.string { data := #[] })), none⟩]
def f10_r3 : List LOp := [
⟨some 8, .build 58 #[], none⟩,
⟨some 9, .box 58 (.tmp 8), none⟩,
⟨some 3, .assign (.tmp 9), none⟩]
def f10_r4 : List LOp := [
⟨some 10, .move (.tmp 3), none⟩,
⟨some 11, .load 27 (.tmp 1), none⟩,
⟨some 12, .call ⟨.value (.func 24), #[.tmp 10, .tmp 11, .const (.slice none 0 0)], #[52, 27, 54]⟩, none⟩]
def f10_r5 : List LOp := [
⟨some 13, .move (.tmp 3), none⟩,
⟨some 14, .nilCheck (.tmp 13), none⟩,
⟨some 15, .fieldAddr 58 (.tmp 14) 0, none⟩,
⟨some 16, .call ⟨.value (.func 25), #[.tmp 15], #[56]⟩, none⟩,
⟨some 2, .assign (.tmp 16), none⟩]
def f10_c : LC := (.seq (.reg f10_r0 [] none) (.seq (.seq (.reg f10_r1 [] none) (.cond (.tmp 7) (.seq (.reg f10_r2 [] none) .ret) .skip)) (.seq (.reg f10_r3 [1] none) (.seq (.reg f10_r4 [] none) (.seq (.reg f10_r5 [] none) .ret)))))
theorem f10_lc : Tryd.f10.body.map lc = some f10_c.st := by kernel_rfl
theorem f10_res : Tryd.f10.results.toList = [.tmp 2] := by kernel_rfl
theorem f10_nt : Tryd.f10.ntmps = 17 := by kernel_rfl
theorem f10_nm : (Tryd.f10.name == "runtime.NumGoroutine") = false := by kernel_rfl
/-! quill/quillref05.Of -/
/-! quill/quillref03.count -/
def f19_r0 : List LOp := [
⟨some 2, .box 27 (.tmp 0), none⟩,
⟨some 4, .assign (.const (.int .i64 0)), none⟩]
def f19_r1 : List LOp := [
⟨some 5, .assign (.const (.int .i64 1)), none⟩]
def f19_r2 : List LOp := [
⟨some 7, .fieldAddr 27 (.tmp 2) 2, none⟩,
⟨some 8, .load 25 (.tmp 7), none⟩,
⟨some 9, .call ⟨.builtin .len, #[.tmp 8], #[25]⟩, none⟩,
⟨some 10, .move (.const (.int .i64 0)), none⟩]
def f19_r3 : List LOp := [
⟨some 11, .binOp .lss 3 (.tmp 10) (.tmp 9) 3, none⟩]
def f19_r4 : List LOp := [
⟨some 12, .move (.tmp 10), none⟩,
⟨some 6, .assign (.tmp 12), none⟩]
def f19_r5 : List LOp := [
⟨some 13, .move (.tmp 5), none⟩,
⟨some 14, .move (.tmp 1), none⟩,
⟨some 15, .binOp .gtr 3 (.tmp 13) (.tmp 14) 3, none⟩]
def f19_r6 : List LOp := [
⟨some 16, .move (.tmp 5), none⟩,
⟨some 4, .assign (.tmp 16), none⟩]
def f19_r7 : List LOp := [
⟨some 17, .move (.tmp 5), none⟩,
⟨some 18, .fieldAddr 27 (.tmp 2) 2, none⟩,
⟨some 19, .load 25 (.tmp 18), none⟩,
⟨some 20, .move (.tmp 6), none⟩,
⟨some 21, .indexAddr 25 (.tmp 19) (.tmp 20), none⟩,
⟨some 22, .load 27 (.tmp 21), none⟩,
⟨some 23, .move (.tmp 1), none⟩,
⟨some 24, .call ⟨.value (.func 19), #[.tmp 22, .tmp 23], #[27, 3]⟩, none⟩,
⟨some 25, .binOp .add 3 (.tmp 17) (.tmp 24) 3, none⟩,
⟨some 5, .assign (.tmp 25), none⟩]
def f19_r8 : List LOp := [
⟨some 26, .binOp .add 3 (.tmp 10) (.const (.int .i64 1)) 3, none⟩,
⟨some 10, .move (.tmp 26), none⟩]
def f19_l9 : LC := (.seq (.reg f19_r3 [] none) (.seq (.cond (.tmp 11) .skip (.exit 0)) (.seq (.block 1 (.seq (.reg f19_r4 [] none) (.seq (.seq (.reg f19_r5 [] none) (.cond (.tmp 15) (.seq (.reg f19_r6 [] none) .ret) .skip)) (.reg f19_r7 [] none)))) (.reg f19_r8 [] none))))
def f19_i9 (t1 t2 t5 t9 t10 : D) : List D := [.any, t1, t2, .any, .any, t5, .any, .any, .any, t9, t10, .any, .any, .any, .any, .any, .any, .any, .any, .any, .any, .any, .any, .any, .any, .any, .any, .any]
def f19_r10 : List LOp := [
⟨some 27, .move (.tmp 5), none⟩,
⟨some 4, .assign (.tmp 27), none⟩]
def f19_c : LC := (.seq (.reg f19_r0 [] none) (.seq (.reg f19_r1 [] none) (.seq (.seq (.reg f19_r2 [] none) (.block 0 (.loop f19_l9))) (.seq (.reg f19_r10 [] none) .ret))))
theorem f19_lc : Tryd.f19.body.map lc = some f19_c.st := by kernel_rfl
theorem f19_res : Tryd.f19.results.toList = [.tmp 4] := by kernel_rfl
theorem f19_nt : Tryd.f19.ntmps = 28 := by kernel_rfl
theorem f19_nm : (Tryd.f19.name == "runtime.NumGoroutine") = false := by kernel_rfl
/-! quill/quillref03.All -/
/-! (*quill/read.reader).whole -/
def f22_r0 : List LOp := [
⟨some 2, .alloc 27, none⟩,
⟨some 3, .alloc 3, none⟩,
⟨some 4, .alloc 31, none⟩]
def f22_r1 : List LOp := [
⟨some 5, .makeFunc (.func 34) #[] #[.tmp 2, .tmp 3, .tmp 4], none⟩,
⟨none, .defer ⟨.value (.tmp 5), #[], #[]⟩, none⟩]
def f22_r2 : List LOp := [
⟨some 6, .move (.tmp 0), none⟩,
⟨some 7, .call ⟨.value (.func 35), #[.tmp 6], #[47]⟩, none⟩,
⟨none, .store 27 (.tmp 2) (.tmp 7), none⟩]
def f22_r3 : List LOp := [
⟨some 8, .move (.tmp 0), none⟩,
⟨some 9, .nilCheck (.tmp 8), none⟩,
⟨some 10, .fieldAddr 49 (.tmp 9) 1, none⟩,
⟨some 11, .load 3 (.tmp 10), none⟩,
⟨some 12, .move (.tmp 0), none⟩,
⟨some 13, .nilCheck (.tmp 12), none⟩,
⟨some 14, .fieldAddr 49 (.tmp 13) 0, none⟩,
⟨some 15, .load 9 (.tmp 14), none⟩,
⟨some 16, .call ⟨.builtin .len, #[.tmp 15], #[9]⟩, none⟩,
⟨some 17, .binOp .lss 3 (.tmp 11) (.tmp 16) 3, none⟩]
def f22_r4 : List LOp := [
⟨some 18, .move (.tmp 0), none⟩,
⟨some 19, .nilCheck (.tmp 18), none⟩,
⟨some 20, .fieldAddr 49 (.tmp 19) 1, none⟩,
⟨some 21, .load 3 (.tmp 20), none⟩,
⟨some 22, .build 73 #[(0, .tmp 21)], none⟩,
⟨some 23, .makeInterface 73 (.tmp 22), none⟩,
⟨none, .panic (.tmp 23), none⟩]
def f22_r5 : List LOp := [
⟨some 24, .load 27 (.tmp 2), none⟩,
⟨none, .store 27 (.tmp 2) (.tmp 24), none⟩,
⟨none, .store 3 (.tmp 3) (.const (.int .i64 0)), none⟩,
⟨none, .store 31 (.tmp 4) (.const (.int .i64 0)), none⟩]
def f22_c : LC := (.seq (.reg f22_r0 [] none) (.seq (.reg f22_r1 [] none) (.seq (.reg f22_r2 [] none) (.seq (.seq (.reg f22_r3 [] (some 9)) (.cond (.tmp 17) (.reg f22_r4 [] none) .skip)) (.seq (.reg f22_r5 [] none) .ret)))))
theorem f22_lc : Tryd.f22.body.map lc = some f22_c.st := by kernel_rfl
theorem f22_res : Tryd.f22.results.toList = [.cell 2 27, .cell 3 3, .cell 4 31] := by kernel_rfl
theorem f22_nt : Tryd.f22.ntmps = 25 := by kernel_rfl
theorem f22_nm : (Tryd.f22.name == "runtime.NumGoroutine") = false := by kernel_rfl
/-! quill/rex.May -/
def f23_r0 : List LOp := [
⟨some 2, .assign (.const (.bool false)), none⟩]
def f23_r1 : List LOp := [
⟨some 3, .move (.tmp 0), none⟩,
⟨some 4, .call ⟨.value (.func 36), #[.tmp 3, .func 37], #[25, 30]⟩, none⟩,
⟨some 5, .unOp .not 4 (.tmp 4), none⟩,
⟨some 2, .assign (.tmp 5), none⟩]
def f23_c : LC := (.seq (.reg f23_r0 [] none) (.seq (.reg f23_r1 [] none) .ret))
theorem f23_lc : Tryd.f23.body.map lc = some f23_c.st := by kernel_rfl
theorem f23_res : Tryd.f23.results.toList = [.tmp 2] := by kernel_rfl
theorem f23_nt : Tryd.f23.ntmps = 6 := by kernel_rfl
theorem f23_nm : (Tryd.f23.name == "runtime.NumGoroutine") = false := by kernel_rfl
/-! (*quill/show.page).put -/
def f24_r0 : List LOp := [
⟨some 4, .box 27 (.tmp 1), none⟩]
def f24_r1 : List LOp := [
⟨some 7, .move (.tmp 2), none⟩,
⟨some 8, .fieldAddr 27 (.tmp 4) 0, none⟩,
⟨some 9, .load 5 (.tmp 8), none⟩,
⟨some 10, .call ⟨.value (.func 40), #[.tmp 7, .tmp 9], #[54, 5]⟩, none⟩,
⟨some 6, .assign (.tmp 10), none⟩]
def f24_r2 : List LOp := [
⟨some 11, .move (.tmp 6), none⟩]
def f24_r3 : List LOp := [
⟨some 12, .move (.tmp 0), none⟩,
⟨some 13, .nilCheck (.tmp 12), none⟩,
⟨some 14, .fieldAddr 58 (.tmp 13) 0, none⟩,
⟨some 15, .call ⟨.value (.func 41), #[.tmp 14, .const (.int .u8 40)], #[56, 5]⟩, none⟩]
def f24_r4 : List LOp := [
⟨some 16, .fieldAddr 27 (.tmp 4) 0, none⟩,
⟨some 17, .load 5 (.tmp 16), none⟩]
def f24_r5 : List LOp := [
⟨some 19, .binOp .eql 5 (.tmp 17) (.const (.int .u8 1)) 5, none⟩,
⟨some 18, .assign (.tmp 19), none⟩]
def f24_r6 : List LOp := [
⟨some 20, .move (.tmp 0), none⟩,
⟨some 21, .nilCheck (.tmp 20), none⟩,
⟨some 22, .fieldAddr 58 (.tmp 21) 0, none⟩,
⟨some 23, .call ⟨.value (.func 42), #[.tmp 22, .const (.string { data := #[91, 93] })], #[56, 9]⟩, none⟩]
def f24_r7 : List LOp := [
⟨some 25, .binOp .eql 5 (.tmp 17) (.const (.int .u8 2)) 5, none⟩,
⟨some 24, .assign (.tmp 25), none⟩]
def f24_r8 : List LOp := [
⟨some 26, .move (.tmp 0), none⟩,
⟨some 27, .nilCheck (.tmp 26), none⟩,
⟨some 28, .fieldAddr 58 (.tmp 27) 0, none⟩,
⟨some 29, .call ⟨.value (.func 42), #[.tmp 28, .const (.string { data := #[40, 41] })], #[56, 9]⟩, none⟩]
def f24_r9 : List LOp := [
⟨some 31, .binOp .eql 5 (.tmp 17) (.const (.int .u8 3)) 5, none⟩,
⟨some 30, .assign (.tmp 31), none⟩]
def f24_r10 : List LOp := [
⟨some 32, .move (.tmp 0), none⟩,
⟨some 33, .nilCheck (.tmp 32), none⟩,
⟨some 34, .fieldAddr 58 (.tmp 33) 0, none⟩,
⟨some 35, .fieldAddr 27 (.tmp 4) 1, none⟩,
⟨some 36, .load 24 (.tmp 35), none⟩,
⟨some 37, .call ⟨.value (.func 43), #[.tmp 36], #[24]⟩, none⟩,
⟨some 38, .call ⟨.value (.func 42), #[.tmp 34, .tmp 37], #[56, 9]⟩, none⟩]
def f24_r11 : List LOp := [
⟨some 40, .binOp .eql 5 (.tmp 17) (.const (.int .u8 4)) 5, none⟩,
⟨some 39, .assign (.tmp 40), none⟩]
def f24_r12 : List LOp := [
⟨some 41, .move (.tmp 0), none⟩,
⟨some 42, .fieldAddr 27 (.tmp 4) 2, none⟩,
⟨some 43, .load 25 (.tmp 42), none⟩,
⟨some 44, .indexAddr 25 (.tmp 43) (.const (.int .i64 0)), none⟩,
⟨some 45, .load 27 (.tmp 44), none⟩,
⟨some 46, .buildSlice 54 2 #[(0, .const (.int .u8 4)), (1, .const (.int .u8 5))], none⟩,
⟨some 47, .call ⟨.value (.func 24), #[.tmp 41, .tmp 45, .tmp 46], #[52, 27, 54]⟩, none⟩]
def f24_r13 : List LOp := [
⟨some 48, .move (.tmp 0), none⟩,
⟨some 49, .fieldAddr 27 (.tmp 4) 2, none⟩,
⟨some 50, .load 25 (.tmp 49), none⟩,
⟨some 51, .indexAddr 25 (.tmp 50) (.const (.int .i64 1)), none⟩,
⟨some 52, .load 27 (.tmp 51), none⟩,
⟨some 53, .buildSlice 54 1 #[(0, .const (.int .u8 5))], none⟩,
⟨some 54, .call ⟨.value (.func 24), #[.tmp 48, .tmp 52, .tmp 53], #[52, 27, 54]⟩, none⟩]
def f24_r14 : List LOp := [
⟨some 56, .binOp .eql 5 (.tmp 17) (.const (.int .u8 5)) 5, none⟩,
⟨some 55, .assign (.tmp 56), none⟩]
def f24_r15 : List LOp := [
⟨some 57, .move (.tmp 0), none⟩,
⟨some 58, .fieldAddr 27 (.tmp 4) 2, none⟩,
⟨some 59, .load 25 (.tmp 58), none⟩,
⟨some 60, .indexAddr 25 (.tmp 59) (.const (.int .i64 0)), none⟩,
⟨some 61, .load 27 (.tmp 60), none⟩,
⟨some 62, .buildSlice 54 1 #[(0, .const (.int .u8 5))], none⟩,
⟨some 63, .call ⟨.value (.func 24), #[.tmp 57, .tmp 61, .tmp 62], #[52, 27, 54]⟩, none⟩]
def f24_r16 : List LOp := [
⟨some 64, .move (.tmp 0), none⟩,
⟨some 65, .nilCheck (.tmp 64), none⟩,
⟨some 66, .fieldAddr 58 (.tmp 65) 0, none⟩,
⟨some 67, .call ⟨.value (.func 41), #[.tmp 66, .const (.int .u8 124)], #[56, 5]⟩, none⟩]
def f24_r17 : List LOp := [
⟨some 68, .move (.tmp 0), none⟩,
⟨some 69, .fieldAddr 27 (.tmp 4) 2, none⟩,
⟨some 70, .load 25 (.tmp 69), none⟩,
⟨some 71, .indexAddr 25 (.tmp 70) (.const (.int .i64 1)), none⟩,
⟨some 72, .load 27 (.tmp 71), none⟩,
⟨some 73, .call ⟨.value (.func 24), #[.tmp 68, .tmp 72, .const (.slice none 0 0)], #[52, 27, 54]⟩, none⟩]
def f24_r18 : List LOp := [
⟨some 75, .binOp .eql 5 (.tmp 17) (.const (.int .u8 6)) 5, none⟩,
⟨some 74, .assign (.tmp 75), none⟩]
def f24_r19 : List LOp := [
⟨some 76, .move (.tmp 0), none⟩,
⟨some 77, .fieldAddr 27 (.tmp 4) 2, none⟩,
⟨some 78, .load 25 (.tmp 77), none⟩,
⟨some 79, .indexAddr 25 (.tmp 78) (.const (.int .i64 0)), none⟩,
⟨some 80, .load 27 (.tmp 79), none⟩,
⟨some 81, .buildSlice 54 2 #[(0, .const (.int .u8 4)), (1, .const (.int .u8 5))], none⟩,
⟨some 82, .call ⟨.value (.func 24), #[.tmp 76, .tmp 80, .tmp 81], #[52, 27, 54]⟩, none⟩]
def f24_r20 : List LOp := [
⟨some 83, .move (.tmp 0), none⟩,
⟨some 84, .nilCheck (.tmp 83), none⟩,
⟨some 85, .fieldAddr 58 (.tmp 84) 0, none⟩,
⟨some 86, .call ⟨.value (.func 41), #[.tmp 85, .const (.int .u8 42)], #[56, 5]⟩, none⟩]
def f24_r21 : List LOp := [
⟨some 87, .move (.tmp 6), none⟩]
def f24_r22 : List LOp := [
⟨some 88, .move (.tmp 0), none⟩,
⟨some 89, .nilCheck (.tmp 88), none⟩,
⟨some 90, .fieldAddr 58 (.tmp 89) 0, none⟩,
⟨some 91, .call ⟨.value (.func 41), #[.tmp 90, .const (.int .u8 41)], #[56, 5]⟩, none⟩]
def f24_c : LC := (.seq (.reg f24_r0 [] none) (.seq (.reg f24_r1 [] none) (.seq (.seq (.reg f24_r2 [] none) (.cond (.tmp 11) (.reg f24_r3 [] none) .skip)) (.seq (.seq (.reg f24_r4 [] none) (.block 0 (.seq (.reg f24_r5 [] none) (.cond (.tmp 18) (.reg f24_r6 [] none) (.seq (.reg f24_r7 [] none) (.cond (.tmp 24) (.reg f24_r8 [] none) (.seq (.reg f24_r9 [] none) (.cond (.tmp 30) (.reg f24_r10 [] (some 6)) (.seq (.reg f24_r11 [] none) (.cond (.tmp 39) (.seq (.reg f24_r12 [] none) (.reg f24_r13 [] none)) (.seq (.reg f24_r14 [] none) (.cond (.tmp 55) (.seq (.reg f24_r15 [] none) (.seq (.reg f24_r16 [] none) (.reg f24_r17 [] none))) (.seq (.reg f24_r18 [] none) (.cond (.tmp 74) (.seq (.reg f24_r19 [] none) (.reg f24_r20 [] none)) .skip)))))))))))))) (.seq (.reg f24_r21 [] none) (.cond (.tmp 87) (.reg f24_r22 [] none) .skip))))))
theorem f24_lc : Tryd.f24.body.map lc = some f24_c.st := by kernel_rfl
theorem f24_res : Tryd.f24.results.toList = [] := by kernel_rfl
theorem f24_nt : Tryd.f24.ntmps = 92 := by kernel_rfl
theorem f24_nm : (Tryd.f24.name == "runtime.NumGoroutine") = false := by kernel_rfl
/-! (*strings.Builder).String -/
/-! quill/quillref02.Text -/
/-! quill/quillref05.round -/
/-! (*quill/read.reader).whole$1 -/
def f34_r0 : List LOp := [
⟨some 6, .call ⟨.builtin .recover, #[], #[]⟩, none⟩]
def f34_r1 : List LOp := [
⟨some 8, .binOp .eql 20 (.tmp 6) (.const .nilIface) 20, none⟩]
def f34_r2 : List LOp := [
⟨some 3, .assign (.tmp 6), none⟩]
def f34_r3 : List LOp := [
⟨some 9, .typeAssert (.tmp 6) 20 73 true, none⟩,
⟨some 10, .extract (.tmp 9) 1, none⟩,
⟨some 11, .extract (.tmp 9) 0, none⟩]
def f34_r4 : List LOp := [
⟨some 4, .alloc 73, none⟩,
⟨none, .store 73 (.tmp 4) (.tmp 11), none⟩]
def f34_r5 : List LOp := [
⟨some 12, .build 27 #[], none⟩,
⟨some 13, .fieldAddr 73 (.tmp 4) 0, none⟩,
⟨some 14, .load 3 (.tmp 13), none⟩,
⟨none, .store 27 (.tmp 0) (.tmp 12), none⟩,
⟨none, .store 3 (.tmp 1) (.tmp 14), none⟩,
⟨none, .store 31 (.tmp 2) (.const (.int .i64 2)), none⟩]
def f34_r6 : List LOp := [
⟨some 5, .assign (.tmp 6), none⟩]
def f34_r7 : List LOp := [
⟨some 7, .move (.tmp 5), none⟩,
⟨none, .panic (.tmp 7), none⟩]
def f34_c : LC := (.seq (.reg f34_r0 [] none) (.block 0 (.seq (.reg f34_r1 [] none) (.cond (.tmp 8) (.reg f34_r2 [] none) (.seq (.reg f34_r3 [] none) (.cond (.tmp 10) (.seq (.reg f34_r4 [] none) (.regq f34_r5 [] 0 (.both (.op 0 (.both (.op 1 (.both (.op 2 (.op 3 (.op 4 (.op 5 .done)))) (.op 3 (.op 2 (.op 4 (.op 5 .done)))))) (.op 3 (.op 1 (.op 2 (.op 4 (.op 5 .done))))))) (.op 1 (.both (.op 0 (.both (.op 2 (.op 3 (.op 4 (.op 5 .done)))) (.op 3 (.op 2 (.op 4 (.op 5 .done)))))) (.op 2 (.op 0 (.op 3 (.op 4 (.op 5 .done)))))))))) (.seq (.reg f34_r6 [] none) (.reg f34_r7 [] none))))))))
theorem f34_lc : Tryd.f34.body.map lc = some f34_c.st := by kernel_rfl
theorem f34_res : Tryd.f34.results.toList = [] := by kernel_rfl
theorem f34_nt : Tryd.f34.ntmps = 15 := by kernel_rfl
theorem f34_nm : (Tryd.f34.name == "runtime.NumGoroutine") = false := by kernel_rfl
/-! (*quill/read.reader).alt -/
def f35_r0 : List LOp := [
⟨some 2, .alloc 27, none⟩]
def f35_r1 : List LOp := [
⟨some 4, .move (.tmp 0), none⟩,
⟨some 5, .call ⟨.value (.func 54), #[.tmp 4], #[47]⟩, none⟩,
⟨some 6, .buildSlice 25 1 #[(0, .tmp 5)], none⟩,
⟨some 3, .assign (.tmp 6), none⟩]
def f35_r2 : List LOp := [
⟨some 7, .move (.tmp 0), none⟩,
⟨some 8, .call ⟨.value (.func 55), #[.tmp 7, .const (.string { data := #[124] })], #[47, 9]⟩, none⟩]
def f35_r3 : List LOp := [
⟨some 9, .move (.tmp 0), none⟩,
⟨some 10, .nilCheck (.tmp 9), none⟩,
⟨some 11, .fieldAddr 49 (.tmp 10) 1, none⟩,
⟨some 12, .load 3 (.tmp 11), none⟩,
⟨some 13, .binOp .add 3 (.tmp 12) (.const (.int .i64 1)) 3, none⟩,
⟨some 14, .nilCheck (.tmp 9), none⟩,
⟨some 15, .fieldAddr 49 (.tmp 14) 1, none⟩,
⟨none, .store 3 (.tmp 15) (.tmp 13), none⟩]
def f35_r4 : List LOp := [
⟨some 16, .move (.tmp 3), none⟩,
⟨some 17, .move (.tmp 0), none⟩,
⟨some 18, .call ⟨.value (.func 54), #[.tmp 17], #[47]⟩, none⟩,
⟨some 19, .buildSlice 25 1 #[(0, .tmp 18)], none⟩,
⟨some 20, .call ⟨.builtin .append, #[.tmp 16, .tmp 19], #[25, 25]⟩, none⟩,
⟨some 3, .assign (.tmp 20), none⟩]
def f35_l5 : LC := (.seq (.seq (.reg f35_r2 [] none) (.cond (.tmp 8) .skip (.exit 0))) (.block 1 (.seq (.reg f35_r3 [] none) (.reg f35_r4 [] none))))
def f35_i5 (t0 t2 t3 : D) : List D := [t0, .any, t2, t3, .any, .any, .any, .any, .any, .any, .any, .any, .any, .any, .any, .any, .any, .any, .any, .any, .any, .any, .any]
def f35_r6 : List LOp := [
⟨some 21, .move (.tmp 3), none⟩,
⟨some 22, .call ⟨.value (.func 56), #[.tmp 21], #[25]⟩, none⟩,
⟨none, .store 27 (.tmp 2) (.tmp 22), none⟩]
def f35_c : LC := (.seq (.reg f35_r0 [] none) (.seq (.reg f35_r1 [2] none) (.seq (.block 0 (.loop f35_l5)) (.seq (.reg f35_r6 [] none) .ret))))
theorem f35_lc : Tryd.f35.body.map lc = some f35_c.st := by kernel_rfl
theorem f35_res : Tryd.f35.results.toList = [.cell 2 27] := by kernel_rfl
theorem f35_nt : Tryd.f35.ntmps = 23 := by kernel_rfl
theorem f35_nm : (Tryd.f35.name == "runtime.NumGoroutine") = false := by kernel_rfl
/-! slices.ContainsFunc[[]quill/api.Re,quill/api.Re] -/
def f36_r0 : List LOp := [
⟨some 4, .assign (.const (.bool false)), none⟩]
def f36_r1 : List LOp := [
⟨some 5, .move (.tmp 0), none⟩,
⟨some 6, .move (.tmp 1), none⟩,
⟨some 7, .call ⟨.value (.func 57), #[.tmp 5, .tmp 6], #[25, 30]⟩, none⟩,
⟨some 8, .binOp .geq 3 (.tmp 7) (.const (.int .i64 0)) 3, none⟩,
⟨some 4, .assign (.tmp 8), none⟩]
def f36_c : LC := (.seq (.reg f36_r0 [] none) (.seq (.reg f36_r1 [] none) .ret))
theorem f36_lc : Tryd.f36.body.map lc = some f36_c.st := by kernel_rfl
theorem f36_res : Tryd.f36.results.toList = [.tmp 4] := by kernel_rfl
theorem f36_nt : Tryd.f36.ntmps = 9 := by kernel_rfl
theorem f36_nm : (Tryd.f36.name == "runtime.NumGoroutine") = false := by kernel_rfl
/-! quill/rex.May$1 -/
def f37_r0 : List LOp := [
⟨some 1, .box 27 (.tmp 0), none⟩,
⟨some 2, .assign (.const (.bool false)), none⟩]
def f37_r1 : List LOp := [
⟨some 3, .load 27 (.tmp 1), none⟩,
⟨some 4, .call ⟨.value (.func 38), #[.tmp 3], #[27]⟩, none⟩,
⟨some 5, .unOp .not 4 (.tmp 4), none⟩,
⟨some 6, .move (.tmp 5), none⟩,
⟨some 7, .load 27 (.tmp 1), some (3, false)⟩,
⟨some 8, .buildSlice 25 1 #[(0, .tmp 7)], some (3, false)⟩,
⟨some 9, .call ⟨.value (.func 39), #[.tmp 8], #[25]⟩, some (3, false)⟩,
⟨some 10, .binOp .gtr 3 (.tmp 9) (.const (.int .i64 2000)) 3, some (3, false)⟩,
⟨some 11, .pick (.tmp 6) (.const (.bool true)) (.tmp 10), none⟩,
⟨some 2, .assign (.tmp 11), none⟩]
def f37_c : LC := (.seq (.reg f37_r0 [] none) (.seq (.reg f37_r1 [] none) .ret))
theorem f37_lc : Tryd.f37.body.map lc = some f37_c.st := by kernel_rfl
theorem f37_res : Tryd.f37.results.toList = [.tmp 2] := by kernel_rfl
theorem f37_nt : Tryd.f37.ntmps = 12 := by kernel_rfl
theorem f37_nm : (Tryd.f37.name == "runtime.NumGoroutine") = false := by kernel_rfl
/-! quill/rex.nodes -/
def f38_r0 : List LOp := [
⟨some 1, .box 27 (.tmp 0), none⟩,
⟨some 2, .assign (.const (.bool false)), none⟩]
def f38_r1 : List LOp := [
⟨some 3, .load 27 (.tmp 1), none⟩,
⟨some 4, .call ⟨.value (.func 58), #[.tmp 3], #[27]⟩, none⟩,
⟨some 5, .move (.tmp 4), none⟩,
⟨some 6, .fieldAddr 27 (.tmp 1) 2, some (2, true)⟩,
⟨some 7, .load 25 (.tmp 6), some (2, true)⟩,
⟨some 8, .call ⟨.value (.func 36), #[.tmp 7, .func 59], #[25, 30]⟩, some (2, true)⟩,
⟨some 9, .unOp .not 4 (.tmp 8), some (2, true)⟩,
⟨some 10, .pick (.tmp 5) (.tmp 9) (.const (.bool false)), none⟩,
⟨some 2, .assign (.tmp 10), none⟩]
def f38_c : LC := (.seq (.reg f38_r0 [] none) (.seq (.reg f38_r1 [] none) .ret))
theorem f38_lc : Tryd.f38.body.map lc = some f38_c.st := by kernel_rfl
theorem f38_res : Tryd.f38.results.toList = [.tmp 2] := by kernel_rfl
theorem f38_nt : Tryd.f38.ntmps = 11 := by kernel_rfl
theorem f38_nm : (Tryd.f38.name == "runtime.NumGoroutine") = false := by kernel_rfl
/-! quill/rex.Size -/
def f39_r0 : List LOp := [
⟨some 2, .assign (.const (.int .i64 0)), none⟩]
def f39_r1 : List LOp := [
⟨some 6, .move (.tmp 0), none⟩,
⟨some 7, .call ⟨.builtin .len, #[.tmp 6], #[25]⟩, none⟩,
⟨some 3, .assign (.tmp 7), none⟩]
def f39_r2 : List LOp := [
⟨some 8, .move (.tmp 0), none⟩,
⟨some 9, .call ⟨.builtin .len, #[.tmp 8], #[25]⟩, none⟩,
⟨some 10, .move (.const (.int .i64 0)), none⟩]
def f39_r3 : List LOp := [
⟨some 11, .binOp .lss 3 (.tmp 10) (.tmp 9) 3, none⟩]
def f39_r4 : List LOp := [
⟨some 12, .indexAddr 25 (.tmp 8) (.tmp 10), none⟩,
⟨some 13, .load 27 (.tmp 12), none⟩,
⟨some 5, .alloc 27, none⟩,
⟨none, .store 27 (.tmp 5) (.tmp 13), none⟩]
def f39_r5 : List LOp := [
⟨some 14, .move (.tmp 3), none⟩,
⟨some 15, .fieldAddr 27 (.tmp 5) 2, none⟩,
⟨some 16, .load 25 (.tmp 15), none⟩,
⟨some 17, .call ⟨.value (.func 39), #[.tmp 16], #[25]⟩, none⟩,
⟨some 18, .binOp .add 3 (.tmp 14) (.tmp 17) 3, none⟩,
⟨some 3, .assign (.tmp 18), none⟩]
def f39_r6 : List LOp := [
⟨some 19, .binOp .add 3 (.tmp 10) (.const (.int .i64 1)) 3, none⟩,
⟨some 10, .move (.tmp 19), none⟩]
def f39_l7 : LC := (.seq (.reg f39_r3 [] none) (.seq (.cond (.tmp 11) .skip (.exit 0)) (.seq (.block 1 (.seq (.reg f39_r4 [] none) (.reg f39_r5 [] none))) (.reg f39_r6 [] none))))
def f39_i7 (t3 t8 t9 t10 : D) : List D := [.any, .any, .any, t3, .any, .any, .any, .any, t8, t9, t10, .any, .any, .any, .any, .any, .any, .any, .any, .any, .any]
def f39_r8 : List LOp := [
⟨some 20, .move (.tmp 3), none⟩,
⟨some 2, .assign (.tmp 20), none⟩]
def f39_c : LC := (.seq (.reg f39_r0 [] none) (.seq (.reg f39_r1 [] none) (.seq (.seq (.reg f39_r2 [] none) (.block 0 (.loop f39_l7))) (.seq (.reg f39_r8 [] none) .ret))))
theorem f39_lc : Tryd.f39.body.map lc = some f39_c.st := by kernel_rfl
theorem f39_res : Tryd.f39.results.toList = [.tmp 2] := by kernel_rfl
theorem f39_nt : Tryd.f39.ntmps = 21 := by kernel_rfl
theorem f39_nm : (Tryd.f39.name == "runtime.NumGoroutine") = false := by kernel_rfl
/-! slices.Contains[[]uint8,uint8] -/
def f40_r0 : List LOp := [
⟨some 4, .assign (.const (.bool false)), none⟩]
def f40_r1 : List LOp := [
⟨some 5, .move (.tmp 0), none⟩,
⟨some 6, .move (.tmp 1), none⟩,
⟨some 7, .call ⟨.value (.func 60), #[.tmp 5, .tmp 6], #[54, 5]⟩, none⟩,
⟨some 8, .binOp .geq 3 (.tmp 7) (.const (.int .i64 0)) 3, none⟩,
⟨some 4, .assign (.tmp 8), none⟩]
def f40_c : LC := (.seq (.reg f40_r0 [] none) (.seq (.reg f40_r1 [] none) .ret))
theorem f40_lc : Tryd.f40.body.map lc = some f40_c.st := by kernel_rfl
theorem f40_res : Tryd.f40.results.toList = [.tmp 4] := by kernel_rfl
theorem f40_nt : Tryd.f40.ntmps = 9 := by kernel_rfl
theorem f40_nm : (Tryd.f40.name == "runtime.NumGoroutine") = false := by kernel_rfl
/-! (*strings.Builder).WriteByte -/
def f41_r0 : List LOp := [
⟨some 4, .assign (.const .nilIface), none⟩]
def f41_r1 : List LOp := [
⟨some 5, .move (.tmp 0), none⟩,
⟨some 6, .call ⟨.value (.func 61), #[.tmp 5], #[53]⟩, none⟩]
def f41_r2 : List LOp := [
⟨some 7, .move (.tmp 0), none⟩,
⟨some 8, .move (.tmp 0), none⟩,
⟨some 9, .nilCheck (.tmp 8), none⟩,
⟨some 10, .fieldAddr 56 (.tmp 9) 1, none⟩,
⟨some 11, .load 54 (.tmp 10), none⟩,
⟨some 12, .move (.tmp 1), none⟩,
⟨some 13, .buildSlice 54 1 #[(0, .tmp 12)], none⟩,
⟨some 14, .call ⟨.builtin .append, #[.tmp 11, .tmp 13], #[54, 54]⟩, none⟩,
⟨some 15, .nilCheck (.tmp 7), none⟩,
⟨some 16, .fieldAddr 56 (.tmp 15) 1, none⟩,
⟨none, .store 54 (.tmp 16) (.tmp 14), none⟩]
def f41_r3 : List LOp := [
⟨some 4, .assign (.const .nilIface), none⟩]
def f41_c : LC := (.seq (.reg f41_r0 [] none) (.seq (.reg f41_r1 [] none) (.seq (.reg f41_r2 [] none) (.seq (.reg f41_r3 [] none) .ret))))
theorem f41_lc : Tryd.f41.body.map lc = some f41_c.st := by kernel_rfl
theorem f41_res : Tryd.f41.results.toList = [.tmp 4] := by kernel_rfl
theorem f41_nt : Tryd.f41.ntmps = 17 := by kernel_rfl
theorem f41_nm : (Tryd.f41.name == "runtime.NumGoroutine") = false := by kernel_rfl
/-! (*strings.Builder).WriteString -/
def f42_r0 : List LOp := [
⟨some 4, .assign (.const (.int .i64 0)), none⟩,
⟨some 5, .assign (.const .nilIface), none⟩]
def f42_r1 : List LOp := [
⟨some 6, .move (.tmp 0), none⟩,
⟨some 7, .call ⟨.value (.func 61), #[.tmp 6], #[53]⟩, none⟩]
def f42_r2 : List LOp := [
⟨some 8, .move (.tmp 0), none⟩,
⟨some 9, .move (.tmp 0), none⟩,
⟨some 10, .nilCheck (.tmp 9), none⟩,
⟨some 11, .fieldAddr 56 (.tmp 10) 1, none⟩,
⟨some 12, .load 54 (.tmp 11), none⟩,
⟨some 13, .move (.tmp 1), none⟩,
⟨some 14, .call ⟨.builtin .append, #[.tmp 12, .tmp 13], #[54, 9]⟩, none⟩,
⟨some 15, .nilCheck (.tmp 8), none⟩,
⟨some 16, .fieldAddr 56 (.tmp 15) 1, none⟩,
⟨none, .store 54 (.tmp 16) (.tmp 14), none⟩]
def f42_r3 : List LOp := [
⟨some 17, .move (.tmp 1), none⟩,
⟨some 18, .call ⟨.builtin .len, #[.tmp 17], #[9]⟩, none⟩,
⟨some 4, .assign (.tmp 18), none⟩,
⟨some 5, .assign (.const .nilIface), none⟩]
def f42_c : LC := (.seq (.reg f42_r0 [] none) (.seq (.reg f42_r1 [] none) (.seq (.reg f42_r2 [] none) (.seq (.reg f42_r3 [] none) .ret))))
theorem f42_lc : Tryd.f42.body.map lc = some f42_c.st := by kernel_rfl
theorem f42_res : Tryd.f42.results.toList = [.tmp 4, .tmp 5] := by kernel_rfl
theorem f42_nt : Tryd.f42.ntmps = 19 := by kernel_rfl
theorem f42_nm : (Tryd.f42.name == "runtime.NumGoroutine") = false := by kernel_rfl
/-! quill/set.Text -/
def f43_r0 : List LOp := [
⟨some 1, .box 24 (.tmp 0), none⟩,
⟨some 2, .assign (.const (.string { data := #[] })), none⟩]
def f43_r1 : List LOp := [
⟨some 7, .load 24 (.tmp 1), none⟩,
⟨some 8, .call ⟨.value (.func 62), #[.tmp 7], #[24]⟩, none⟩,
⟨some 3, .assign (.tmp 8), none⟩]
def f43_r2 : List LOp := [
⟨some 10, .load 24 (.tmp 1), none⟩,
⟨some 11, .call ⟨.value (.func 63), #[], #[]⟩, none⟩,
⟨some 12, .binOp .eql 24 (.tmp 10) (.tmp 11) 24, none⟩,
⟨some 9, .assign (.tmp 12), none⟩]
def f43_r3 : List LOp := [
⟨some 2, .assign (.const (.string { data := #[46] })), none⟩]
def f43_r4 : List LOp := [
⟨some 14, .move (.tmp 3), none⟩,
⟨some 15, .call ⟨.builtin .len, #[.tmp 14], #[54]⟩, none⟩,
⟨some 16, .binOp .eql 3 (.tmp 15) (.const (.int .i64 1)) 3, none⟩,
⟨some 13, .assign (.tmp 16), none⟩]
def f43_r5 : List LOp := [
⟨some 17, .move (.tmp 3), none⟩,
⟨some 18, .indexAddr 54 (.tmp 17) (.const (.int .i64 0)), none⟩,
⟨some 19, .load 5 (.tmp 18), none⟩,
⟨some 20, .call ⟨.value (.func 64), #[.tmp 19], #[5]⟩, none⟩,
⟨some 2, .assign (.tmp 20), none⟩]
def f43_r6 : List LOp := [
⟨some 4, .alloc 56, none⟩]
def f43_r7 : List LOp := [
⟨some 21, .call ⟨.value (.func 41), #[.tmp 4, .const (.int .u8 91)], #[56, 5]⟩, none⟩]
def f43_r8 : List LOp := [
⟨some 5, .assign (.const (.int .i64 0)), none⟩]
def f43_r9 : List LOp := [
⟨some 22, .move (.tmp 5), none⟩,
⟨some 23, .move (.tmp 3), none⟩,
⟨some 24, .call ⟨.builtin .len, #[.tmp 23], #[54]⟩, none⟩,
⟨some 25, .binOp .lss 3 (.tmp 22) (.tmp 24) 3, none⟩]
def f43_r10 : List LOp := [
⟨some 26, .move (.tmp 5), none⟩,
⟨some 6, .assign (.tmp 26), none⟩]
def f43_r11 : List LOp := [
⟨some 27, .move (.tmp 6), none⟩,
⟨some 28, .binOp .add 3 (.tmp 27) (.const (.int .i64 1)) 3, none⟩,
⟨some 29, .move (.tmp 3), none⟩,
⟨some 30, .call ⟨.builtin .len, #[.tmp 29], #[54]⟩, none⟩,
⟨some 31, .binOp .lss 3 (.tmp 28) (.tmp 30) 3, none⟩,
⟨some 32, .move (.tmp 31), none⟩,
⟨some 33, .move (.tmp 3), some (5, true)⟩,
⟨some 34, .move (.tmp 6), some (5, true)⟩,
⟨some 35, .binOp .add 3 (.tmp 34) (.const (.int .i64 1)) 3, some (5, true)⟩,
⟨some 36, .indexAddr 54 (.tmp 33) (.tmp 35), some (5, true)⟩,
⟨some 37, .load 5 (.tmp 36), some (5, true)⟩,
⟨some 38, .move (.tmp 3), some (5, true)⟩,
⟨some 39, .move (.tmp 6), some (5, true)⟩,
⟨some 40, .indexAddr 54 (.tmp 38) (.tmp 39), some (5, true)⟩,
⟨some 41, .load 5 (.tmp 40), some (5, true)⟩,
⟨some 42, .binOp .add 5 (.tmp 41) (.const (.int .u8 1)) 5, some (5, true)⟩,
⟨some 43, .binOp .eql 5 (.tmp 37) (.tmp 42) 5, some (5, true)⟩,
⟨some 44, .pick (.tmp 32) (.tmp 43) (.const (.bool false)), none⟩]
def f43_r12 : List LOp := [
⟨some 45, .move (.tmp 6), none⟩,
⟨some 46, .binOp .add 3 (.tmp 45) (.const (.int .i64 1)) 3, none⟩,
⟨some 6, .assign (.tmp 46), none⟩]
def f43_l13 : LC := (.seq (.seq (.reg f43_r11 [] (some 16)) (.cond (.tmp 44) .skip (.exit 3))) (.block 4 (.reg f43_r12 [] none)))
def f43_i13 (t3 t4 t5 t6 : D) : List D := [.any, .any, .any, t3, t4, t5, t6, .any, .any, .any, .any, .any, .any, .any, .any, .any, .any, .any, .any, .any, .any, .any, .any, .any, .any, .any, .any, .any, .any, .any, .any, .any, .any, .any, .any, .any, .any, .any, .any, .any, .any, .any, .any, .any, .any, .any, .any, .any, .any, .any, .any, .any, .any, .any, .any, .any, .any, .any, .any, .any, .any, .any, .any, .any, .any, .any, .any, .any, .any, .any, .any]
def f43_r14 : List LOp := [
⟨some 47, .move (.tmp 3), none⟩,
⟨some 48, .move (.tmp 5), none⟩,
⟨some 49, .indexAddr 54 (.tmp 47) (.tmp 48), none⟩,
⟨some 50, .load 5 (.tmp 49), none⟩,
⟨some 51, .call ⟨.value (.func 64), #[.tmp 50], #[5]⟩, none⟩,
⟨some 52, .call ⟨.value (.func 42), #[.tmp 4, .tmp 51], #[56, 9]⟩, none⟩]
def f43_r15 : List LOp := [
⟨some 53, .move (.tmp 6), none⟩,
⟨some 54, .move (.tmp 5), none⟩,
⟨some 55, .binOp .add 3 (.tmp 54) (.const (.int .i64 1)) 3, none⟩,
⟨some 56, .binOp .gtr 3 (.tmp 53) (.tmp 55) 3, none⟩]
def f43_r16 : List LOp := [
⟨some 57, .call ⟨.value (.func 41), #[.tmp 4, .const (.int .u8 45)], #[56, 5]⟩, none⟩]
def f43_r17 : List LOp := [
⟨some 58, .move (.tmp 6), none⟩,
⟨some 59, .move (.tmp 5), none⟩,
⟨some 60, .binOp .gtr 3 (.tmp 58) (.tmp 59) 3, none⟩]
def f43_r18 : List LOp := [
⟨some 61, .move (.tmp 3), none⟩,
⟨some 62, .move (.tmp 6), none⟩,
⟨some 63, .indexAddr 54 (.tmp 61) (.tmp 62), none⟩,
⟨some 64, .load 5 (.tmp 63), none⟩,
⟨some 65, .call ⟨.value (.func 64), #[.tmp 64], #[5]⟩, none⟩,
⟨some 66, .call ⟨.value (.func 42), #[.tmp 4, .tmp 65], #[56, 9]⟩, none⟩]
def f43_r19 : List LOp := [
⟨some 67, .move (.tmp 6), none⟩,
⟨some 68, .binOp .add 3 (.tmp 67) (.const (.int .i64 1)) 3, none⟩,
⟨some 5, .assign (.tmp 68), none⟩]
def f43_l20 : LC := (.seq (.seq (.reg f43_r9 [] none) (.cond (.tmp 25) .skip (.exit 1))) (.block 2 (.seq (.reg f43_r10 [] none) (.seq (.block 3 (.loop f43_l13)) (.seq (.reg f43_r14 [] none) (.seq (.seq (.reg f43_r15 [] none) (.cond (.tmp 56) (.reg f43_r16 [] none) .skip)) (.seq (.seq (.reg f43_r17 [] none) (.cond (.tmp 60) (.reg f43_r18 [] none) .skip)) (.reg f43_r19 [] none))))))))
def f43_i20 (t3 t4 t5 : D) : List D := [.any, .any, .any, t3, t4, t5, .any, .any, .any, .any, .any, .any, .any, .any, .any, .any, .any, .any, .any, .any, .any, .any, .any, .any, .any, .any, .any, .any, .any, .any, .any, .any, .any, .any, .any, .any, .any, .any, .any, .any, .any, .any, .any, .any, .any, .any, .any, .any, .any, .any, .any, .any, .any, .any, .any, .any, .any, .any, .any, .any, .any, .any, .any, .any, .any, .any, .any, .any, .any, .any, .any]
def f43_r21 : List LOp := [
⟨some 69, .call ⟨.value (.func 41), #[.tmp 4, .const (.int .u8 93)], #[56, 5]⟩, none⟩]
def f43_r22 : List LOp := [
⟨some 70, .call ⟨.value (.func 25), #[.tmp 4], #[56]⟩, none⟩,
⟨some 2, .assign (.tmp 70), none⟩]
def f43_c : LC := (.seq (.reg f43_r0 [] none) (.seq (.reg f43_r1 [] none) (.seq (.block 0 (.seq (.reg f43_r2 [] (some 2)) (.cond (.tmp 9) (.seq (.reg f43_r3 [] none) .ret) (.seq (.reg f43_r4 [] none) (.cond (.tmp 13) (.seq (.reg f43_r5 [] none) .ret) .skip))))) (.seq (.reg f43_r6 [] none) (.seq (.reg f43_r7 [] none) (.seq (.seq (.reg f43_r8 [] none) (.block 1 (.loop f43_l20))) (.seq (.reg f43_r21 [] none) (.seq (.reg f43_r22 [] none) .ret))))))))
theorem f43_lc : Tryd.f43.body.map lc = some f43_c.st := by kernel_rfl
theorem f43_res : Tryd.f43.results.toList = [.tmp 2] := by kernel_rfl
theorem f43_nt : Tryd.f43.ntmps = 71 := by kernel_rfl
theorem f43_nm : (Tryd.f43.name == "runtime.NumGoroutine") = false := by kernel_rfl
/-! quill/quillref02.Bytes -/
/-! quill/quillref02.Sign -/
/-! quill/quillref02.Has -/
/-! (*quill/read.reader).row -/
def f54_r0 : List LOp := [
⟨some 2, .alloc 27, none⟩]
def f54_r1 : List LOp := [
⟨some 4, .move (.tmp 0), none⟩,
⟨some 5, .call ⟨.value (.func 77), #[.tmp 4], #[47]⟩, none⟩,
⟨some 6, .buildSlice 25 1 #[(0, .tmp 5)], none⟩,
⟨some 3, .assign (.tmp 6), none⟩]
def f54_r2 : List LOp := [
⟨some 7, .move (.tmp 0), none⟩,
⟨some 8, .call ⟨.value (.func 55), #[.tmp 7, .const (.string { data := #[46, 91, 40] })], #[47, 9]⟩, none⟩,
⟨some 9, .move (.tmp 8), none⟩,
⟨some 10, .move (.tmp 0), some (2, false)⟩,
⟨some 11, .call ⟨.value (.func 78), #[.tmp 10], #[47]⟩, some (2, false)⟩,
⟨some 12, .pick (.tmp 9) (.const (.bool true)) (.tmp 11), none⟩]
def f54_r3 : List LOp := [
⟨some 13, .move (.tmp 3), none⟩,
⟨some 14, .move (.tmp 0), none⟩,
⟨some 15, .call ⟨.value (.func 77), #[.tmp 14], #[47]⟩, none⟩,
⟨some 16, .buildSlice 25 1 #[(0, .tmp 15)], none⟩,
⟨some 17, .call ⟨.builtin .append, #[.tmp 13, .tmp 16], #[25, 25]⟩, none⟩,
⟨some 3, .assign (.tmp 17), none⟩]
def f54_l4 : LC := (.seq (.seq (.reg f54_r2 [] none) (.cond (.tmp 12) .skip (.exit 0))) (.block 1 (.reg f54_r3 [] none)))
def f54_i4 (t0 t2 t3 : D) : List D := [t0, .any, t2, t3, .any, .any, .any, .any, .any, .any, .any, .any, .any, .any, .any, .any, .any, .any, .any, .any]
def f54_r5 : List LOp := [
⟨some 18, .move (.tmp 3), none⟩,
⟨some 19, .call ⟨.value (.func 67), #[.tmp 18], #[25]⟩, none⟩,
⟨none, .store 27 (.tmp 2) (.tmp 19), none⟩]
def f54_c : LC := (.seq (.reg f54_r0 [] none) (.seq (.reg f54_r1 [2] none) (.seq (.block 0 (.loop f54_l4)) (.seq (.reg f54_r5 [] none) .ret))))
theorem f54_lc : Tryd.f54.body.map lc = some f54_c.st := by kernel_rfl
theorem f54_res : Tryd.f54.results.toList = [.cell 2 27] := by kernel_rfl
theorem f54_nt : Tryd.f54.ntmps = 20 := by kernel_rfl
theorem f54_nm : (Tryd.f54.name == "runtime.NumGoroutine") = false := by kernel_rfl
/-! (*quill/read.reader).is -/
def f55_r0 : List LOp := [
⟨some 4, .assign (.const (.bool false)), none⟩]
def f55_r1 : List LOp := [
⟨some 5, .move (.tmp 0), none⟩,
⟨some 6, .nilCheck (.tmp 5), none⟩,
⟨some 7, .fieldAddr 49 (.tmp 6) 1, none⟩,
⟨some 8, .load 3 (.tmp 7), none⟩,
⟨some 9, .move (.tmp 0), none⟩,
⟨some 10, .nilCheck (.tmp 9), none⟩,
⟨some 11, .fieldAddr 49 (.tmp 10) 0, none⟩,
⟨some 12, .load 9 (.tmp 11), none⟩,
⟨some 13, .call ⟨.builtin .len, #[.tmp 12], #[9]⟩, none⟩,
⟨some 14, .binOp .lss 3 (.tmp 8) (.tmp 13) 3, none⟩,
⟨some 15, .move (.tmp 14), none⟩,
⟨some 16, .move (.tmp 1), some (10, true)⟩,
⟨some 17, .move (.tmp 0), some (10, true)⟩,
⟨some 18, .nilCheck (.tmp 17), some (10, true)⟩,
⟨some 19, .fieldAddr 49 (.tmp 18) 0, some (10, true)⟩,
⟨some 20, .load 9 (.tmp 19), some (10, true)⟩,
⟨some 21, .move (.tmp 0), some (10, true)⟩,
⟨some 22, .nilCheck (.tmp 21), some (10, true)⟩,
⟨some 23, .fieldAddr 49 (.tmp 22) 1, some (10, true)⟩,
⟨some 24, .load 3 (.tmp 23), some (10, true)⟩,
⟨some 25, .index 9 (.tmp 20) (.tmp 24), some (10, true)⟩,
⟨some 26, .call ⟨.value (.func 79), #[.tmp 16, .tmp 25], #[9, 5]⟩, some (10, true)⟩,
⟨some 27, .binOp .geq 3 (.tmp 26) (.const (.int .i64 0)) 3, some (10, true)⟩,
⟨some 28, .pick (.tmp 15) (.tmp 27) (.const (.bool false)), none⟩,
⟨some 4, .assign (.tmp 28), none⟩]
def f55_c : LC := (.seq (.reg f55_r0 [] none) (.seq (.reg f55_r1 [] (some 24)) .ret))
theorem f55_lc : Tryd.f55.body.map lc = some f55_c.st := by kernel_rfl
theorem f55_res : Tryd.f55.results.toList = [.tmp 4] := by kernel_rfl
theorem f55_nt : Tryd.f55.ntmps = 29 := by kernel_rfl
theorem f55_nm : (Tryd.f55.name == "runtime.NumGoroutine") = false := by kernel_rfl
/-! quill/rex.Or -/
def f56_r0 : List LOp := [
⟨some 2, .alloc 27, none⟩]
def f56_r1 : List LOp := [
⟨some 3, .move (.tmp 0), none⟩,
⟨some 4, .call ⟨.value (.func 80), #[.const (.int .u8 5), .const (.int .u8 1), .tmp 3], #[5, 5, 25]⟩, none⟩,
⟨none, .store 27 (.tmp 2) (.tmp 4), none⟩]
def f56_c : LC := (.seq (.reg f56_r0 [] none) (.seq (.reg f56_r1 [] none) .ret))
theorem f56_lc : Tryd.f56.body.map lc = some f56_c.st := by kernel_rfl
theorem f56_res : Tryd.f56.results.toList = [.cell 2 27] := by kernel_rfl
theorem f56_nt : Tryd.f56.ntmps = 5 := by kernel_rfl
theorem f56_nm : (Tryd.f56.name == "runtime.NumGoroutine") = false := by kernel_rfl
/-! slices.IndexFunc[[]quill/api.Re,quill/api.Re] -/
def f57_r0 : List LOp := [
⟨some 4, .assign (.const (.int .i64 0)), none⟩]
def f57_r1 : List LOp := [
⟨some 6, .move (.tmp 0), none⟩,
⟨some 7, .call ⟨.builtin .len, #[.tmp 6], #[25]⟩, none⟩,
⟨some 8, .move (.const (.int .i64 0)), none⟩]
def f57_r2 : List LOp := [
⟨some 9, .binOp .lss 3 (.tmp 8) (.tmp 7) 3, none⟩]
def f57_r3 : List LOp := [
⟨some 10, .move (.tmp 8), none⟩,
⟨some 5, .assign (.tmp 10), none⟩]
def f57_r4 : List LOp := [
⟨some 11, .move (.tmp 1), none⟩,
⟨some 12, .move (.tmp 0), none⟩,
⟨some 13, .move (.tmp 5), none⟩,
⟨some 14, .indexAddr 25 (.tmp 12) (.tmp 13), none⟩,
⟨some 15, .load 27 (.tmp 14), none⟩,
⟨some 16, .call ⟨.value (.tmp 11), #[.tmp 15], #[27]⟩, none⟩]
def f57_r5 : List LOp := [
⟨some 17, .move (.tmp 5), none⟩,
⟨some 4, .assign (.tmp 17), none⟩]
def f57_r6 : List LOp := [
⟨some 18, .binOp .add 3 (.tmp 8) (.const (.int .i64 1)) 3, none⟩,
⟨some 8, .move (.tmp 18), none⟩]
def f57_l7 : LC := (.seq (.reg f57_r2 [] none) (.seq (.cond (.tmp 9) .skip (.exit 0)) (.seq (.block 1 (.seq (.reg f57_r3 [] none) (.seq (.reg f57_r4 [] none) (.cond (.tmp 16) (.seq (.reg f57_r5 [] none) .ret) .skip)))) (.reg f57_r6 [] none))))
def f57_i7 (t0 t1 t7 t8 : D) : List D := [t0, t1, .any, .any, .any, .any, .any, t7, t8, .any, .any, .any, .any, .any, .any, .any, .any, .any, .any]
def f57_r8 : List LOp := [
⟨some 4, .assign (.const (.int .i64 (-1))), none⟩]
def f57_c : LC := (.seq (.reg f57_r0 [] none) (.seq (.seq (.reg f57_r1 [] none) (.block 0 (.loop f57_l7))) (.seq (.reg f57_r8 [] none) .ret)))
theorem f57_lc : Tryd.f57.body.map lc = some f57_c.st := by kernel_rfl
theorem f57_res : Tryd.f57.results.toList = [.tmp 4] := by kernel_rfl
theorem f57_nt : Tryd.f57.ntmps = 19 := by kernel_rfl
theorem f57_nm : (Tryd.f57.name == "runtime.NumGoroutine") = false := by kernel_rfl
/-! quill/rex.node -/
def f58_r0 : List LOp := [
⟨some 1, .box 27 (.tmp 0), none⟩,
⟨some 2, .assign (.const (.bool false)), none⟩]
def f58_r1 : List LOp := [
⟨some 5, .fieldAddr 27 (.tmp 1) 2, none⟩,
⟨some 6, .load 25 (.tmp 5), none⟩,
⟨some 7, .call ⟨.builtin .len, #[.tmp 6], #[25]⟩, none⟩,
⟨some 8, .fieldAddr 27 (.tmp 1) 1, none⟩,
⟨some 9, .load 24 (.tmp 8), none⟩,
⟨some 10, .build 24 #[], none⟩,
⟨some 11, .binOp .eql 24 (.tmp 9) (.tmp 10) 24, none⟩,
⟨some 3, .assign (.tmp 7), none⟩,
⟨some 4, .assign (.tmp 11), none⟩]
def f58_r2 : List LOp := [
⟨some 12, .fieldAddr 27 (.tmp 1) 0, none⟩,
⟨some 13, .load 5 (.tmp 12), none⟩]
def f58_r3 : List LOp := [
⟨some 15, .binOp .eql 5 (.tmp 13) (.const (.int .u8 1)) 5, none⟩,
⟨some 14, .assign (.tmp 15), none⟩]
def f58_r4 : List LOp := [
⟨some 16, .binOp .eql 5 (.tmp 13) (.const (.int .u8 2)) 5, none⟩,
⟨some 14, .assign (.tmp 16), none⟩]
def f58_r5 : List LOp := [
⟨some 17, .move (.tmp 3), none⟩,
⟨some 18, .binOp .eql 3 (.tmp 17) (.const (.int .i64 0)) 3, none⟩,
⟨some 19, .move (.tmp 18), none⟩,
⟨some 20, .move (.tmp 4), some (2, true)⟩,
⟨some 21, .pick (.tmp 19) (.tmp 20) (.const (.bool false)), none⟩,
⟨some 2, .assign (.tmp 21), none⟩]
def f58_r6 : List LOp := [
⟨some 23, .binOp .eql 5 (.tmp 13) (.const (.int .u8 3)) 5, none⟩,
⟨some 22, .assign (.tmp 23), none⟩]
def f58_r7 : List LOp := [
⟨some 24, .move (.tmp 3), none⟩,
⟨some 25, .binOp .eql 3 (.tmp 24) (.const (.int .i64 0)) 3, none⟩,
⟨some 26, .move (.tmp 25), none⟩,
⟨some 27, .move (.tmp 4), some (2, true)⟩,
⟨some 28, .unOp .not 4 (.tmp 27), some (2, true)⟩,
⟨some 29, .pick (.tmp 26) (.tmp 28) (.const (.bool false)), none⟩,
⟨some 2, .assign (.tmp 29), none⟩]
def f58_r8 : List LOp := [
⟨some 31, .binOp .eql 5 (.tmp 13) (.const (.int .u8 4)) 5, none⟩,
⟨some 30, .assign (.tmp 31), none⟩]
def f58_r9 : List LOp := [
⟨some 32, .binOp .eql 5 (.tmp 13) (.const (.int .u8 5)) 5, none⟩,
⟨some 30, .assign (.tmp 32), none⟩]
def f58_r10 : List LOp := [
⟨some 33, .move (.tmp 3), none⟩,
⟨some 34, .binOp .eql 3 (.tmp 33) (.const (.int .i64 2)) 3, none⟩,
⟨some 35, .move (.tmp 34), none⟩,
⟨some 36, .move (.tmp 4), some (2, true)⟩,
⟨some 37, .pick (.tmp 35) (.tmp 36) (.const (.bool false)), none⟩,
⟨some 2, .assign (.tmp 37), none⟩]
def f58_r11 : List LOp := [
⟨some 39, .binOp .eql 5 (.tmp 13) (.const (.int .u8 6)) 5, none⟩,
⟨some 38, .assign (.tmp 39), none⟩]
def f58_r12 : List LOp := [
⟨some 40, .move (.tmp 3), none⟩,
⟨some 41, .binOp .eql 3 (.tmp 40) (.const (.int .i64 1)) 3, none⟩,
⟨some 42, .move (.tmp 41), none⟩,
⟨some 43, .move (.tmp 4), some (2, true)⟩,
⟨some 44, .pick (.tmp 42) (.tmp 43) (.const (.bool false)), none⟩,
⟨some 2, .assign (.tmp 44), none⟩]
def f58_r13 : List LOp := [
⟨some 2, .assign (.const (.bool false)), none⟩]
def f58_c : LC := (.seq (.reg f58_r0 [] none) (.seq (.regp f58_r1 [] [] 8) (.seq (.seq (.reg f58_r2 [] none) (.block 0 (.seq (.seq (.reg f58_r3 [] none) (.cond (.tmp 14) .skip (.reg f58_r4 [] none))) (.cond (.tmp 14) (.seq (.reg f58_r5 [] none) .ret) (.seq (.reg f58_r6 [] none) (.cond (.tmp 22) (.seq (.reg f58_r7 [] none) .ret) (.seq (.seq (.reg f58_r8 [] none) (.cond (.tmp 30) .skip (.reg f58_r9 [] none))) (.cond (.tmp 30) (.seq (.reg f58_r10 [] none) .ret) (.seq (.reg f58_r11 [] none) (.cond (.tmp 38) (.seq (.reg f58_r12 [] none) .ret) .skip)))))))))) (.seq (.reg f58_r13 [] none) .ret))))
theorem f58_lc : Tryd.f58.body.map lc = some f58_c.st := by kernel_rfl
theorem f58_res : Tryd.f58.results.toList = [.tmp 2] := by kernel_rfl
theorem f58_nt : Tryd.f58.ntmps = 45 := by kernel_rfl
theorem f58_nm : (Tryd.f58.name == "runtime.NumGoroutine") = false := by kernel_rfl
/-! quill/rex.nodes$1 -/
def f59_r0 : List LOp := [
⟨some 1, .box 27 (.tmp 0), none⟩,
⟨some 2, .assign (.const (.bool false)), none⟩]
def f59_r1 : List LOp := [
⟨some 3, .load 27 (.tmp 1), none⟩,
⟨some 4, .call ⟨.value (.func 38), #[.tmp 3], #[27]⟩, none⟩,
⟨some 5, .unOp .not 4 (.tmp 4), none⟩,
⟨some 2, .assign (.tmp 5), none⟩]
def f59_c : LC := (.seq (.reg f59_r0 [] none) (.seq (.reg f59_r1 [] none) .ret))
theorem f59_lc : Tryd.f59.body.map lc = some f59_c.st := by kernel_rfl
theorem f59_res : Tryd.f59.results.toList = [.tmp 2] := by kernel_rfl
theorem f59_nt : Tryd.f59.ntmps = 6 := by kernel_rfl
theorem f59_nm : (Tryd.f59.name == "runtime.NumGoroutine") = false := by kernel_rfl
/-! slices.Index[[]uint8,uint8] -/
def f60_r0 : List LOp := [
⟨some 4, .assign (.const (.int .i64 0)), none⟩]
def f60_r1 : List LOp := [
⟨some 6, .move (.tmp 0), none⟩,
⟨some 7, .call ⟨.builtin .len, #[.tmp 6], #[54]⟩, none⟩,
⟨some 8, .move (.const (.int .i64 0)), none⟩]
def f60_r2 : List LOp := [
⟨some 9, .binOp .lss 3 (.tmp 8) (.tmp 7) 3, none⟩]
def f60_r3 : List LOp := [
⟨some 10, .move (.tmp 8), none⟩,
⟨some 5, .assign (.tmp 10), none⟩]
def f60_r4 : List LOp := [
⟨some 11, .move (.tmp 1), none⟩,
⟨some 12, .move (.tmp 0), none⟩,
⟨some 13, .move (.tmp 5), none⟩,
⟨some 14, .indexAddr 54 (.tmp 12) (.tmp 13), none⟩,
⟨some 15, .load 5 (.tmp 14), none⟩,
⟨some 16, .binOp .eql 5 (.tmp 11) (.tmp 15) 5, none⟩]
def f60_r5 : List LOp := [
⟨some 17, .move (.tmp 5), none⟩,
⟨some 4, .assign (.tmp 17), none⟩]
def f60_r6 : List LOp := [
⟨some 18, .binOp .add 3 (.tmp 8) (.const (.int .i64 1)) 3, none⟩,
⟨some 8, .move (.tmp 18), none⟩]
def f60_l7 : LC := (.seq (.reg f60_r2 [] none) (.seq (.cond (.tmp 9) .skip (.exit 0)) (.seq (.block 1 (.seq (.reg f60_r3 [] none) (.seq (.reg f60_r4 [] none) (.cond (.tmp 16) (.seq (.reg f60_r5 [] none) .ret) .skip)))) (.reg f60_r6 [] none))))
def f60_i7 (t0 t1 t7 t8 : D) : List D := [t0, t1, .any, .any, .any, .any, .any, t7, t8, .any, .any, .any, .any, .any, .any, .any, .any, .any, .any]
def f60_r8 : List LOp := [
⟨some 4, .assign (.const (.int .i64 (-1))), none⟩]
def f60_c : LC := (.seq (.reg f60_r0 [] none) (.seq (.seq (.reg f60_r1 [] none) (.block 0 (.loop f60_l7))) (.seq (.reg f60_r8 [] none) .ret)))
theorem f60_lc : Tryd.f60.body.map lc = some f60_c.st := by kernel_rfl
theorem f60_res : Tryd.f60.results.toList = [.tmp 4] := by kernel_rfl
theorem f60_nt : Tryd.f60.ntmps = 19 := by kernel_rfl
theorem f60_nm : (Tryd.f60.name == "runtime.NumGoroutine") = false := by kernel_rfl
/-! (*strings.Builder).copyCheck -/
/-! quill/set.Bytes -/
def f62_r0 : List LOp := [
⟨some 1, .box 24 (.tmp 0), none⟩,
⟨some 2, .assign (.const (.slice none 0 0)), none⟩]
def f62_r1 : List LOp := [
⟨some 3, .assign (.const (.slice none 0 0)), none⟩]
def f62_r2 : List LOp := [
⟨some 6, .load 24 (.tmp 1), none⟩,
⟨some 7, .move (.const (.int .i64 0)), none⟩]
def f62_r3 : List LOp := [
⟨some 8, .binOp .lss 3 (.tmp 7) (.const (.int .i64 4)) 3, none⟩]
def f62_r4 : List LOp := [
⟨some 9, .move (.tmp 7), none⟩,
⟨some 10, .index 24 (.tmp 6) (.tmp 7), none⟩,
⟨some 4, .assign (.tmp 9), none⟩,
⟨some 5, .assign (.tmp 10), none⟩]
def f62_r5 : List LOp := [
⟨some 11, .move (.tmp 5), none⟩,
⟨some 12, .binOp .neq 22 (.tmp 11) (.const (.int .u64 0)) 22, none⟩]
def f62_r6 : List LOp := [
⟨some 17, .move (.tmp 3), none⟩,
⟨some 18, .move (.tmp 4), none⟩,
⟨some 19, .binOp .mul 3 (.const (.int .i64 64)) (.tmp 18) 3, none⟩,
⟨some 20, .move (.tmp 5), none⟩,
⟨some 21, .call ⟨.value (.func 82), #[.tmp 20], #[22]⟩, none⟩,
⟨some 22, .binOp .add 3 (.tmp 19) (.tmp 21) 3, none⟩,
⟨some 23, .convert 3 5 (.tmp 22), none⟩,
⟨some 24, .buildSlice 54 1 #[(0, .tmp 23)], none⟩,
⟨some 25, .call ⟨.builtin .append, #[.tmp 17, .tmp 24], #[54, 54]⟩, none⟩,
⟨some 3, .assign (.tmp 25), none⟩]
def f62_r7 : List LOp := [
⟨some 13, .move (.tmp 5), none⟩,
⟨some 14, .move (.tmp 5), none⟩,
⟨some 15, .binOp .sub 22 (.tmp 14) (.const (.int .u64 1)) 22, none⟩,
⟨some 16, .binOp .and 22 (.tmp 13) (.tmp 15) 22, none⟩,
⟨some 5, .assign (.tmp 16), none⟩]
def f62_l8 : LC := (.seq (.seq (.reg f62_r5 [] none) (.cond (.tmp 12) .skip (.exit 2))) (.seq (.block 3 (.reg f62_r6 [] none)) (.reg f62_r7 [] none)))
def f62_i8 (t3 t4 t5 t6 t7 : D) : List D := [.any, .any, .any, t3, t4, t5, t6, t7, .any, .any, .any, .any, .any, .any, .any, .any, .any, .any, .any, .any, .any, .any, .any, .any, .any, .any, .any, .any]
def f62_r9 : List LOp := [
⟨some 26, .binOp .add 3 (.tmp 7) (.const (.int .i64 1)) 3, none⟩,
⟨some 7, .move (.tmp 26), none⟩]
def f62_l10 : LC := (.seq (.reg f62_r3 [] none) (.seq (.cond (.tmp 8) .skip (.exit 0)) (.seq (.block 1 (.seq (.reg f62_r4 [] none) (.block 2 (.loop f62_l8)))) (.reg f62_r9 [] none))))
def f62_i10 (t3 t6 t7 : D) : List D := [.any, .any, .any, t3, .any, .any, t6, t7, .any, .any, .any, .any, .any, .any, .any, .any, .any, .any, .any, .any, .any, .any, .any, .any, .any, .any, .any, .any]
def f62_r11 : List LOp := [
⟨some 27, .move (.tmp 3), none⟩,
⟨some 2, .assign (.tmp 27), none⟩]
def f62_c : LC := (.seq (.reg f62_r0 [] none) (.seq (.reg f62_r1 [] none) (.seq (.seq (.reg f62_r2 [] none) (.block 0 (.loop f62_l10))) (.seq (.reg f62_r11 [] none) .ret))))
theorem f62_lc : Tryd.f62.body.map lc = some f62_c.st := by kernel_rfl
theorem f62_res : Tryd.f62.results.toList = [.tmp 2] := by kernel_rfl
theorem f62_nt : Tryd.f62.ntmps = 28 := by kernel_rfl
theorem f62_nm : (Tryd.f62.name == "runtime.NumGoroutine") = false := by kernel_rfl
/-! quill/set.all -/
def f63_r0 : List LOp := [
⟨some 0, .alloc 24, none⟩]
def f63_r1 : List LOp := [
⟨some 1, .build 24 #[(0, .const (.int .u64 18446744073709551615)), (1, .const (.int .u64 18446744073709551615)), (2, .const (.int .u64 18446744073709551615)), (3, .const (.int .u64 18446744073709551615))], none⟩,
⟨none, .store 24 (.tmp 0) (.tmp 1), none⟩]
def f63_c : LC := (.seq (.reg f63_r0 [] none) (.seq (.reg f63_r1 [] none) .ret))
theorem f63_lc : Tryd.f63.body.map lc = some f63_c.st := by kernel_rfl
theorem f63_res : Tryd.f63.results.toList = [.cell 0 24] := by kernel_rfl
theorem f63_nt : Tryd.f63.ntmps = 2 := by kernel_rfl
theorem f63_nm : (Tryd.f63.name == "runtime.NumGoroutine") = false := by kernel_rfl
/-! quill/set.Sign -/
def f64_r0 : List LOp := [
⟨some 2, .assign (.const (.string { data := #[] })), none⟩]
def f64_r1 : List LOp := [
⟨some 3, .move (.tmp 0), none⟩,
⟨some 4, .binOp .lss 5 (.tmp 3) (.const (.int .u8 33)) 5, none⟩,
⟨some 5, .move (.tmp 4), none⟩,
⟨some 6, .move (.tmp 0), some (2, false)⟩,
⟨some 7, .binOp .gtr 5 (.tmp 6) (.const (.int .u8 126)) 5, some (2, false)⟩,
⟨some 8, .pick (.tmp 5) (.const (.bool true)) (.tmp 7), none⟩,
⟨some 9, .move (.tmp 8), none⟩,
⟨some 10, .move (.tmp 0), some (6, false)⟩,
⟨some 11, .call ⟨.value (.func 79), #[.const (.string { data := #[92, 124, 42, 40, 41, 91, 93, 46, 45] }), .tmp 10], #[9, 5]⟩, some (6, false)⟩,
⟨some 12, .binOp .geq 3 (.tmp 11) (.const (.int .i64 0)) 3, some (6, false)⟩,
⟨some 13, .pick (.tmp 9) (.const (.bool true)) (.tmp 12), none⟩]
def f64_r2 : List LOp := [
⟨some 14, .move (.tmp 0), none⟩,
⟨some 15, .buildSlice 54 1 #[(0, .tmp 14)], none⟩,
⟨some 16, .call ⟨.value (.func 83), #[.tmp 15], #[54]⟩, none⟩,
⟨some 17, .binOp .add 9 (.const (.string { data := #[92] })) (.tmp 16) 9, none⟩,
⟨some 2, .assign (.tmp 17), none⟩]
def f64_r3 : List LOp := [
⟨some 18, .move (.tmp 0), none⟩,
⟨some 19, .buildSlice 54 1 #[(0, .tmp 18)], none⟩,
⟨some 20, .convert 54 9 (.tmp 19), none⟩,
⟨some 2, .assign (.tmp 20), none⟩]
def f64_c : LC := (.seq (.reg f64_r0 [] none) (.seq (.seq (.reg f64_r1 [] none) (.cond (.tmp 13) (.seq (.reg f64_r2 [] none) .ret) .skip)) (.seq (.reg f64_r3 [] none) .ret)))
theorem f64_lc : Tryd.f64.body.map lc = some f64_c.st := by kernel_rfl
theorem f64_res : Tryd.f64.results.toList = [.tmp 2] := by kernel_rfl
theorem f64_nt : Tryd.f64.ntmps = 21 := by kernel_rfl
theorem f64_nm : (Tryd.f64.name == "runtime.NumGoroutine") = false := by kernel_rfl
/-! quill/quillref02.special -/
def f65_r0 : List LOp := [
⟨some 2, .assign (.const (.bool false)), none⟩]
def f65_r1 : List LOp := [
⟨some 3, .assign (.const (.string { data := #[92, 124, 42, 40, 41, 91, 93, 46, 45] })), none⟩]
def f65_r2 : List LOp := [
⟨some 4, .assign (.const (.int .i64 0)), none⟩]
def f65_r3 : List LOp := [
⟨some 5, .move (.tmp 4), none⟩,
⟨some 6, .move (.tmp 3), none⟩,
⟨some 7, .call ⟨.builtin .len, #[.tmp 6], #[9]⟩, none⟩,
⟨some 8, .binOp .lss 3 (.tmp 5) (.tmp 7) 3, none⟩]
def f65_r4 : List LOp := [
⟨some 11, .move (.tmp 3), none⟩,
⟨some 12, .move (.tmp 4), none⟩,
⟨some 13, .index 9 (.tmp 11) (.tmp 12), none⟩,
⟨some 14, .move (.tmp 0), none⟩,
⟨some 15, .binOp .eql 5 (.tmp 13) (.tmp 14) 5, none⟩]
def f65_r5 : List LOp := [
⟨some 2, .assign (.const (.bool true)), none⟩]
def f65_r6 : List LOp := [
⟨some 9, .move (.tmp 4), none⟩,
⟨some 10, .binOp .add 3 (.tmp 9) (.const (.int .i64 1)) 3, none⟩,
⟨some 4, .assign (.tmp 10), none⟩]
def f65_l7 : LC := (.seq (.seq (.reg f65_r3 [] none) (.cond (.tmp 8) .skip (.exit 0))) (.seq (.block 1 (.seq (.reg f65_r4 [] none) (.cond (.tmp 15) (.seq (.reg f65_r5 [] none) .ret) .skip))) (.reg f65_r6 [] none)))
def f65_i7 (t0 t3 t4 : D) : List D := [t0, .any, .any, t3, t4, .any, .any, .any, .any, .any, .any, .any, .any, .any, .any, .any, .any, .any, .any, .any, .any, .any]
def f65_r8 : List LOp := [
⟨some 16, .move (.tmp 0), none⟩,
⟨some 17, .binOp .lss 5 (.tmp 16) (.const (.int .u8 33)) 5, none⟩,
⟨some 18, .move (.tmp 17), none⟩,
⟨some 19, .move (.tmp 0), some (2, false)⟩,
⟨some 20, .binOp .gtr 5 (.tmp 19) (.const (.int .u8 126)) 5, some (2, false)⟩,
⟨some 21, .pick (.tmp 18) (.const (.bool true)) (.tmp 20), none⟩,
⟨some 2, .assign (.tmp 21), none⟩]
def f65_c : LC := (.seq (.reg f65_r0 [] none) (.seq (.reg f65_r1 [] none) (.seq (.seq (.reg f65_r2 [] none) (.block 0 (.loop f65_l7))) (.seq (.reg f65_r8 [] none) .ret))))
theorem f65_lc : Tryd.f65.body.map lc = some f65_c.st := by kernel_rfl
theorem f65_res : Tryd.f65.results.toList = [.tmp 2] := by kernel_rfl
theorem f65_nt : Tryd.f65.ntmps = 22 := by kernel_rfl
theorem f65_nm : (Tryd.f65.name == "runtime.NumGoroutine") = false := by kernel_rfl
/-! quill/quillref01.Hex -/
/-! quill/rex.Then -/
def f67_r0 : List LOp := [
⟨some 2, .alloc 27, none⟩]
def f67_r1 : List LOp := [
⟨some 3, .move (.tmp 0), none⟩,
⟨some 4, .call ⟨.value (.func 80), #[.const (.int .u8 4), .const (.int .u8 2), .tmp 3], #[5, 5, 25]⟩, none⟩,
⟨none, .store 27 (.tmp 2) (.tmp 4), none⟩]
def f67_c : LC := (.seq (.reg f67_r0 [] none) (.seq (.reg f67_r1 [] none) .ret))
theorem f67_lc : Tryd.f67.body.map lc = some f67_c.st := by kernel_rfl
theorem f67_res : Tryd.f67.results.toList = [.cell 2 27] := by kernel_rfl
theorem f67_nt : Tryd.f67.ntmps = 5 := by kernel_rfl
theorem f67_nm : (Tryd.f67.name == "runtime.NumGoroutine") = false := by kernel_rfl
/-! quill/set.Join -/
def f71_r0 : List LOp := [
⟨some 2, .alloc 24, none⟩]
def f71_r1 : List LOp := [
⟨some 3, .alloc 24, none⟩]
def f71_r2 : List LOp := [
⟨some 7, .move (.tmp 0), none⟩,
⟨some 8, .call ⟨.builtin .len, #[.tmp 7], #[111]⟩, none⟩,
⟨some 9, .move (.const (.int .i64 0)), none⟩]
def f71_r3 : List LOp := [
⟨some 10, .binOp .lss 3 (.tmp 9) (.tmp 8) 3, none⟩]
def f71_r4 : List LOp := [
⟨some 11, .indexAddr 111 (.tmp 7) (.tmp 9), none⟩,
⟨some 12, .load 24 (.tmp 11), none⟩,
⟨some 5, .alloc 24, none⟩,
⟨none, .store 24 (.tmp 5) (.tmp 12), none⟩]
def f71_r5 : List LOp := [
⟨some 13, .move (.const (.int .i64 0)), none⟩]
def f71_r6 : List LOp := [
⟨some 14, .binOp .lss 3 (.tmp 13) (.const (.int .i64 4)) 3, none⟩]
def f71_r7 : List LOp := [
⟨some 15, .move (.tmp 13), none⟩,
⟨some 6, .assign (.tmp 15), none⟩]
def f71_r8 : List LOp := [
⟨some 16, .move (.tmp 6), none⟩,
⟨some 17, .indexAddr 24 (.tmp 3) (.tmp 16), none⟩,
⟨some 18, .load 22 (.tmp 17), none⟩,
⟨some 19, .move (.tmp 6), none⟩,
⟨some 20, .indexAddr 24 (.tmp 5) (.tmp 19), none⟩,
⟨some 21, .load 22 (.tmp 20), none⟩,
⟨some 22, .binOp .or 22 (.tmp 18) (.tmp 21) 22, none⟩,
⟨some 23, .indexAddr 24 (.tmp 3) (.tmp 16), none⟩,
⟨none, .store 22 (.tmp 23) (.tmp 22), none⟩]
def f71_r9 : List LOp := [
⟨some 24, .binOp .add 3 (.tmp 13) (.const (.int .i64 1)) 3, none⟩,
⟨some 13, .move (.tmp 24), none⟩]
def f71_l10 : LC := (.seq (.reg f71_r6 [] none) (.seq (.cond (.tmp 14) .skip (.exit 2)) (.seq (.block 3 (.seq (.reg f71_r7 [] none) (.reg f71_r8 [] (some 6)))) (.reg f71_r9 [] none))))
def f71_i10 (t2 t3 t5 t7 t8 t9 t13 : D) : List D := [.any, .any, t2, t3, .any, t5, .any, t7, t8, t9, .any, .any, .any, t13, .any, .any, .any, .any, .any, .any, .any, .any, .any, .any, .any, .any, .any]
def f71_r11 : List LOp := [
⟨some 25, .binOp .add 3 (.tmp 9) (.const (.int .i64 1)) 3, none⟩,
⟨some 9, .move (.tmp 25), none⟩]
def f71_l12 : LC := (.seq (.reg f71_r3 [] none) (.seq (.cond (.tmp 10) .skip (.exit 0)) (.seq (.block 1 (.seq (.reg f71_r4 [] none) (.seq (.reg f71_r5 [] none) (.block 2 (.loop f71_l10))))) (.reg f71_r11 [] none))))
def f71_i12 (t2 t3 t7 t8 t9 : D) : List D := [.any, .any, t2, t3, .any, .any, .any, t7, t8, t9, .any, .any, .any, .any, .any, .any, .any, .any, .any, .any, .any, .any, .any, .any, .any, .any, .any]
def f71_r13 : List LOp := [
⟨some 26, .load 24 (.tmp 3), none⟩,
⟨none, .store 24 (.tmp 2) (.tmp 26), none⟩]
def f71_c : LC := (.seq (.reg f71_r0 [] none) (.seq (.reg f71_r1 [] none) (.seq (.seq (.reg f71_r2 [] none) (.block 0 (.loop f71_l12))) (.seq (.reg f71_r13 [] none) .ret))))
theorem f71_lc : Tryd.f71.body.map lc = some f71_c.st := by kernel_rfl
theorem f71_res : Tryd.f71.results.toList = [.cell 2 24] := by kernel_rfl
theorem f71_nt : Tryd.f71.ntmps = 27 := by kernel_rfl
theorem f71_nm : (Tryd.f71.name == "runtime.NumGoroutine") = false := by kernel_rfl
/-! quill/rex.Of -/
def f72_r0 : List LOp := [
⟨some 1, .box 24 (.tmp 0), none⟩,
⟨some 2, .alloc 27, none⟩]
def f72_r1 : List LOp := [
⟨some 3, .load 24 (.tmp 1), none⟩,
⟨some 4, .build 24 #[], none⟩,
⟨some 5, .binOp .eql 24 (.tmp 3) (.tmp 4) 24, none⟩]
def f72_r2 : List LOp := [
⟨some 6, .build 27 #[(0, .const (.int .u8 1))], none⟩,
⟨none, .store 27 (.tmp 2) (.tmp 6), none⟩]
def f72_r3 : List LOp := [
⟨some 7, .load 24 (.tmp 1), none⟩,
⟨some 8, .build 27 #[(0, .const (.int .u8 3)), (1, .tmp 7)], none⟩,
⟨none, .store 27 (.tmp 2) (.tmp 8), none⟩]
def f72_c : LC := (.seq (.reg f72_r0 [] none) (.seq (.seq (.reg f72_r1 [] none) (.cond (.tmp 5) (.seq (.reg f72_r2 [] none) .ret) .skip)) (.seq (.reg f72_r3 [] none) .ret)))
theorem f72_lc : Tryd.f72.body.map lc = some f72_c.st := by kernel_rfl
theorem f72_res : Tryd.f72.results.toList = [.cell 2 27] := by kernel_rfl
theorem f72_nt : Tryd.f72.ntmps = 9 := by kernel_rfl
theorem f72_nm : (Tryd.f72.name == "runtime.NumGoroutine") = false := by kernel_rfl
/-! quill/rex.Many -/
def f75_r0 : List LOp := [
⟨some 1, .box 27 (.tmp 0), none⟩,
⟨some 2, .alloc 27, none⟩]
def f75_r1 : List LOp := [
⟨some 3, .load 27 (.tmp 1), none⟩,
⟨some 4, .buildSlice 25 1 #[(0, .tmp 3)], none⟩,
⟨some 5, .build 27 #[(0, .const (.int .u8 6)), (2, .tmp 4)], none⟩,
⟨none, .store 27 (.tmp 2) (.tmp 5), none⟩]
def f75_c : LC := (.seq (.reg f75_r0 [] none) (.seq (.reg f75_r1 [] none) .ret))
theorem f75_lc : Tryd.f75.body.map lc = some f75_c.st := by kernel_rfl
theorem f75_res : Tryd.f75.results.toList = [.cell 2 27] := by kernel_rfl
theorem f75_nt : Tryd.f75.ntmps = 6 := by kernel_rfl
theorem f75_nm : (Tryd.f75.name == "runtime.NumGoroutine") = false := by kernel_rfl
/-! (*quill/read.reader).part -/
def f77_r0 : List LOp := [
⟨some 2, .alloc 27, none⟩]
def f77_r1 : List LOp := [
⟨some 4, .move (.tmp 0), none⟩,
⟨some 5, .call ⟨.value (.func 90), #[.tmp 4], #[47]⟩, none⟩,
⟨some 3, .alloc 27, none⟩,
⟨none, .store 27 (.tmp 3) (.tmp 5), none⟩]
def f77_r2 : List LOp := [
⟨some 6, .move (.tmp 0), none⟩,
⟨some 7, .call ⟨.value (.func 55), #[.tmp 6, .const (.string { data := #[42] })], #[47, 9]⟩, none⟩]
def f77_r3 : List LOp := [
⟨some 8, .move (.tmp 0), none⟩,
⟨some 9, .nilCheck (.tmp 8), none⟩,
⟨some 10, .fieldAddr 49 (.tmp 9) 1, none⟩,
⟨some 11, .load 3 (.tmp 10), none⟩,
⟨some 12, .binOp .add 3 (.tmp 11) (.const (.int .i64 1)) 3, none⟩,
⟨some 13, .nilCheck (.tmp 8), none⟩,
⟨some 14, .fieldAddr 49 (.tmp 13) 1, none⟩,
⟨none, .store 3 (.tmp 14) (.tmp 12), none⟩]
def f77_r4 : List LOp := [
⟨some 15, .load 27 (.tmp 3), none⟩,
⟨some 16, .call ⟨.value (.func 75), #[.tmp 15], #[27]⟩, none⟩,
⟨none, .store 27 (.tmp 3) (.tmp 16), none⟩]
def f77_l5 : LC := (.seq (.seq (.reg f77_r2 [] none) (.cond (.tmp 7) .skip (.exit 0))) (.block 1 (.seq (.reg f77_r3 [] none) (.reg f77_r4 [] none))))
def f77_i5 (t0 t2 t3 : D) : List D := [t0, .any, t2, t3, .any, .any, .any, .any, .any, .any, .any, .any, .any, .any, .any, .any, .any, .any]
def f77_r6 : List LOp := [
⟨some 17, .load 27 (.tmp 3), none⟩,
⟨none, .store 27 (.tmp 2) (.tmp 17), none⟩]
def f77_c : LC := (.seq (.reg f77_r0 [] none) (.seq (.reg f77_r1 [] none) (.seq (.block 0 (.loop f77_l5)) (.seq (.reg f77_r6 [] none) .ret))))
theorem f77_lc : Tryd.f77.body.map lc = some f77_c.st := by kernel_rfl
theorem f77_res : Tryd.f77.results.toList = [.cell 2 27] := by kernel_rfl
theorem f77_nt : Tryd.f77.ntmps = 18 := by kernel_rfl
theorem f77_nm : (Tryd.f77.name == "runtime.NumGoroutine") = false := by kernel_rfl
/-! (*quill/read.reader).begins -/
def f78_r0 : List LOp := [
⟨some 2, .assign (.const (.bool false)), none⟩]
def f78_r1 : List LOp := [
⟨some 3, .move (.tmp 0), none⟩,
⟨some 4, .call ⟨.value (.func 55), #[.tmp 3, .const (.string { data := #[92] })], #[47, 9]⟩, none⟩,
⟨some 5, .move (.tmp 4), none⟩,
⟨some 6, .move (.tmp 0), some (2, false)⟩,
⟨some 7, .nilCheck (.tmp 6), some (2, false)⟩,
⟨some 8, .fieldAddr 49 (.tmp 7) 1, some (2, false)⟩,
⟨some 9, .load 3 (.tmp 8), some (2, false)⟩,
⟨some 10, .move (.tmp 0), some (2, false)⟩,
⟨some 11, .nilCheck (.tmp 10), some (2, false)⟩,
⟨some 12, .fieldAddr 49 (.tmp 11) 0, some (2, false)⟩,
⟨some 13, .load 9 (.tmp 12), some (2, false)⟩,
⟨some 14, .call ⟨.builtin .len, #[.tmp 13], #[9]⟩, some (2, false)⟩,
⟨some 15, .binOp .lss 3 (.tmp 9) (.tmp 14) 3, some (2, false)⟩,
⟨some 16, .move (.tmp 15), some (2, false)⟩,
⟨some 17, .move (.tmp 0), some (13, true)⟩,
⟨some 18, .nilCheck (.tmp 17), some (13, true)⟩,
⟨some 19, .fieldAddr 49 (.tmp 18) 0, some (13, true)⟩,
⟨some 20, .load 9 (.tmp 19), some (13, true)⟩,
⟨some 21, .move (.tmp 0), some (13, true)⟩,
⟨some 22, .nilCheck (.tmp 21), some (13, true)⟩,
⟨some 23, .fieldAddr 49 (.tmp 22) 1, some (13, true)⟩,
⟨some 24, .load 3 (.tmp 23), some (13, true)⟩,
⟨some 25, .index 9 (.tmp 20) (.tmp 24), some (13, true)⟩,
⟨some 26, .call ⟨.value (.func 64), #[.tmp 25], #[5]⟩, some (13, true)⟩,
⟨some 27, .move (.tmp 0), some (13, true)⟩,
⟨some 28, .nilCheck (.tmp 27), some (13, true)⟩,
⟨some 29, .fieldAddr 49 (.tmp 28) 0, some (13, true)⟩,
⟨some 30, .load 9 (.tmp 29), some (13, true)⟩,
⟨some 31, .move (.tmp 0), some (13, true)⟩,
⟨some 32, .nilCheck (.tmp 31), some (13, true)⟩,
⟨some 33, .fieldAddr 49 (.tmp 32) 1, some (13, true)⟩,
⟨some 34, .load 3 (.tmp 33), some (13, true)⟩,
⟨some 35, .move (.tmp 0), some (13, true)⟩,
⟨some 36, .nilCheck (.tmp 35), some (13, true)⟩,
⟨some 37, .fieldAddr 49 (.tmp 36) 1, some (13, true)⟩,
⟨some 38, .load 3 (.tmp 37), some (13, true)⟩,
⟨some 39, .binOp .add 3 (.tmp 38) (.const (.int .i64 1)) 3, some (13, true)⟩,
⟨some 40, .slice 9 (.tmp 30) (some (.tmp 34)) (some (.tmp 39)) none, some (13, true)⟩,
⟨some 41, .binOp .eql 9 (.tmp 26) (.tmp 40) 9, some (13, true)⟩,
⟨some 42, .pick (.tmp 16) (.tmp 41) (.const (.bool false)), some (2, false)⟩,
⟨some 43, .pick (.tmp 5) (.const (.bool true)) (.tmp 42), none⟩,
⟨some 2, .assign (.tmp 43), none⟩]
def f78_c : LC := (.seq (.reg f78_r0 [] none) (.seq (.reg f78_r1 [] (some 41)) .ret))
theorem f78_lc : Tryd.f78.body.map lc = some f78_c.st := by kernel_rfl
theorem f78_res : Tryd.f78.results.toList = [.tmp 2] := by kernel_rfl
theorem f78_nt : Tryd.f78.ntmps = 44 := by kernel_rfl
theorem f78_nm : (Tryd.f78.name == "runtime.NumGoroutine") = false := by kernel_rfl
/-! strings.IndexByte -/
def f79_r0 : List LOp := [
⟨some 4, .assign (.const (.int .i64 0)), none⟩]
def f79_r1 : List LOp := [
⟨some 5, .move (.tmp 0), none⟩,
⟨some 6, .move (.tmp 1), none⟩,
⟨some 7, .call ⟨.value (.func 91), #[.tmp 5, .tmp 6], #[9, 5]⟩, none⟩,
⟨some 4, .assign (.tmp 7), none⟩]
def f79_c : LC := (.seq (.reg f79_r0 [] none) (.seq (.reg f79_r1 [] none) .ret))
theorem f79_lc : Tryd.f79.body.map lc = some f79_c.st := by kernel_rfl
theorem f79_res : Tryd.f79.results.toList = [.tmp 4] := by kernel_rfl
theorem f79_nt : Tryd.f79.ntmps = 8 := by kernel_rfl
theorem f79_nm : (Tryd.f79.name == "runtime.NumGoroutine") = false := by kernel_rfl
/-! quill/rex.fold -/
def f80_r0 : List LOp := [
⟨some 3, .box 5 (.tmp 0), none⟩,
⟨some 6, .alloc 27, none⟩]
def f80_r1 : List LOp := [
⟨some 10, .move (.tmp 2), none⟩,
⟨some 11, .call ⟨.builtin .len, #[.tmp 10], #[25]⟩, none⟩,
⟨some 12, .binOp .eql 3 (.tmp 11) (.const (.int .i64 0)) 3, none⟩]
def f80_r2 : List LOp := [
⟨some 13, .move (.tmp 1), none⟩,
⟨some 14, .build 27 #[(0, .tmp 13)], none⟩,
⟨none, .store 27 (.tmp 6) (.tmp 14), none⟩]
def f80_r3 : List LOp := [
⟨some 15, .move (.tmp 2), none⟩,
⟨some 16, .move (.tmp 2), none⟩,
⟨some 17, .call ⟨.builtin .len, #[.tmp 16], #[25]⟩, none⟩,
⟨some 18, .binOp .sub 3 (.tmp 17) (.const (.int .i64 1)) 3, none⟩,
⟨some 19, .indexAddr 25 (.tmp 15) (.tmp 18), none⟩,
⟨some 20, .load 27 (.tmp 19), none⟩,
⟨some 7, .alloc 27, none⟩,
⟨none, .store 27 (.tmp 7) (.tmp 20), none⟩]
def f80_r4 : List LOp := [
⟨some 21, .move (.tmp 2), none⟩,
⟨some 22, .move (.tmp 2), none⟩,
⟨some 23, .call ⟨.builtin .len, #[.tmp 22], #[25]⟩, none⟩,
⟨some 24, .binOp .sub 3 (.tmp 23) (.const (.int .i64 1)) 3, none⟩,
⟨some 25, .slice 25 (.tmp 21) none (some (.tmp 24)) none, none⟩,
⟨some 26, .call ⟨.value (.func 92), #[.tmp 25], #[25]⟩, none⟩]
def f80_r5 : List LOp := [
⟨some 9, .alloc 27, none⟩,
⟨none, .store 27 (.tmp 9) (.tmp 28), none⟩]
def f80_r6 : List LOp := [
⟨some 29, .load 5 (.tmp 3), none⟩,
⟨some 30, .load 27 (.tmp 9), none⟩,
⟨some 31, .load 27 (.tmp 7), none⟩,
⟨some 32, .buildSlice 25 2 #[(0, .tmp 30), (1, .tmp 31)], none⟩,
⟨some 33, .build 27 #[(0, .tmp 29), (2, .tmp 32)], none⟩,
⟨none, .store 27 (.tmp 7) (.tmp 33), none⟩]
def f80_a7 : LC := (.reg f80_r5 [] none)
def f80_b7 : LC := (.block 1 (.reg f80_r6 [] none))
def f80_r8 : List LOp := [
⟨some 34, .load 27 (.tmp 7), none⟩,
⟨none, .store 27 (.tmp 6) (.tmp 34), none⟩]
def f80_c : LC := (.seq (.reg f80_r0 [] none) (.seq (.seq (.reg f80_r1 [] none) (.cond (.tmp 12) (.seq (.reg f80_r2 [] none) .ret) .skip)) (.seq (.reg f80_r3 [] none) (.seq (.seq (.reg f80_r4 [] none) (.block 0 (.rfun (.tmp 26) [27, 28] f80_a7 f80_b7))) (.seq (.reg f80_r8 [] none) .ret)))))
theorem f80_lc : Tryd.f80.body.map lc = some f80_c.st := by kernel_rfl
theorem f80_res : Tryd.f80.results.toList = [.cell 6 27] := by kernel_rfl
theorem f80_nt : Tryd.f80.ntmps = 35 := by kernel_rfl
theorem f80_nm : (Tryd.f80.name == "runtime.NumGoroutine") = false := by kernel_rfl
/-! math/bits.TrailingZeros64 -/
def f82_r0 : List LOp := [
⟨some 2, .assign (.const (.int .i64 0)), none⟩]
def f82_r1 : List LOp := [
⟨some 3, .move (.tmp 0), none⟩,
⟨some 4, .binOp .eql 22 (.tmp 3) (.const (.int .u64 0)) 22, none⟩]
def f82_r2 : List LOp := [
⟨some 2, .assign (.const (.int .i64 64)), none⟩]
def f82_r3 : List LOp := [
⟨some 5, .move (.tmp 0), none⟩,
⟨some 6, .move (.tmp 0), none⟩,
⟨some 7, .unOp .neg 22 (.tmp 6), none⟩,
⟨some 8, .binOp .and 22 (.tmp 5) (.tmp 7) 22, none⟩,
⟨some 9, .binOp .mul 22 (.tmp 8) (.const (.int .u64 285870213051353865)) 22, none⟩,
⟨some 10, .binOp .shr 22 (.tmp 9) (.const (.int .u64 58)) 122, none⟩,
⟨some 11, .indexAddr 121 (.global 0) (.tmp 10), none⟩,
⟨some 12, .load 5 (.tmp 11), none⟩,
⟨some 13, .convert 5 3 (.tmp 12), none⟩,
⟨some 2, .assign (.tmp 13), none⟩]
def f82_c : LC := (.seq (.reg f82_r0 [] none) (.seq (.seq (.reg f82_r1 [] none) (.cond (.tmp 4) (.seq (.reg f82_r2 [] none) .ret) .skip)) (.seq (.reg f82_r3 [] none) .ret)))
theorem f82_lc : Tryd.f82.body.map lc = some f82_c.st := by kernel_rfl
theorem f82_res : Tryd.f82.results.toList = [.tmp 2] := by kernel_rfl
theorem f82_nt : Tryd.f82.ntmps = 14 := by kernel_rfl
theorem f82_nm : (Tryd.f82.name == "runtime.NumGoroutine") = false := by kernel_rfl
/-! quill/num.Hex -/
def f83_r0 : List LOp := [
⟨some 2, .assign (.const (.string { data := #[] })), none⟩]
def f83_r1 : List LOp := [
⟨some 6, .move (.tmp 0), none⟩,
⟨some 7, .call ⟨.builtin .len, #[.tmp 6], #[54]⟩, none⟩,
⟨some 8, .binOp .mul 3 (.const (.int .i64 2)) (.tmp 7) 3, none⟩,
⟨some 9, .makeSlice 54 (.const (.int .i64 0)) (.tmp 8), none⟩,
⟨some 3, .assign (.tmp 9), none⟩]
def f83_r2 : List LOp := [
⟨some 10, .move (.tmp 0), none⟩,
⟨some 11, .call ⟨.builtin .len, #[.tmp 10], #[54]⟩, none⟩,
⟨some 12, .move (.const (.int .i64 0)), none⟩]
def f83_r3 : List LOp := [
⟨some 13, .binOp .lss 3 (.tmp 12) (.tmp 11) 3, none⟩]
def f83_r4 : List LOp := [
⟨some 14, .indexAddr 54 (.tmp 10) (.tmp 12), none⟩,
⟨some 15, .load 5 (.tmp 14), none⟩,
⟨some 5, .assign (.tmp 15), none⟩]
def f83_r5 : List LOp := [
⟨some 16, .move (.tmp 3), none⟩,
⟨some 17, .move (.tmp 5), none⟩,
⟨some 18, .binOp .shr 5 (.tmp 17) (.const (.int .u64 4)) 122, none⟩,
⟨some 19, .call ⟨.value (.func 93), #[.tmp 18], #[5]⟩, none⟩,
⟨some 20, .move (.tmp 5), none⟩,
⟨some 21, .call ⟨.value (.func 93), #[.tmp 20], #[5]⟩, none⟩,
⟨some 22, .buildSlice 54 2 #[(0, .tmp 19), (1, .tmp 21)], none⟩,
⟨some 23, .call ⟨.builtin .append, #[.tmp 16, .tmp 22], #[54, 54]⟩, none⟩,
⟨some 3, .assign (.tmp 23), none⟩]
def f83_r6 : List LOp := [
⟨some 24, .binOp .add 3 (.tmp 12) (.const (.int .i64 1)) 3, none⟩,
⟨some 12, .move (.tmp 24), none⟩]
def f83_l7 : LC := (.seq (.reg f83_r3 [] none) (.seq (.cond (.tmp 13) .skip (.exit 0)) (.seq (.block 1 (.seq (.reg f83_r4 [] none) (.reg f83_r5 [] none))) (.reg f83_r6 [] none))))
def f83_i7 (t3 t10 t11 t12 : D) : List D := [.any, .any, .any, t3, .any, .any, .any, .any, .any, .any, t10, t11, t12, .any, .any, .any, .any, .any, .any, .any, .any, .any, .any, .any, .any, .any, .any]
def f83_r8 : List LOp := [
⟨some 25, .move (.tmp 3), none⟩,
⟨some 26, .convert 54 9 (.tmp 25), none⟩,
⟨some 2, .assign (.tmp 26), none⟩]
def f83_c : LC := (.seq (.reg f83_r0 [] none) (.seq (.reg f83_r1 [3] none) (.seq (.seq (.reg f83_r2 [] none) (.block 0 (.loop f83_l7))) (.seq (.reg f83_r8 [] none) .ret))))
theorem f83_lc : Tryd.f83.body.map lc = some f83_c.st := by kernel_rfl
theorem f83_res : Tryd.f83.results.toList = [.tmp 2] := by kernel_rfl
theorem f83_nt : Tryd.f83.ntmps = 27 := by kernel_rfl
theorem f83_nm : (Tryd.f83.name == "runtime.NumGoroutine") = false := by kernel_rfl
/-! quill/quillref01.Digit -/
/-! (*quill/read.reader).atom -/
def f90_r0 : List LOp := [
⟨some 2, .alloc 27, none⟩]
def f90_r1 : List LOp := [
⟨some 5, .move (.tmp 0), none⟩,
⟨some 6, .call ⟨.value (.func 55), #[.tmp 5, .const (.string { data := #[46] })], #[47, 9]⟩, none⟩,
⟨some 4, .assign (.tmp 6), none⟩]
def f90_r2 : List LOp := [
⟨some 7, .move (.tmp 0), none⟩,
⟨some 8, .nilCheck (.tmp 7), none⟩,
⟨some 9, .fieldAddr 49 (.tmp 8) 1, none⟩,
⟨some 10, .load 3 (.tmp 9), none⟩,
⟨some 11, .binOp .add 3 (.tmp 10) (.const (.int .i64 1)) 3, none⟩,
⟨some 12, .nilCheck (.tmp 7), none⟩,
⟨some 13, .fieldAddr 49 (.tmp 12) 1, none⟩,
⟨none, .store 3 (.tmp 13) (.tmp 11), none⟩]
def f90_r3 : List LOp := [
⟨some 14, .call ⟨.value (.func 102), #[.const (.int .u8 0), .const (.int .u8 255)], #[5, 5]⟩, none⟩,
⟨some 15, .call ⟨.value (.func 72), #[.tmp 14], #[24]⟩, none⟩,
⟨none, .store 27 (.tmp 2) (.tmp 15), none⟩]
def f90_r4 : List LOp := [
⟨some 17, .move (.tmp 0), none⟩,
⟨some 18, .call ⟨.value (.func 55), #[.tmp 17, .const (.string { data := #[91] })], #[47, 9]⟩, none⟩,
⟨some 16, .assign (.tmp 18), none⟩]
def f90_r5 : List LOp := [
⟨some 19, .move (.tmp 0), none⟩,
⟨some 20, .nilCheck (.tmp 19), none⟩,
⟨some 21, .fieldAddr 49 (.tmp 20) 1, none⟩,
⟨some 22, .load 3 (.tmp 21), none⟩,
⟨some 23, .binOp .add 3 (.tmp 22) (.const (.int .i64 1)) 3, none⟩,
⟨some 24, .nilCheck (.tmp 19), none⟩,
⟨some 25, .fieldAddr 49 (.tmp 24) 1, none⟩,
⟨none, .store 3 (.tmp 25) (.tmp 23), none⟩]
def f90_r6 : List LOp := [
⟨some 26, .move (.tmp 0), none⟩,
⟨some 27, .call ⟨.value (.func 103), #[.tmp 26], #[47]⟩, none⟩,
⟨none, .store 27 (.tmp 2) (.tmp 27), none⟩]
def f90_r7 : List LOp := [
⟨some 29, .move (.tmp 0), none⟩,
⟨some 30, .call ⟨.value (.func 55), #[.tmp 29, .const (.string { data := #[40] })], #[47, 9]⟩, none⟩,
⟨some 28, .assign (.tmp 30), none⟩]
def f90_r8 : List LOp := [
⟨some 31, .move (.tmp 0), none⟩,
⟨some 32, .nilCheck (.tmp 31), none⟩,
⟨some 33, .fieldAddr 49 (.tmp 32) 1, none⟩,
⟨some 34, .load 3 (.tmp 33), none⟩,
⟨some 35, .binOp .add 3 (.tmp 34) (.const (.int .i64 1)) 3, none⟩,
⟨some 36, .nilCheck (.tmp 31), none⟩,
⟨some 37, .fieldAddr 49 (.tmp 36) 1, none⟩,
⟨none, .store 3 (.tmp 37) (.tmp 35), none⟩]
def f90_r9 : List LOp := [
⟨some 38, .move (.tmp 0), none⟩,
⟨some 39, .call ⟨.value (.func 55), #[.tmp 38, .const (.string { data := #[41] })], #[47, 9]⟩, none⟩]
def f90_r10 : List LOp := [
⟨some 40, .move (.tmp 0), none⟩,
⟨some 41, .nilCheck (.tmp 40), none⟩,
⟨some 42, .fieldAddr 49 (.tmp 41) 1, none⟩,
⟨some 43, .load 3 (.tmp 42), none⟩,
⟨some 44, .binOp .add 3 (.tmp 43) (.const (.int .i64 1)) 3, none⟩,
⟨some 45, .nilCheck (.tmp 40), none⟩,
⟨some 46, .fieldAddr 49 (.tmp 45) 1, none⟩,
⟨none, .store 3 (.tmp 46) (.tmp 44), none⟩]
def f90_r11 : List LOp := [
⟨some 47, .call ⟨.value (.func 67), #[.const (.slice none 0 0)], #[25]⟩, none⟩,
⟨none, .store 27 (.tmp 2) (.tmp 47), none⟩]
def f90_r12 : List LOp := [
⟨some 48, .move (.tmp 0), none⟩,
⟨some 49, .call ⟨.value (.func 35), #[.tmp 48], #[47]⟩, none⟩,
⟨some 3, .alloc 27, none⟩,
⟨none, .store 27 (.tmp 3) (.tmp 49), none⟩]
def f90_r13 : List LOp := [
⟨some 50, .move (.tmp 0), none⟩,
⟨some 51, .call ⟨.value (.func 104), #[.tmp 50, .const (.string { data := #[41] })], #[47, 9]⟩, none⟩]
def f90_r14 : List LOp := [
⟨some 52, .load 27 (.tmp 3), none⟩,
⟨none, .store 27 (.tmp 2) (.tmp 52), none⟩]
def f90_r15 : List LOp := [
⟨some 53, .move (.tmp 0), none⟩,
⟨some 54, .call ⟨.value (.func 106), #[.tmp 53], #[47]⟩, none⟩,
⟨some 55, .buildSlice 54 1 #[(0, .tmp 54)], none⟩,
⟨some 56, .call ⟨.value (.func 105), #[.tmp 55], #[54]⟩, none⟩,
⟨some 57, .call ⟨.value (.func 72), #[.tmp 56], #[24]⟩, none⟩,
⟨none, .store 27 (.tmp 2) (.tmp 57), none⟩]
def f90_c : LC := (.seq (.reg f90_r0 [] none) (.seq (.block 0 (.seq (.reg f90_r1 [] none) (.cond (.tmp 4) (.seq (.reg f90_r2 [] none) (.seq (.reg f90_r3 [] none) .ret)) (.seq (.reg f90_r4 [] none) (.cond (.tmp 16) (.seq (.reg f90_r5 [] none) (.seq (.reg f90_r6 [] none) .ret)) (.seq (.reg f90_r7 [] none) (.cond (.tmp 28) (.seq (.reg f90_r8 [] none) (.seq (.seq (.reg f90_r9 [] none) (.cond (.tmp 39) (.seq (.reg f90_r10 [] none) (.seq (.reg f90_r11 [] none) .ret)) .skip)) (.seq (.reg f90_r12 [] none) (.seq (.reg f90_r13 [] none) (.seq (.reg f90_r14 [] none) .ret))))) .skip))))))) (.seq (.reg f90_r15 [] none) .ret)))
theorem f90_lc : Tryd.f90.body.map lc = some f90_c.st := by kernel_rfl
theorem f90_res : Tryd.f90.results.toList = [.cell 2 27] := by kernel_rfl
theorem f90_nt : Tryd.f90.ntmps = 58 := by kernel_rfl
theorem f90_nm : (Tryd.f90.name == "runtime.NumGoroutine") = false := by kernel_rfl
/-! internal/stringslite.IndexByte -/
/-! slices.Backward[[]quill/api.Re,quill/api.Re] -/
def f92_r0 : List LOp := [
⟨some 1, .box 25 (.tmp 0), none⟩,
⟨some 2, .assign (.const .nilFunc), none⟩]
def f92_r1 : List LOp := [
⟨some 3, .makeFunc (.func 108) #[] #[.tmp 1], none⟩,
⟨some 2, .assign (.tmp 3), none⟩]
def f92_c : LC := (.seq (.reg f92_r0 [] none) (.seq (.reg f92_r1 [] none) .ret))
theorem f92_lc : Tryd.f92.body.map lc = some f92_c.st := by kernel_rfl
theorem f92_res : Tryd.f92.results.toList = [.tmp 2] := by kernel_rfl
theorem f92_nt : Tryd.f92.ntmps = 4 := by kernel_rfl
theorem f92_nm : (Tryd.f92.name == "runtime.NumGoroutine") = false := by kernel_rfl
/-! quill/num.digit -/
def f93_r0 : List LOp := [
⟨some 2, .assign (.const (.int .u8 0)), none⟩]
def f93_r1 : List LOp := [
⟨some 3, .move (.tmp 0), none⟩,
⟨some 4, .binOp .and 5 (.tmp 3) (.const (.int .u8 15)) 5, none⟩,
⟨some 5, .index 9 (.const (.string { data := #[48, 49, 50, 51, 52, 53, 54, 55, 56, 57, 97, 98, 99, 100, 101, 102] })) (.tmp 4), none⟩,
⟨some 2, .assign (.tmp 5), none⟩]
def f93_c : LC := (.seq (.reg f93_r0 [] none) (.seq (.reg f93_r1 [] none) .ret))
theorem f93_lc : Tryd.f93.body.map lc = some f93_c.st := by kernel_rfl
theorem f93_res : Tryd.f93.results.toList = [.tmp 2] := by kernel_rfl
theorem f93_nt : Tryd.f93.ntmps = 6 := by kernel_rfl
theorem f93_nm : (Tryd.f93.name == "runtime.NumGoroutine") = false := by kernel_rfl
/-! quill/set.Range -/
def f102_r0 : List LOp := [
⟨some 4, .alloc 24, none⟩]
def f102_r1 : List LOp := [
⟨some 5, .alloc 24, none⟩]
def f102_r2 : List LOp := [
⟨some 7, .move (.tmp 0), none⟩,
⟨some 8, .convert 5 3 (.tmp 7), none⟩,
⟨some 6, .assign (.tmp 8), none⟩]
def f102_r3 : List LOp := [
⟨some 9, .move (.tmp 6), none⟩,
⟨some 10, .move (.tmp 1), none⟩,
⟨some 11, .convert 5 3 (.tmp 10), none⟩,
⟨some 12, .binOp .leq 3 (.tmp 9) (.tmp 11) 3, none⟩]
def f102_r4 : List LOp := [
⟨some 15, .move (.tmp 6), none⟩,
⟨some 16, .binOp .quo 3 (.tmp 15) (.const (.int .i64 64)) 3, none⟩,
⟨some 17, .indexAddr 24 (.tmp 5) (.tmp 16), none⟩,
⟨some 18, .load 22 (.tmp 17), none⟩,
⟨some 19, .move (.tmp 6), none⟩,
⟨some 20, .binOp .rem 3 (.tmp 19) (.const (.int .i64 64)) 3, none⟩,
⟨some 21, .binOp .shl 22 (.const (.int .u64 1)) (.tmp 20) 3, none⟩,
⟨some 22, .binOp .or 22 (.tmp 18) (.tmp 21) 22, none⟩,
⟨some 23, .indexAddr 24 (.tmp 5) (.tmp 16), none⟩,
⟨none, .store 22 (.tmp 23) (.tmp 22), none⟩]
def f102_r5 : List LOp := [
⟨some 13, .move (.tmp 6), none⟩,
⟨some 14, .binOp .add 3 (.tmp 13) (.const (.int .i64 1)) 3, none⟩,
⟨some 6, .assign (.tmp 14), none⟩]
def f102_l6 : LC := (.seq (.seq (.reg f102_r3 [] none) (.cond (.tmp 12) .skip (.exit 0))) (.seq (.block 1 (.reg f102_r4 [] (some 7))) (.reg f102_r5 [] none)))
def f102_i6 (t1 t4 t5 t6 : D) : List D := [.any, t1, .any, .any, t4, t5, t6, .any, .any, .any, .any, .any, .any, .any, .any, .any, .any, .any, .any, .any, .any, .any, .any, .any, .any]
def f102_r7 : List LOp := [
⟨some 24, .load 24 (.tmp 5), none⟩,
⟨none, .store 24 (.tmp 4) (.tmp 24), none⟩]
def f102_c : LC := (.seq (.reg f102_r0 [] none) (.seq (.reg f102_r1 [] none) (.seq (.seq (.reg f102_r2 [] none) (.block 0 (.loop f102_l6))) (.seq (.reg f102_r7 [] none) .ret))))
theorem f102_lc : Tryd.f102.body.map lc = some f102_c.st := by kernel_rfl
theorem f102_res : Tryd.f102.results.toList = [.cell 4 24] := by kernel_rfl
theorem f102_nt : Tryd.f102.ntmps = 25 := by kernel_rfl
theorem f102_nm : (Tryd.f102.name == "runtime.NumGoroutine") = false := by kernel_rfl
/-! (*quill/read.reader).class -/
def f103_r0 : List LOp := [
⟨some 2, .alloc 27, none⟩]
def f103_r1 : List LOp := [
⟨some 3, .alloc 24, none⟩]
def f103_r2 : List LOp := [
⟨some 7, .move (.tmp 0), none⟩,
⟨some 8, .call ⟨.value (.func 55), #[.tmp 7, .const (.string { data := #[93] })], #[47, 9]⟩, none⟩,
⟨some 9, .unOp .not 4 (.tmp 8), none⟩]
def f103_r3 : List LOp := [
⟨some 10, .move (.tmp 0), none⟩,
⟨some 11, .call ⟨.value (.func 106), #[.tmp 10], #[47]⟩, none⟩,
⟨some 4, .assign (.tmp 11), none⟩]
def f103_r4 : List LOp := [
⟨some 12, .move (.tmp 4), none⟩,
⟨some 5, .assign (.tmp 12), none⟩]
def f103_r5 : List LOp := [
⟨some 13, .move (.tmp 0), none⟩,
⟨some 14, .call ⟨.value (.func 55), #[.tmp 13, .const (.string { data := #[45] })], #[47, 9]⟩, none⟩]
def f103_r6 : List LOp := [
⟨some 15, .move (.tmp 0), none⟩,
⟨some 16, .nilCheck (.tmp 15), none⟩,
⟨some 17, .fieldAddr 49 (.tmp 16) 1, none⟩,
⟨some 18, .load 3 (.tmp 17), none⟩,
⟨some 19, .binOp .add 3 (.tmp 18) (.const (.int .i64 1)) 3, none⟩,
⟨some 20, .nilCheck (.tmp 15), none⟩,
⟨some 21, .fieldAddr 49 (.tmp 20) 1, none⟩,
⟨none, .store 3 (.tmp 21) (.tmp 19), none⟩]
def f103_r7 : List LOp := [
⟨some 22, .move (.tmp 0), none⟩,
⟨some 23, .nilCheck (.tmp 22), none⟩,
⟨some 24, .fieldAddr 49 (.tmp 23) 1, none⟩,
⟨some 25, .load 3 (.tmp 24), none⟩,
⟨some 6, .assign (.tmp 25), none⟩]
def f103_r8 : List LOp := [
⟨some 26, .move (.tmp 0), none⟩,
⟨some 27, .call ⟨.value (.func 106), #[.tmp 26], #[47]⟩, none⟩,
⟨some 5, .assign (.tmp 27), none⟩]
def f103_r9 : List LOp := [
⟨some 28, .move (.tmp 5), none⟩,
⟨some 29, .move (.tmp 4), none⟩,
⟨some 30, .binOp .lss 5 (.tmp 28) (.tmp 29) 5, none⟩]
def f103_r10 : List LOp := [
⟨some 31, .move (.tmp 6), none⟩,
⟨some 32, .build 73 #[(0, .tmp 31)], none⟩,
⟨some 33, .makeInterface 73 (.tmp 32), none⟩,
⟨none, .panic (.tmp 33), none⟩]
def f103_r11 : List LOp := [
⟨some 34, .load 24 (.tmp 3), none⟩,
⟨some 35, .move (.tmp 4), none⟩,
⟨some 36, .move (.tmp 5), none⟩,
⟨some 37, .call ⟨.value (.func 102), #[.tmp 35, .tmp 36], #[5, 5]⟩, none⟩,
⟨some 38, .buildSlice 111 2 #[(0, .tmp 34), (1, .tmp 37)], none⟩,
⟨some 39, .call ⟨.value (.func 71), #[.tmp 38], #[111]⟩, none⟩,
⟨none, .store 24 (.tmp 3) (.tmp 39), none⟩]
def f103_l12 : LC := (.seq (.seq (.reg f103_r2 [] none) (.cond (.tmp 9) .skip (.exit 0))) (.block 1 (.seq (.reg f103_r3 [] none) (.seq (.reg f103_r4 [] none) (.seq (.seq (.reg f103_r5 [] none) (.cond (.tmp 14) (.seq (.reg f103_r6 [] none) (.seq (.reg f103_r7 [] none) (.seq (.reg f103_r8 [] none) (.seq (.reg f103_r9 [] none) (.cond (.tmp 30) (.reg f103_r10 [] none) .skip))))) .skip)) (.reg f103_r11 [] (some 4)))))))
def f103_i12 (t0 t2 t3 : D) : List D := [t0, .any, t2, t3, .any, .any, .any, .any, .any, .any, .any, .any, .any, .any, .any, .any, .any, .any, .any, .any, .any, .any, .any, .any, .any, .any, .any, .any, .any, .any, .any, .any, .any, .any, .any, .any, .any, .any, .any, .any, .any, .any, .any, .any, .any, .any, .any, .any, .any]
def f103_r13 : List LOp := [
⟨some 40, .move (.tmp 0), none⟩,
⟨some 41, .nilCheck (.tmp 40), none⟩,
⟨some 42, .fieldAddr 49 (.tmp 41) 1, none⟩,
⟨some 43, .load 3 (.tmp 42), none⟩,
⟨some 44, .binOp .add 3 (.tmp 43) (.const (.int .i64 1)) 3, none⟩,
⟨some 45, .nilCheck (.tmp 40), none⟩,
⟨some 46, .fieldAddr 49 (.tmp 45) 1, none⟩,
⟨none, .store 3 (.tmp 46) (.tmp 44), none⟩]
def f103_r14 : List LOp := [
⟨some 47, .load 24 (.tmp 3), none⟩,
⟨some 48, .call ⟨.value (.func 72), #[.tmp 47], #[24]⟩, none⟩,
⟨none, .store 27 (.tmp 2) (.tmp 48), none⟩]
def f103_c : LC := (.seq (.reg f103_r0 [] none) (.seq (.reg f103_r1 [] none) (.seq (.block 0 (.loop f103_l12)) (.seq (.reg f103_r13 [] none) (.seq (.reg f103_r14 [] none) .ret)))))
theorem f103_lc : Tryd.f103.body.map lc = some f103_c.st := by kernel_rfl
theorem f103_res : Tryd.f103.results.toList = [.cell 2 27] := by kernel_rfl
theorem f103_nt : Tryd.f103.ntmps = 49 := by kernel_rfl
theorem f103_nm : (Tryd.f103.name == "runtime.NumGoroutine") = false := by kernel_rfl
/-! (*quill/read.reader).eat -/
def f104_r0 : List LOp := [
⟨some 4, .move (.tmp 0), none⟩,
⟨some 5, .move (.tmp 1), none⟩,
⟨some 6, .call ⟨.value (.func 55), #[.tmp 4, .tmp 5], #[47, 9]⟩, none⟩,
⟨some 7, .unOp .not 4 (.tmp 6), none⟩]
def f104_r1 : List LOp := [
⟨some 8, .move (.tmp 0), none⟩,
⟨some 9, .nilCheck (.tmp 8), none⟩,
⟨some 10, .fieldAddr 49 (.tmp 9) 1, none⟩,
⟨some 11, .load 3 (.tmp 10), none⟩,
⟨some 12, .build 73 #[(0, .tmp 11)], none⟩,
⟨some 13, .makeInterface 73 (.tmp 12), none⟩,
⟨none, .panic (.tmp 13), none⟩]
def f104_r2 : List LOp := [
⟨some 14, .move (.tmp 0), none⟩,
⟨some 15, .nilCheck (.tmp 14), none⟩,
⟨some 16, .fieldAddr 49 (.tmp 15) 1, none⟩,
⟨some 17, .load 3 (.tmp 16), none⟩,
⟨some 18, .binOp .add 3 (.tmp 17) (.const (.int .i64 1)) 3, none⟩,
⟨some 19, .nilCheck (.tmp 14), none⟩,
⟨some 20, .fieldAddr 49 (.tmp 19) 1, none⟩,
⟨none, .store 3 (.tmp 20) (.tmp 18), none⟩]
def f104_c : LC := (.seq (.seq (.reg f104_r0 [] none) (.cond (.tmp 7) (.reg f104_r1 [] none) .skip)) (.reg f104_r2 [] none))
theorem f104_lc : Tryd.f104.body.map lc = some f104_c.st := by kernel_rfl
theorem f104_res : Tryd.f104.results.toList = [] := by kernel_rfl
theorem f104_nt : Tryd.f104.ntmps = 21 := by kernel_rfl
theorem f104_nm : (Tryd.f104.name == "runtime.NumGoroutine") = false := by kernel_rfl
/-! quill/set.Of -/
def f105_r0 : List LOp := [
⟨some 2, .alloc 24, none⟩]
def f105_r1 : List LOp := [
⟨some 3, .alloc 24, none⟩]
def f105_r2 : List LOp := [
⟨some 6, .move (.tmp 0), none⟩,
⟨some 7, .call ⟨.builtin .len, #[.tmp 6], #[54]⟩, none⟩,
⟨some 8, .move (.const (.int .i64 0)), none⟩]
def f105_r3 : List LOp := [
⟨some 9, .binOp .lss 3 (.tmp 8) (.tmp 7) 3, none⟩]
def f105_r4 : List LOp := [
⟨some 10, .indexAddr 54 (.tmp 6) (.tmp 8), none⟩,
⟨some 11, .load 5 (.tmp 10), none⟩,
⟨some 5, .assign (.tmp 11), none⟩]
def f105_r5 : List LOp := [
⟨some 12, .move (.tmp 5), none⟩,
⟨some 13, .binOp .quo 5 (.tmp 12) (.const (.int .u8 64)) 5, none⟩,
⟨some 14, .indexAddr 24 (.tmp 3) (.tmp 13), none⟩,
⟨some 15, .load 22 (.tmp 14), none⟩,
⟨some 16, .move (.tmp 5), none⟩,
⟨some 17, .binOp .rem 5 (.tmp 16) (.const (.int .u8 64)) 5, none⟩,
⟨some 18, .binOp .shl 22 (.const (.int .u64 1)) (.tmp 17) 5, none⟩,
⟨some 19, .binOp .or 22 (.tmp 15) (.tmp 18) 22, none⟩,
⟨some 20, .indexAddr 24 (.tmp 3) (.tmp 13), none⟩,
⟨none, .store 22 (.tmp 20) (.tmp 19), none⟩]
def f105_r6 : List LOp := [
⟨some 21, .binOp .add 3 (.tmp 8) (.const (.int .i64 1)) 3, none⟩,
⟨some 8, .move (.tmp 21), none⟩]
def f105_l7 : LC := (.seq (.reg f105_r3 [] none) (.seq (.cond (.tmp 9) .skip (.exit 0)) (.seq (.block 1 (.seq (.reg f105_r4 [] none) (.reg f105_r5 [] none))) (.reg f105_r6 [] none))))
def f105_i7 (t2 t3 t6 t7 t8 : D) : List D := [.any, .any, t2, t3, .any, .any, t6, t7, t8, .any, .any, .any, .any, .any, .any, .any, .any, .any, .any, .any, .any, .any, .any]
def f105_r8 : List LOp := [
⟨some 22, .load 24 (.tmp 3), none⟩,
⟨none, .store 24 (.tmp 2) (.tmp 22), none⟩]
def f105_c : LC := (.seq (.reg f105_r0 [] none) (.seq (.reg f105_r1 [] none) (.seq (.seq (.reg f105_r2 [] none) (.block 0 (.loop f105_l7))) (.seq (.reg f105_r8 [] none) .ret))))
theorem f105_lc : Tryd.f105.body.map lc = some f105_c.st := by kernel_rfl
theorem f105_res : Tryd.f105.results.toList = [.cell 2 24] := by kernel_rfl
theorem f105_nt : Tryd.f105.ntmps = 23 := by kernel_rfl
theorem f105_nm : (Tryd.f105.name == "runtime.NumGoroutine") = false := by kernel_rfl
/-! (*quill/read.reader).sign -/
def f106_r0 : List LOp := [
⟨some 2, .assign (.const (.int .u8 0)), none⟩]
def f106_r1 : List LOp := [
⟨some 7, .move (.tmp 0), none⟩,
⟨some 8, .call ⟨.value (.func 78), #[.tmp 7], #[47]⟩, none⟩,
⟨some 9, .unOp .not 4 (.tmp 8), none⟩]
def f106_r2 : List LOp := [
⟨some 10, .move (.tmp 0), none⟩,
⟨some 11, .nilCheck (.tmp 10), none⟩,
⟨some 12, .fieldAddr 49 (.tmp 11) 1, none⟩,
⟨some 13, .load 3 (.tmp 12), none⟩,
⟨some 14, .build 73 #[(0, .tmp 13)], none⟩,
⟨some 15, .makeInterface 73 (.tmp 14), none⟩,
⟨none, .panic (.tmp 15), none⟩]
def f106_r3 : List LOp := [
⟨some 16, .move (.tmp 0), none⟩,
⟨some 17, .nilCheck (.tmp 16), none⟩,
⟨some 18, .fieldAddr 49 (.tmp 17) 0, none⟩,
⟨some 19, .load 9 (.tmp 18), none⟩,
⟨some 20, .move (.tmp 0), none⟩,
⟨some 21, .nilCheck (.tmp 20), none⟩,
⟨some 22, .fieldAddr 49 (.tmp 21) 1, none⟩,
⟨some 23, .load 3 (.tmp 22), none⟩,
⟨some 24, .index 9 (.tmp 19) (.tmp 23), none⟩,
⟨some 3, .assign (.tmp 24), none⟩]
def f106_r4 : List LOp := [
⟨some 25, .move (.tmp 0), none⟩,
⟨some 26, .nilCheck (.tmp 25), none⟩,
⟨some 27, .fieldAddr 49 (.tmp 26) 1, none⟩,
⟨some 28, .load 3 (.tmp 27), none⟩,
⟨some 29, .binOp .add 3 (.tmp 28) (.const (.int .i64 1)) 3, none⟩,
⟨some 30, .nilCheck (.tmp 25), none⟩,
⟨some 31, .fieldAddr 49 (.tmp 30) 1, none⟩,
⟨none, .store 3 (.tmp 31) (.tmp 29), none⟩]
def f106_r5 : List LOp := [
⟨some 32, .move (.tmp 3), none⟩,
⟨some 33, .binOp .neq 5 (.tmp 32) (.const (.int .u8 92)) 5, none⟩]
def f106_r6 : List LOp := [
⟨some 34, .move (.tmp 3), none⟩,
⟨some 2, .assign (.tmp 34), none⟩]
def f106_r7 : List LOp := [
⟨some 35, .move (.tmp 0), none⟩,
⟨some 36, .nilCheck (.tmp 35), none⟩,
⟨some 37, .fieldAddr 49 (.tmp 36) 1, none⟩,
⟨some 38, .load 3 (.tmp 37), none⟩,
⟨some 4, .assign (.tmp 38), none⟩]
def f106_r8 : List LOp := [
⟨some 39, .move (.tmp 0), none⟩,
⟨some 40, .call ⟨.value (.func 116), #[.tmp 39], #[47]⟩, none⟩]
def f106_r9 : List LOp := [
⟨some 41, .move (.tmp 0), none⟩,
⟨some 42, .call ⟨.value (.func 116), #[.tmp 41], #[47]⟩, none⟩]
def f106_r10 : List LOp := [
⟨some 44, .move (.tmp 0), none⟩,
⟨some 45, .nilCheck (.tmp 44), none⟩,
⟨some 46, .fieldAddr 49 (.tmp 45) 0, none⟩,
⟨some 47, .load 9 (.tmp 46), none⟩,
⟨some 48, .move (.tmp 4), none⟩,
⟨some 49, .move (.tmp 0), none⟩,
⟨some 50, .nilCheck (.tmp 49), none⟩,
⟨some 51, .fieldAddr 49 (.tmp 50) 1, none⟩,
⟨some 52, .load 3 (.tmp 51), none⟩,
⟨some 53, .slice 9 (.tmp 47) (some (.tmp 48)) (some (.tmp 52)) none, none⟩,
⟨some 54, .call ⟨.value (.func 117), #[.tmp 53], #[9]⟩, none⟩,
⟨some 43, .move (.tmp 54), none⟩,
⟨some 55, .extract (.tmp 43) 0, none⟩,
⟨some 56, .extract (.tmp 43) 1, none⟩,
⟨some 5, .assign (.tmp 55), none⟩,
⟨some 6, .assign (.tmp 56), none⟩]
def f106_r11 : List LOp := [
⟨some 57, .move (.tmp 5), none⟩,
⟨some 58, .indexAddr 54 (.tmp 57) (.const (.int .i64 0)), none⟩,
⟨some 59, .load 5 (.tmp 58), none⟩,
⟨some 2, .assign (.tmp 59), none⟩]
def f106_c : LC := (.seq (.reg f106_r0 [] none) (.seq (.seq (.reg f106_r1 [] none) (.cond (.tmp 9) (.reg f106_r2 [] none) .skip)) (.seq (.reg f106_r3 [] (some 8)) (.seq (.reg f106_r4 [] none) (.seq (.seq (.reg f106_r5 [] none) (.cond (.tmp 33) (.seq (.reg f106_r6 [] none) .ret) .skip)) (.seq (.reg f106_r7 [] none) (.seq (.reg f106_r8 [] none) (.seq (.reg f106_r9 [] none) (.seq (.regp f106_r10 [] [0, 4, 5] 15) (.seq (.reg f106_r11 [] none) .ret))))))))))
theorem f106_lc : Tryd.f106.body.map lc = some f106_c.st := by kernel_rfl
theorem f106_res : Tryd.f106.results.toList = [.tmp 2] := by kernel_rfl
theorem f106_nt : Tryd.f106.ntmps = 60 := by kernel_rfl
theorem f106_nm : (Tryd.f106.name == "runtime.NumGoroutine") = false := by kernel_rfl
/-! slices.Backward[[]quill/api.Re,quill/api.Re]$1 -/
def f108_r0 : List LOp := [
⟨some 4, .load 25 (.tmp 1), none⟩,
⟨some 5, .call ⟨.builtin .len, #[.tmp 4], #[25]⟩, none⟩,
⟨some 6, .binOp .sub 3 (.tmp 5) (.const (.int .i64 1)) 3, none⟩,
⟨some 3, .assign (.tmp 6), none⟩]
def f108_r1 : List LOp := [
⟨some 7, .move (.tmp 3), none⟩,
⟨some 8, .binOp .geq 3 (.tmp 7) (.const (.int .i64 0)) 3, none⟩]
def f108_r2 : List LOp := [
⟨some 11, .move (.tmp 0), none⟩,
⟨some 12, .move (.tmp 3), none⟩,
⟨some 13, .load 25 (.tmp 1), none⟩,
⟨some 14, .move (.tmp 3), none⟩,
⟨some 15, .indexAddr 25 (.tmp 13) (.tmp 14), none⟩,
⟨some 16, .load 27 (.tmp 15), none⟩,
⟨some 17, .call ⟨.value (.tmp 11), #[.tmp 12, .tmp 16], #[3, 27]⟩, none⟩,
⟨some 18, .unOp .not 4 (.tmp 17), none⟩]
def f108_r3 : List LOp := [
⟨some 9, .move (.tmp 3), none⟩,
⟨some 10, .binOp .sub 3 (.tmp 9) (.const (.int .i64 1)) 3, none⟩,
⟨some 3, .assign (.tmp 10), none⟩]
def f108_l4 : LC := (.seq (.seq (.reg f108_r1 [] none) (.cond (.tmp 8) .skip (.exit 0))) (.seq (.block 1 (.seq (.reg f108_r2 [] none) (.cond (.tmp 18) .ret .skip))) (.reg f108_r3 [] none)))
def f108_i4 (t0 t1 t3 : D) : List D := [t0, t1, .any, t3, .any, .any, .any, .any, .any, .any, .any, .any, .any, .any, .any, .any, .any, .any, .any]
def f108_c : LC := (.seq (.reg f108_r0 [] none) (.block 0 (.loop f108_l4)))
theorem f108_lc : Tryd.f108.body.map lc = some f108_c.st := by kernel_rfl
theorem f108_res : Tryd.f108.results.toList = [] := by kernel_rfl
theorem f108_nt : Tryd.f108.ntmps = 19 := by kernel_rfl
theorem f108_nm : (Tryd.f108.name == "runtime.NumGoroutine") = false := by kernel_rfl
/-! (*quill/read.reader).digit -/
def f116_r0 : List LOp := [
⟨some 2, .move (.tmp 0), none⟩,
⟨some 3, .call ⟨.value (.func 55), #[.tmp 2, .const (.string { data := #[48, 49, 50, 51, 52, 53, 54, 55, 56, 57, 97, 98, 99, 100, 101, 102] })], #[47, 9]⟩, none⟩,
⟨some 4, .unOp .not 4 (.tmp 3), none⟩]
def f116_r1 : List LOp := [
⟨some 5, .move (.tmp 0), none⟩,
⟨some 6, .nilCheck (.tmp 5), none⟩,
⟨some 7, .fieldAddr 49 (.tmp 6) 1, none⟩,
⟨some 8, .load 3 (.tmp 7), none⟩,
⟨some 9, .build 73 #[(0, .tmp 8)], none⟩,
⟨some 10, .makeInterface 73 (.tmp 9), none⟩,
⟨none, .panic (.tmp 10), none⟩]
def f116_r2 : List LOp := [
⟨some 11, .move (.tmp 0), none⟩,
⟨some 12, .nilCheck (.tmp 11), none⟩,
⟨some 13, .fieldAddr 49 (.tmp 12) 1, none⟩,
⟨some 14, .load 3 (.tmp 13), none⟩,
⟨some 15, .binOp .add 3 (.tmp 14) (.const (.int .i64 1)) 3, none⟩,
⟨some 16, .nilCheck (.tmp 11), none⟩,
⟨some 17, .fieldAddr 49 (.tmp 16) 1, none⟩,
⟨none, .store 3 (.tmp 17) (.tmp 15), none⟩]
def f116_c : LC := (.seq (.seq (.reg f116_r0 [] none) (.cond (.tmp 4) (.reg f116_r1 [] none) .skip)) (.reg f116_r2 [] none))
theorem f116_lc : Tryd.f116.body.map lc = some f116_c.st := by kernel_rfl
theorem f116_res : Tryd.f116.results.toList = [] := by kernel_rfl
theorem f116_nt : Tryd.f116.ntmps = 18 := by kernel_rfl
theorem f116_nm : (Tryd.f116.name == "runtime.NumGoroutine") = false := by kernel_rfl
/-! quill/num.ReadHex -/
def f117_r0 : List LOp := [
⟨some 2, .assign (.const (.slice none 0 0)), none⟩,
⟨some 3, .assign (.const (.int .i64 0)), none⟩]
def f117_r1 : List LOp := [
⟨some 4, .assign (.const (.slice none 0 0)), none⟩]
def f117_r2 : List LOp := [
⟨some 5, .assign (.const (.int .i64 0)), none⟩]
def f117_r3 : List LOp := [
⟨some 8, .move (.tmp 5), none⟩,
⟨some 9, .binOp .add 3 (.tmp 8) (.const (.int .i64 1)) 3, none⟩,
⟨some 10, .move (.tmp 0), none⟩,
⟨some 11, .call ⟨.builtin .len, #[.tmp 10], #[9]⟩, none⟩,
⟨some 12, .binOp .lss 3 (.tmp 9) (.tmp 11) 3, none⟩]
def f117_r4 : List LOp := [
⟨some 15, .move (.tmp 0), none⟩,
⟨some 16, .move (.tmp 5), none⟩,
⟨some 17, .index 9 (.tmp 15) (.tmp 16), none⟩,
⟨some 18, .call ⟨.value (.func 79), #[.const (.string { data := #[48, 49, 50, 51, 52, 53, 54, 55, 56, 57, 97, 98, 99, 100, 101, 102] }), .tmp 17], #[9, 5]⟩, none⟩,
⟨some 6, .assign (.tmp 18), none⟩]
def f117_r5 : List LOp := [
⟨some 19, .move (.tmp 0), none⟩,
⟨some 20, .move (.tmp 5), none⟩,
⟨some 21, .binOp .add 3 (.tmp 20) (.const (.int .i64 1)) 3, none⟩,
⟨some 22, .index 9 (.tmp 19) (.tmp 21), none⟩,
⟨some 23, .call ⟨.value (.func 79), #[.const (.string { data := #[48, 49, 50, 51, 52, 53, 54, 55, 56, 57, 97, 98, 99, 100, 101, 102] }), .tmp 22], #[9, 5]⟩, none⟩,
⟨some 7, .assign (.tmp 23), none⟩]
def f117_r6 : List LOp := [
⟨some 24, .move (.tmp 6), none⟩,
⟨some 25, .binOp .lss 3 (.tmp 24) (.const (.int .i64 0)) 3, none⟩,
⟨some 26, .move (.tmp 25), none⟩,
⟨some 27, .move (.tmp 7), some (2, false)⟩,
⟨some 28, .binOp .lss 3 (.tmp 27) (.const (.int .i64 0)) 3, some (2, false)⟩,
⟨some 29, .pick (.tmp 26) (.const (.bool true)) (.tmp 28), none⟩]
def f117_r7 : List LOp := [
⟨some 2, .assign (.const (.slice none 0 0)), none⟩,
⟨some 3, .assign (.const (.int .i64 2)), none⟩]
def f117_r8 : List LOp := [
⟨some 30, .move (.tmp 4), none⟩,
⟨some 31, .move (.tmp 6), none⟩,
⟨some 32, .binOp .shl 3 (.tmp 31) (.const (.int .u64 4)) 122, none⟩,
⟨some 33, .move (.tmp 7), none⟩,
⟨some 34, .binOp .or 3 (.tmp 32) (.tmp 33) 3, none⟩,
⟨some 35, .convert 3 5 (.tmp 34), none⟩,
⟨some 36, .buildSlice 54 1 #[(0, .tmp 35)], none⟩,
⟨some 37, .call ⟨.builtin .append, #[.tmp 30, .tmp 36], #[54, 54]⟩, none⟩,
⟨some 4, .assign (.tmp 37), none⟩]
def f117_r9 : List LOp := [
⟨some 13, .move (.tmp 5), none⟩,
⟨some 14, .binOp .add 3 (.tmp 13) (.const (.int .i64 2)) 3, none⟩,
⟨some 5, .assign (.tmp 14), none⟩]
def f117_l10 : LC := (.seq (.seq (.reg f117_r3 [] none) (.cond (.tmp 12) .skip (.exit 0))) (.seq (.block 1 (.seq (.reg f117_r4 [] none) (.seq (.reg f117_r5 [] none) (.seq (.seq (.reg f117_r6 [] none) (.cond (.tmp 29) (.seq (.reg f117_r7 [] none) .ret) .skip)) (.reg f117_r8 [] none))))) (.reg f117_r9 [] none)))
def f117_i10 (t0 t4 t5 : D) : List D := [t0, .any, .any, .any, t4, t5, .any, .any, .any, .any, .any, .any, .any, .any, .any, .any, .any, .any, .any, .any, .any, .any, .any, .any, .any, .any, .any, .any, .any, .any, .any, .any, .any, .any, .any, .any, .any, .any, .any, .any, .any, .any, .any]
def f117_r11 : List LOp := [
⟨some 38, .move (.tmp 0), none⟩,
⟨some 39, .call ⟨.builtin .len, #[.tmp 38], #[9]⟩, none⟩,
⟨some 40, .binOp .rem 3 (.tmp 39) (.const (.int .i64 2)) 3, none⟩,
⟨some 41, .binOp .eql 3 (.tmp 40) (.const (.int .i64 1)) 3, none⟩]
def f117_r12 : List LOp := [
⟨some 2, .assign (.const (.slice none 0 0)), none⟩,
⟨some 3, .assign (.const (.int .i64 2)), none⟩]
def f117_r13 : List LOp := [
⟨some 42, .move (.tmp 4), none⟩,
⟨some 2, .assign (.tmp 42), none⟩,
⟨some 3, .assign (.const (.int .i64 0)), none⟩]
def f117_c : LC := (.seq (.reg f117_r0 [] none) (.seq (.reg f117_r1 [] none) (.seq (.seq (.reg f117_r2 [] none) (.block 0 (.loop f117_l10))) (.seq (.seq (.reg f117_r11 [] none) (.cond (.tmp 41) (.seq (.reg f117_r12 [] none) .ret) .skip)) (.seq (.reg f117_r13 [] none) .ret)))))
theorem f117_lc : Tryd.f117.body.map lc = some f117_c.st := by kernel_rfl
theorem f117_res : Tryd.f117.results.toList = [.tmp 2, .tmp 3] := by kernel_rfl
theorem f117_nt : Tryd.f117.ntmps = 43 := by kernel_rfl
theorem f117_nm : (Tryd.f117.name == "runtime.NumGoroutine") = false := by kernel_rfl
attribute [go_sem] f6_r0 f6_r1 f6_c f9_r0 f9_r1 f9_r2 f9_r3 f9_r4 f9_r5 f9_r6 f9_c f10_r0 f10_r1 f10_r2 f10_r3 f10_r4 f10_r5 f10_c f19_r0 f19_r1 f19_r2 f19_r3 f19_r4 f19_r5 f19_r6 f19_r7 f19_r8 f19_l9 f19_i9 f19_r10 f19_c f22_r0 f22_r1 f22_r2 f22_r3 f22_r4 f22_r5 f22_c f23_r0 f23_r1 f23_c f24_r0 f24_r1 f24_r2 f24_r3 f24_r4 f24_r5 f24_r6 f24_r7 f24_r8 f24_r9 f24_r10 f24_r11 f24_r12 f24_r13 f24_r14 f24_r15 f24_r16 f24_r17 f24_r18 f24_r19 f24_r20 f24_r21 f24_r22 f24_c f34_r0 f34_r1 f34_r2 f34_r3 f34_r4 f34_r5 f34_r6 f34_r7 f34_c f35_r0 f35_r1 f35_r2 f35_r3 f35_r4 f35_l5 f35_i5 f35_r6 f35_c f36_r0 f36_r1 f36_c f37_r0 f37_r1 f37_c f38_r0 f38_r1 f38_c f39_r0 f39_r1 f39_r2 f39_r3 f39_r4 f39_r5 f39_r6 f39_l7 f39_i7 f39_r8 f39_c f40_r0 f40_r1 f40_c f41_r0 f41_r1 f41_r2 f41_r3 f41_c f42_r0 f42_r1 f42_r2 f42_r3 f42_c f43_r0 f43_r1 f43_r2 f43_r3 f43_r4 f43_r5 f43_r6 f43_r7 f43_r8 f43_r9 f43_r10 f43_r11 f43_r12 f43_l13 f43_i13 f43_r14 f43_r15 f43_r16 f43_r17 f43_r18 f43_r19 f43_l20 f43_i20 f43_r21 f43_r22 f43_c f54_r0 f54_r1 f54_r2 f54_r3 f54_l4 f54_i4 f54_r5 f54_c f55_r0 f55_r1 f55_c f56_r0 f56_r1 f56_c f57_r0 f57_r1 f57_r2 f57_r3 f57_r4 f57_r5 f57_r6 f57_l7 f57_i7 f57_r8 f57_c f58_r0 f58_r1 f58_r2 f58_r3 f58_r4 f58_r5 f58_r6 f58_r7 f58_r8 f58_r9 f58_r10 f58_r11 f58_r12 f58_r13 f58_c f59_r0 f59_r1 f59_c f60_r0 f60_r1 f60_r2 f60_r3 f60_r4 f60_r5 f60_r6 f60_l7 f60_i7 f60_r8 f60_c f62_r0 f62_r1 f62_r2 f62_r3 f62_r4 f62_r5 f62_r6 f62_r7 f62_l8 f62_i8 f62_r9 f62_l10 f62_i10 f62_r11 f62_c f63_r0 f63_r1 f63_c f64_r0 f64_r1 f64_r2 f64_r3 f64_c f65_r0 f65_r1 f65_r2 f65_r3 f65_r4 f65_r5 f65_r6 f65_l7 f65_i7 f65_r8 f65_c f67_r0 f67_r1 f67_c f71_r0 f71_r1 f71_r2 f71_r3 f71_r4 f71_r5 f71_r6 f71_r7 f71_r8 f71_r9 f71_l10 f71_i10 f71_r11 f71_l12 f71_i12 f71_r13 f71_c f72_r0 f72_r1 f72_r2 f72_r3 f72_c f75_r0 f75_r1 f75_c f77_r0 f77_r1 f77_r2 f77_r3 f77_r4 f77_l5 f77_i5 f77_r6 f77_c f78_r0 f78_r1 f78_c f79_r0 f79_r1 f79_c f80_r0 f80_r1 f80_r2 f80_r3 f80_r4 f80_r5 f80_r6 f80_a7 f80_b7 f80_r8 f80_c f82_r0 f82_r1 f82_r2 f82_r3 f82_c f83_r0 f83_r1 f83_r2 f83_r3 f83_r4 f83_r5 f83_r6 f83_l7 f83_i7 f83_r8 f83_c f90_r0 f90_r1 f90_r2 f90_r3 f90_r4 f90_r5 f90_r6 f90_r7 f90_r8 f90_r9 f90_r10 f90_r11 f90_r12 f90_r13 f90_r14 f90_r15 f90_c f92_r0 f92_r1 f92_c f93_r0 f93_r1 f93_c f102_r0 f102_r1 f102_r2 f102_r3 f102_r4 f102_r5 f102_l6 f102_i6 f102_r7 f102_c f103_r0 f103_r1 f103_r2 f103_r3 f103_r4 f103_r5 f103_r6 f103_r7 f103_r8 f103_r9 f103_r10 f103_r11 f103_l12 f103_i12 f103_r13 f103_r14 f103_c f104_r0 f104_r1 f104_r2 f104_c f105_r0 f105_r1 f105_r2 f105_r3 f105_r4 f105_r5 f105_r6 f105_l7 f105_i7 f105_r8 f105_c f106_r0 f106_r1 f106_r2 f106_r3 f106_r4 f106_r5 f106_r6 f106_r7 f106_r8 f106_r9 f106_r10 f106_r11 f106_c f108_r0 f108_r1 f108_r2 f108_r3 f108_l4 f108_i4 f108_c f116_r0 f116_r1 f116_r2 f116_c f117_r0 f117_r1 f117_r2 f117_r3 f117_r4 f117_r5 f117_r6 f117_r7 f117_r8 f117_r9 f117_l10 f117_i10 f117_r11 f117_r12 f117_r13 f117_c T3 T4 T5 T9 T20 T22 T24 T25 T27 T30 T31 T37 T47 T49 T52 T53 T54 T56 T58 T64 T69 T71 T73 T83 T106 T111 T112 T115 T121 T122 T136 T137 ti3 ti4 ti5 ti9 ti20 ti22 ti24 ti25 ti27 ti30 ti31 ti37 ti47 ti49 ti52 ti53 ti54 ti56 ti58 ti64 ti69 ti71 ti73 ti83 ti106 ti111 ti112 ti115 ti121 ti122 ti136 ti137
end Go.Proofs.YtlejbkfefpfolaaDoor.W
