/- Part of a program logic over data: rules of the walk, each proved. -/
import Derived.Test.YtlejbkfefpfolaaGreatDoorChecked
import Derived.Test.YtlejbkfefpfolaaGreatDoorAwpT
import Derived.KernelRfl
set_option linter.unusedVariables false
set_option linter.unusedSimpArgs false
set_option linter.unusedSectionVars false
set_option maxRecDepth 100000
namespace Go.Proofs.YtlejbkfefpfolaaGreatDoor.W
open Go Go.Proofs Go.Proofs.YtlejbkfefpfolaaGreatDoor.AWP
def ti3 : TI := ⟨.int .i64, 1, 8, [.int .i64 0]⟩
def ti4 : TI := ⟨.bool, 1, 1, [.bool false]⟩
def ti5 : TI := ⟨.int .u8, 1, 1, [.int .u8 0]⟩
def ti9 : TI := ⟨.str, 1, 16, [.string .empty]⟩
def ti20 : TI := ⟨.other, 1, 16, [.nilIface]⟩
def ti22 : TI := ⟨.int .u64, 1, 8, [.int .u64 0]⟩
def ti24 : TI := ⟨.arr 4 22, 4, 32, [.int .u64 0, .int .u64 0, .int .u64 0, .int .u64 0]⟩
def ti25 : TI := ⟨.slice 27, 1, 24, [.slice none 0 0]⟩
def ti27 : TI := ⟨.struct [(0, 5), (1, 24), (5, 25)], 6, 64, [.int .u8 0, .int .u64 0, .int .u64 0, .int .u64 0, .int .u64 0, .slice none 0 0]⟩
def ti30 : TI := ⟨.int .i64, 1, 8, [.int .i64 0]⟩
def ti44 : TI := ⟨.slice 4, 1, 24, [.slice none 0 0]⟩
def ti48 : TI := ⟨.slice 9, 1, 24, [.slice none 0 0]⟩
def ti59 : TI := ⟨.other, 1, 8, [.nilFunc]⟩
def ti66 : TI := ⟨.other, 1, 8, [.pointer none]⟩
def ti68 : TI := ⟨.struct [(0, 9), (1, 3)], 2, 24, [.string .empty, .int .i64 0]⟩
def ti70 : TI := ⟨.other, 1, 8, [.pointer none]⟩
def ti71 : TI := ⟨.other, 1, 8, [.pointer none]⟩
def ti72 : TI := ⟨.slice 5, 1, 24, [.slice none 0 0]⟩
def ti74 : TI := ⟨.struct [(0, 71), (1, 72)], 2, 32, [.pointer none, .slice none 0 0]⟩
def ti76 : TI := ⟨.struct [(0, 74)], 2, 32, [.pointer none, .slice none 0 0]⟩
def ti83 : TI := ⟨.slice 3, 1, 24, [.slice none 0 0]⟩
def ti93 : TI := ⟨.struct [(0, 3)], 1, 8, [.int .i64 0]⟩
def ti101 : TI := ⟨.other, 1, 8, [.pointer none]⟩
def ti120 : TI := ⟨.other, 1, 8, [.nilFunc]⟩
def ti124 : TI := ⟨.other, 1, 8, [.pointer none]⟩
def ti129 : TI := ⟨.slice 24, 1, 24, [.slice none 0 0]⟩
def ti132 : TI := ⟨.other, 1, 8, [.nilFunc]⟩
def ti136 : TI := ⟨.arr 64 5, 64, 64, [.int .u8 0, .int .u8 0, .int .u8 0, .int .u8 0, .int .u8 0, .int .u8 0, .int .u8 0, .int .u8 0, .int .u8 0, .int .u8 0, .int .u8 0, .int .u8 0, .int .u8 0, .int .u8 0, .int .u8 0, .int .u8 0, .int .u8 0, .int .u8 0, .int .u8 0, .int .u8 0, .int .u8 0, .int .u8 0, .int .u8 0, .int .u8 0, .int .u8 0, .int .u8 0, .int .u8 0, .int .u8 0, .int .u8 0, .int .u8 0, .int .u8 0, .int .u8 0, .int .u8 0, .int .u8 0, .int .u8 0, .int .u8 0, .int .u8 0, .int .u8 0, .int .u8 0, .int .u8 0, .int .u8 0, .int .u8 0, .int .u8 0, .int .u8 0, .int .u8 0, .int .u8 0, .int .u8 0, .int .u8 0, .int .u8 0, .int .u8 0, .int .u8 0, .int .u8 0, .int .u8 0, .int .u8 0, .int .u8 0, .int .u8 0, .int .u8 0, .int .u8 0, .int .u8 0, .int .u8 0, .int .u8 0, .int .u8 0, .int .u8 0, .int .u8 0]⟩
def ti137 : TI := ⟨.int .u64, 1, 8, [.int .u64 0]⟩
def ti149 : TI := ⟨.slice 22, 1, 24, [.slice none 0 0]⟩
def ti150 : TI := ⟨.other, 1, 8, [.nilFunc]⟩
def tab : List (Nat × TI) := [(3, ti3), (4, ti4), (5, ti5), (9, ti9), (20, ti20), (22, ti22), (24, ti24), (25, ti25), (27, ti27), (30, ti30), (44, ti44), (48, ti48), (59, ti59), (66, ti66), (68, ti68), (70, ti70), (71, ti71), (72, ti72), (74, ti74), (76, ti76), (83, ti83), (93, ti93), (101, ti101), (120, ti120), (124, ti124), (129, ti129), (132, ti132), (136, ti136), (137, ti137), (149, ti149), (150, ti150)]
def T : Tab := fun t => (tab.find? fun p => p.1 == t).map (·.2)
theorem T3 : T 3 = some ti3 := rfl
theorem T4 : T 4 = some ti4 := rfl
theorem T5 : T 5 = some ti5 := rfl
theorem T9 : T 9 = some ti9 := rfl
theorem T20 : T 20 = some ti20 := rfl
theorem T22 : T 22 = some ti22 := rfl
theorem T24 : T 24 = some ti24 := rfl
theorem T25 : T 25 = some ti25 := rfl
theorem T27 : T 27 = some ti27 := rfl
theorem T30 : T 30 = some ti30 := rfl
theorem T44 : T 44 = some ti44 := rfl
theorem T48 : T 48 = some ti48 := rfl
theorem T59 : T 59 = some ti59 := rfl
theorem T66 : T 66 = some ti66 := rfl
theorem T68 : T 68 = some ti68 := rfl
theorem T70 : T 70 = some ti70 := rfl
theorem T71 : T 71 = some ti71 := rfl
theorem T72 : T 72 = some ti72 := rfl
theorem T74 : T 74 = some ti74 := rfl
theorem T76 : T 76 = some ti76 := rfl
theorem T83 : T 83 = some ti83 := rfl
theorem T93 : T 93 = some ti93 := rfl
theorem T101 : T 101 = some ti101 := rfl
theorem T120 : T 120 = some ti120 := rfl
theorem T124 : T 124 = some ti124 := rfl
theorem T129 : T 129 = some ti129 := rfl
theorem T132 : T 132 = some ti132 := rfl
theorem T136 : T 136 = some ti136 := rfl
theorem T137 : T 137 = some ti137 := rfl
theorem T149 : T 149 = some ti149 := rfl
theorem T150 : T 150 = some ti150 := rfl
theorem tab_ok : tabB Tryz.prog tab = true := by kernel_rfl
theorem hT : TabOk Tryz.prog T := by
 intro t i h
 unfold T at h
 simp only [Option.map_eq_some_iff] at h
 obtain ⟨p, hp, rfl⟩ := h
 have h1 := List.find?_some hp
 have h2 := List.mem_of_find?_eq_some hp
 simp only [beq_iff_eq] at h1
 obtain ⟨t', i'⟩ := p
 subst h1
 exact tabB_ok tab_ok t' i' h2
theorem hm : Tryz.prog.follows .mixedOrders = true := by kernel_rfl
def f8_r0 : List LOp := [
⟨some 2, .box 27 (.tmp 0), none⟩,
⟨some 4, .assign (.const (.bool false)), none⟩]
def f8_r1 : List LOp := [
⟨some 5, .load 27 (.tmp 2), none⟩,
⟨some 6, .move (.tmp 1), none⟩,
⟨some 7, .call ⟨.value (.func 26), #[.tmp 5, .tmp 6], #[27, 3]⟩, none⟩,
⟨some 8, .move (.tmp 1), none⟩,
⟨some 9, .binOp .gtr 3 (.tmp 7) (.tmp 8) 3, none⟩,
⟨some 4, .assign (.tmp 9), none⟩]
def f8_c : LC := (.seq (.reg f8_r0 [] none) (.seq (.reg f8_r1 [] none) .ret))
theorem f8_lc : Tryz.f8.body.map lc = some f8_c.st := by kernel_rfl
theorem f8_res : Tryz.f8.results.toList = [.tmp 4] := by kernel_rfl
theorem f8_nt : Tryz.f8.ntmps = 10 := by kernel_rfl
theorem f8_nm : (Tryz.f8.name == "runtime.NumGoroutine") = false := by kernel_rfl
def f26_r0 : List LOp := [
⟨some 2, .box 27 (.tmp 0), none⟩,
⟨some 4, .assign (.const (.int .i64 0)), none⟩]
def f26_r1 : List LOp := [
⟨some 5, .assign (.const (.int .i64 1)), none⟩]
def f26_r2 : List LOp := [
⟨some 7, .fieldAddr 27 (.tmp 2) 2, none⟩,
⟨some 8, .load 25 (.tmp 7), none⟩,
⟨some 9, .call ⟨.builtin .len, #[.tmp 8], #[25]⟩, none⟩,
⟨some 10, .move (.const (.int .i64 0)), none⟩]
def f26_r3 : List LOp := [
⟨some 11, .binOp .lss 3 (.tmp 10) (.tmp 9) 3, none⟩]
def f26_r4 : List LOp := [
⟨some 12, .move (.tmp 10), none⟩,
⟨some 6, .assign (.tmp 12), none⟩]
def f26_r5 : List LOp := [
⟨some 13, .move (.tmp 5), none⟩,
⟨some 14, .move (.tmp 1), none⟩,
⟨some 15, .binOp .gtr 3 (.tmp 13) (.tmp 14) 3, none⟩]
def f26_r6 : List LOp := [
⟨some 16, .move (.tmp 5), none⟩,
⟨some 4, .assign (.tmp 16), none⟩]
def f26_r7 : List LOp := [
⟨some 17, .move (.tmp 5), none⟩,
⟨some 18, .fieldAddr 27 (.tmp 2) 2, none⟩,
⟨some 19, .load 25 (.tmp 18), none⟩,
⟨some 20, .move (.tmp 6), none⟩,
⟨some 21, .indexAddr 25 (.tmp 19) (.tmp 20), none⟩,
⟨some 22, .load 27 (.tmp 21), none⟩,
⟨some 23, .move (.tmp 1), none⟩,
⟨some 24, .call ⟨.value (.func 26), #[.tmp 22, .tmp 23], #[27, 3]⟩, none⟩,
⟨some 25, .binOp .add 3 (.tmp 17) (.tmp 24) 3, none⟩,
⟨some 5, .assign (.tmp 25), none⟩]
def f26_r8 : List LOp := [
⟨some 26, .binOp .add 3 (.tmp 10) (.const (.int .i64 1)) 3, none⟩,
⟨some 10, .move (.tmp 26), none⟩]
def f26_l9 : LC := (.seq (.reg f26_r3 [] none) (.seq (.cond (.tmp 11) .skip (.exit 0)) (.seq (.block 1 (.seq (.reg f26_r4 [] none) (.seq (.seq (.reg f26_r5 [] none) (.cond (.tmp 15) (.seq (.reg f26_r6 [] none) .ret) .skip)) (.reg f26_r7 [] none)))) (.reg f26_r8 [] none))))
def f26_i9 (t1 t2 t5 t9 t10 : D) : List D := [.any, t1, t2, .any, .any, t5, .any, .any, .any, t9, t10, .any, .any, .any, .any, .any, .any, .any, .any, .any, .any, .any, .any, .any, .any, .any, .any, .any]
def f26_r10 : List LOp := [
⟨some 27, .move (.tmp 5), none⟩,
⟨some 4, .assign (.tmp 27), none⟩]
def f26_c : LC := (.seq (.reg f26_r0 [] none) (.seq (.reg f26_r1 [] none) (.seq (.seq (.reg f26_r2 [] none) (.block 0 (.loop f26_l9))) (.seq (.reg f26_r10 [] none) .ret))))
theorem f26_lc : Tryz.f26.body.map lc = some f26_c.st := by kernel_rfl
theorem f26_res : Tryz.f26.results.toList = [.tmp 4] := by kernel_rfl
theorem f26_nt : Tryz.f26.ntmps = 28 := by kernel_rfl
theorem f26_nm : (Tryz.f26.name == "runtime.NumGoroutine") = false := by kernel_rfl
def f27_r0 : List LOp := [
⟨some 2, .alloc 27, none⟩,
⟨some 3, .assign (.const (.int .i64 0)), none⟩,
⟨some 4, .assign (.const (.int .i64 0)), none⟩]
def f27_r1 : List LOp := [
⟨some 8, .move (.tmp 0), none⟩,
⟨some 9, .call ⟨.builtin .len, #[.tmp 8], #[9]⟩, none⟩,
⟨some 10, .binOp .gtr 3 (.tmp 9) (.const (.int .i64 65536)) 3, none⟩]
def f27_r2 : List LOp := [
⟨some 11, .build 27 #[], none⟩,
⟨none, .store 27 (.tmp 2) (.tmp 11), none⟩,
⟨some 3, .assign (.const (.int .i64 0)), none⟩,
⟨some 4, .assign (.const (.int .i64 3)), none⟩]
def f27_r3 : List LOp := [
⟨some 13, .move (.tmp 0), none⟩,
⟨some 14, .build 68 #[(0, .tmp 13)], none⟩,
⟨some 15, .box 68 (.tmp 14), none⟩,
⟨some 16, .call ⟨.value (.func 45), #[.tmp 15], #[66]⟩, none⟩,
⟨some 12, .move (.tmp 16), none⟩,
⟨some 17, .extract (.tmp 12) 0, none⟩,
⟨some 18, .extract (.tmp 12) 1, none⟩,
⟨some 19, .extract (.tmp 12) 2, none⟩,
⟨some 5, .alloc 27, none⟩,
⟨none, .store 27 (.tmp 5) (.tmp 17), none⟩,
⟨some 6, .assign (.tmp 18), none⟩,
⟨some 7, .assign (.tmp 19), none⟩]
def f27_r4 : List LOp := [
⟨some 20, .move (.tmp 7), none⟩,
⟨some 21, .binOp .eql 30 (.tmp 20) (.const (.int .i64 0)) 30, none⟩,
⟨some 22, .move (.tmp 21), none⟩,
⟨some 23, .load 27 (.tmp 5), some (2, true)⟩,
⟨some 24, .buildSlice 25 1 #[(0, .tmp 23)], some (2, true)⟩,
⟨some 25, .call ⟨.value (.func 29), #[.tmp 24], #[25]⟩, some (2, true)⟩,
⟨some 26, .unOp .not 4 (.tmp 25), some (2, true)⟩,
⟨some 27, .pick (.tmp 22) (.tmp 26) (.const (.bool false)), none⟩]
def f27_r5 : List LOp := [
⟨some 28, .build 27 #[], none⟩,
⟨none, .store 27 (.tmp 2) (.tmp 28), none⟩,
⟨some 3, .assign (.const (.int .i64 0)), none⟩,
⟨some 4, .assign (.const (.int .i64 4)), none⟩]
def f27_r6 : List LOp := [
⟨some 29, .load 27 (.tmp 5), none⟩,
⟨some 30, .move (.tmp 6), none⟩,
⟨some 31, .move (.tmp 7), none⟩,
⟨none, .store 27 (.tmp 2) (.tmp 29), none⟩,
⟨some 3, .assign (.tmp 30), none⟩,
⟨some 4, .assign (.tmp 31), none⟩]
def f27_c : LC := (.seq (.reg f27_r0 [] none) (.seq (.seq (.reg f27_r1 [] none) (.cond (.tmp 10) (.seq (.reg f27_r2 [] none) .ret) .skip)) (.seq (.reg f27_r3 [2] none) (.seq (.seq (.reg f27_r4 [] none) (.cond (.tmp 27) (.seq (.reg f27_r5 [] none) .ret) .skip)) (.seq (.reg f27_r6 [] none) .ret)))))
theorem f27_lc : Tryz.f27.body.map lc = some f27_c.st := by kernel_rfl
theorem f27_res : Tryz.f27.results.toList = [.cell 2 27, .tmp 3, .tmp 4] := by kernel_rfl
theorem f27_nt : Tryz.f27.ntmps = 32 := by kernel_rfl
theorem f27_nm : (Tryz.f27.name == "runtime.NumGoroutine") = false := by kernel_rfl
def f28_r0 : List LOp := [
⟨some 1, .box 27 (.tmp 0), none⟩,
⟨some 2, .assign (.const (.string { data := #[] })), none⟩]
def f28_r1 : List LOp := [
⟨some 4, .load 27 (.tmp 1), none⟩,
⟨some 5, .buildSlice 25 1 #[(0, .tmp 4)], none⟩,
⟨some 6, .call ⟨.value (.func 29), #[.tmp 5], #[25]⟩, none⟩,
⟨some 7, .unOp .not 4 (.tmp 6), none⟩]
def f28_r2 : List LOp := [
⟨some 2, .assign (.const (.string { data := #[] })), none⟩]
def f28_r3 : List LOp := [
⟨some 8, .build 76 #[], none⟩,
⟨some 9, .box 76 (.tmp 8), none⟩,
⟨some 3, .assign (.tmp 9), none⟩]
def f28_r4 : List LOp := [
⟨some 10, .move (.tmp 3), none⟩,
⟨some 11, .load 27 (.tmp 1), none⟩,
⟨some 12, .call ⟨.value (.func 46), #[.tmp 10, .tmp 11, .const (.slice none 0 0)], #[70, 27, 72]⟩, none⟩]
def f28_r5 : List LOp := [
⟨some 13, .move (.tmp 3), none⟩,
⟨some 14, .nilCheck (.tmp 13), none⟩,
⟨some 15, .fieldAddr 76 (.tmp 14) 0, none⟩,
⟨some 16, .call ⟨.value (.func 47), #[.tmp 15], #[74]⟩, none⟩,
⟨some 2, .assign (.tmp 16), none⟩]
def f28_c : LC := (.seq (.reg f28_r0 [] none) (.seq (.seq (.reg f28_r1 [] none) (.cond (.tmp 7) (.seq (.reg f28_r2 [] none) .ret) .skip)) (.seq (.reg f28_r3 [1] none) (.seq (.reg f28_r4 [] none) (.seq (.reg f28_r5 [] none) .ret)))))
theorem f28_lc : Tryz.f28.body.map lc = some f28_c.st := by kernel_rfl
theorem f28_res : Tryz.f28.results.toList = [.tmp 2] := by kernel_rfl
theorem f28_nt : Tryz.f28.ntmps = 17 := by kernel_rfl
theorem f28_nm : (Tryz.f28.name == "runtime.NumGoroutine") = false := by kernel_rfl
def f29_r0 : List LOp := [
⟨some 2, .assign (.const (.bool false)), none⟩]
def f29_r1 : List LOp := [
⟨some 3, .move (.tmp 0), none⟩,
⟨some 4, .call ⟨.value (.func 38), #[.tmp 3, .func 48], #[25, 59]⟩, none⟩,
⟨some 5, .unOp .not 4 (.tmp 4), none⟩,
⟨some 2, .assign (.tmp 5), none⟩]
def f29_c : LC := (.seq (.reg f29_r0 [] none) (.seq (.reg f29_r1 [] none) .ret))
theorem f29_lc : Tryz.f29.body.map lc = some f29_c.st := by kernel_rfl
theorem f29_res : Tryz.f29.results.toList = [.tmp 2] := by kernel_rfl
theorem f29_nt : Tryz.f29.ntmps = 6 := by kernel_rfl
theorem f29_nm : (Tryz.f29.name == "runtime.NumGoroutine") = false := by kernel_rfl
def f31_r0 : List LOp := [
⟨some 1, .box 27 (.tmp 0), none⟩,
⟨some 2, .assign (.const (.bool false)), none⟩]
def f31_r1 : List LOp := [
⟨some 6, .load 27 (.tmp 1), none⟩,
⟨some 7, .call ⟨.value (.func 54), #[.tmp 6], #[27]⟩, none⟩,
⟨some 3, .assign (.tmp 7), none⟩]
def f31_r2 : List LOp := [
⟨some 8, .move (.tmp 3), none⟩,
⟨some 9, .call ⟨.builtin .len, #[.tmp 8], #[25]⟩, none⟩,
⟨some 10, .move (.const (.int .i64 0)), none⟩]
def f31_r3 : List LOp := [
⟨some 11, .binOp .lss 3 (.tmp 10) (.tmp 9) 3, none⟩]
def f31_r4 : List LOp := [
⟨some 12, .move (.tmp 10), none⟩,
⟨some 4, .assign (.tmp 12), none⟩]
def f31_r5 : List LOp := [
⟨some 13, .move (.tmp 3), none⟩,
⟨some 14, .move (.tmp 4), none⟩,
⟨some 15, .indexAddr 25 (.tmp 13) (.tmp 14), none⟩,
⟨some 16, .fieldAddr 27 (.tmp 15) 1, none⟩,
⟨some 17, .load 24 (.tmp 16), none⟩,
⟨some 18, .build 24 #[], none⟩,
⟨some 19, .binOp .eql 24 (.tmp 17) (.tmp 18) 24, none⟩,
⟨some 5, .assign (.tmp 19), none⟩]
def f31_r6 : List LOp := [
⟨some 20, .move (.tmp 3), none⟩,
⟨some 21, .move (.tmp 4), none⟩,
⟨some 22, .indexAddr 25 (.tmp 20) (.tmp 21), none⟩,
⟨some 23, .fieldAddr 27 (.tmp 22) 0, none⟩,
⟨some 24, .load 5 (.tmp 23), none⟩,
⟨some 25, .binOp .lss 5 (.tmp 24) (.const (.int .u8 1)) 5, none⟩,
⟨some 26, .move (.tmp 25), none⟩,
⟨some 27, .move (.tmp 3), some (6, false)⟩,
⟨some 28, .move (.tmp 4), some (6, false)⟩,
⟨some 29, .indexAddr 25 (.tmp 27) (.tmp 28), some (6, false)⟩,
⟨some 30, .fieldAddr 27 (.tmp 29) 0, some (6, false)⟩,
⟨some 31, .load 5 (.tmp 30), some (6, false)⟩,
⟨some 32, .binOp .gtr 5 (.tmp 31) (.const (.int .u8 6)) 5, some (6, false)⟩,
⟨some 33, .pick (.tmp 26) (.const (.bool true)) (.tmp 32), none⟩,
⟨some 34, .move (.tmp 33), none⟩,
⟨some 35, .move (.tmp 3), some (14, false)⟩,
⟨some 36, .move (.tmp 4), some (14, false)⟩,
⟨some 37, .indexAddr 25 (.tmp 35) (.tmp 36), some (14, false)⟩,
⟨some 38, .fieldAddr 27 (.tmp 37) 0, some (14, false)⟩,
⟨some 39, .load 5 (.tmp 38), some (14, false)⟩,
⟨some 40, .binOp .eql 5 (.tmp 39) (.const (.int .u8 3)) 5, some (14, false)⟩,
⟨some 41, .move (.tmp 5), some (14, false)⟩,
⟨some 42, .binOp .eql 4 (.tmp 40) (.tmp 41) 4, some (14, false)⟩,
⟨some 43, .pick (.tmp 34) (.const (.bool true)) (.tmp 42), none⟩]
def f31_r7 : List LOp := [
⟨some 2, .assign (.const (.bool false)), none⟩]
def f31_r8 : List LOp := [
⟨some 44, .move (.tmp 3), none⟩,
⟨some 45, .move (.tmp 4), none⟩,
⟨some 46, .indexAddr 25 (.tmp 44) (.tmp 45), none⟩,
⟨some 47, .fieldAddr 27 (.tmp 46) 2, none⟩,
⟨some 48, .load 25 (.tmp 47), none⟩,
⟨some 49, .call ⟨.builtin .len, #[.tmp 48], #[25]⟩, none⟩,
⟨some 50, .buildSlice 83 6 #[(0, .const (.int .i64 0)), (1, .const (.int .i64 0)), (2, .const (.int .i64 0)), (3, .const (.int .i64 2)), (4, .const (.int .i64 2)), (5, .const (.int .i64 1))], none⟩,
⟨some 51, .move (.tmp 3), none⟩,
⟨some 52, .move (.tmp 4), none⟩,
⟨some 53, .indexAddr 25 (.tmp 51) (.tmp 52), none⟩,
⟨some 54, .fieldAddr 27 (.tmp 53) 0, none⟩,
⟨some 55, .load 5 (.tmp 54), none⟩,
⟨some 56, .binOp .sub 5 (.tmp 55) (.const (.int .u8 1)) 5, none⟩,
⟨some 57, .indexAddr 83 (.tmp 50) (.tmp 56), none⟩,
⟨some 58, .load 3 (.tmp 57), none⟩,
⟨some 59, .binOp .neq 3 (.tmp 49) (.tmp 58) 3, none⟩]
def f31_r9 : List LOp := [
⟨some 2, .assign (.const (.bool false)), none⟩]
def f31_r10 : List LOp := [
⟨some 60, .binOp .add 3 (.tmp 10) (.const (.int .i64 1)) 3, none⟩,
⟨some 10, .move (.tmp 60), none⟩]
def f31_l11 : LC := (.seq (.reg f31_r3 [] none) (.seq (.cond (.tmp 11) .skip (.exit 0)) (.seq (.block 1 (.seq (.reg f31_r4 [] none) (.seq (.reg f31_r5 [] none) (.seq (.seq (.reg f31_r6 [] none) (.cond (.tmp 43) (.seq (.reg f31_r7 [] none) .ret) .skip)) (.seq (.reg f31_r8 [] (some 16)) (.cond (.tmp 59) (.seq (.reg f31_r9 [] none) .ret) .skip)))))) (.reg f31_r10 [] none))))
def f31_i11 (t3 t9 t10 : D) : List D := [.any, .any, .any, t3, .any, .any, .any, .any, .any, t9, t10, .any, .any, .any, .any, .any, .any, .any, .any, .any, .any, .any, .any, .any, .any, .any, .any, .any, .any, .any, .any, .any, .any, .any, .any, .any, .any, .any, .any, .any, .any, .any, .any, .any, .any, .any, .any, .any, .any, .any, .any, .any, .any, .any, .any, .any, .any, .any, .any, .any, .any, .any, .any, .any]
def f31_r12 : List LOp := [
⟨some 61, .move (.tmp 3), none⟩,
⟨some 62, .call ⟨.builtin .len, #[.tmp 61], #[25]⟩, none⟩,
⟨some 63, .binOp .leq 3 (.tmp 62) (.const (.int .i64 2000)) 3, none⟩,
⟨some 2, .assign (.tmp 63), none⟩]
def f31_c : LC := (.seq (.reg f31_r0 [] none) (.seq (.reg f31_r1 [] none) (.seq (.seq (.reg f31_r2 [] none) (.block 0 (.loop f31_l11))) (.seq (.reg f31_r12 [] none) .ret))))
theorem f31_lc : Tryz.f31.body.map lc = some f31_c.st := by kernel_rfl
theorem f31_res : Tryz.f31.results.toList = [.tmp 2] := by kernel_rfl
theorem f31_nt : Tryz.f31.ntmps = 64 := by kernel_rfl
theorem f31_nm : (Tryz.f31.name == "runtime.NumGoroutine") = false := by kernel_rfl
def f38_r0 : List LOp := [
⟨some 4, .assign (.const (.bool false)), none⟩]
def f38_r1 : List LOp := [
⟨some 5, .move (.tmp 0), none⟩,
⟨some 6, .move (.tmp 1), none⟩,
⟨some 7, .call ⟨.value (.func 62), #[.tmp 5, .tmp 6], #[25, 59]⟩, none⟩,
⟨some 8, .binOp .geq 3 (.tmp 7) (.const (.int .i64 0)) 3, none⟩,
⟨some 4, .assign (.tmp 8), none⟩]
def f38_c : LC := (.seq (.reg f38_r0 [] none) (.seq (.reg f38_r1 [] none) .ret))
theorem f38_lc : Tryz.f38.body.map lc = some f38_c.st := by kernel_rfl
theorem f38_res : Tryz.f38.results.toList = [.tmp 4] := by kernel_rfl
theorem f38_nt : Tryz.f38.ntmps = 9 := by kernel_rfl
theorem f38_nm : (Tryz.f38.name == "runtime.NumGoroutine") = false := by kernel_rfl
def f44_r0 : List LOp := [
⟨some 1, .box 27 (.tmp 0), none⟩,
⟨some 2, .assign (.const (.string { data := #[] })), none⟩]
def f44_r1 : List LOp := [
⟨some 6, .fieldAddr 27 (.tmp 1) 0, none⟩,
⟨some 7, .load 5 (.tmp 6), none⟩,
⟨some 8, .binOp .eql 5 (.tmp 7) (.const (.int .u8 1)) 5, none⟩]
def f44_r2 : List LOp := [
⟨some 2, .assign (.const (.string { data := #[91, 93] })), none⟩]
def f44_r3 : List LOp := [
⟨some 9, .fieldAddr 27 (.tmp 1) 0, none⟩,
⟨some 10, .load 5 (.tmp 9), none⟩,
⟨some 11, .binOp .eql 5 (.tmp 10) (.const (.int .u8 2)) 5, none⟩]
def f44_r4 : List LOp := [
⟨some 2, .assign (.const (.string { data := #[40, 41] })), none⟩]
def f44_r5 : List LOp := [
⟨some 12, .fieldAddr 27 (.tmp 1) 0, none⟩,
⟨some 13, .load 5 (.tmp 12), none⟩,
⟨some 14, .binOp .eql 5 (.tmp 13) (.const (.int .u8 3)) 5, none⟩]
def f44_r6 : List LOp := [
⟨some 15, .fieldAddr 27 (.tmp 1) 1, none⟩,
⟨some 16, .load 24 (.tmp 15), none⟩,
⟨some 17, .call ⟨.value (.func 63), #[.tmp 16], #[24]⟩, none⟩,
⟨some 2, .assign (.tmp 17), none⟩]
def f44_r7 : List LOp := [
⟨some 18, .fieldAddr 27 (.tmp 1) 2, none⟩,
⟨some 19, .load 25 (.tmp 18), none⟩,
⟨some 20, .indexAddr 25 (.tmp 19) (.const (.int .i64 0)), none⟩,
⟨some 21, .load 27 (.tmp 20), none⟩,
⟨some 3, .alloc 27, none⟩,
⟨none, .store 27 (.tmp 3) (.tmp 21), none⟩]
def f44_r8 : List LOp := [
⟨some 22, .load 27 (.tmp 3), none⟩,
⟨some 23, .call ⟨.value (.func 44), #[.tmp 22], #[27]⟩, none⟩,
⟨some 4, .assign (.tmp 23), none⟩]
def f44_r9 : List LOp := [
⟨some 24, .fieldAddr 27 (.tmp 1) 0, none⟩,
⟨some 25, .load 5 (.tmp 24), none⟩,
⟨some 26, .binOp .eql 5 (.tmp 25) (.const (.int .u8 6)) 5, none⟩]
def f44_r10 : List LOp := [
⟨some 27, .move (.tmp 4), none⟩,
⟨some 28, .fieldAddr 27 (.tmp 3) 0, none⟩,
⟨some 29, .load 5 (.tmp 28), none⟩,
⟨some 30, .binOp .eql 5 (.tmp 29) (.const (.int .u8 4)) 5, none⟩,
⟨some 31, .move (.tmp 30), none⟩,
⟨some 32, .fieldAddr 27 (.tmp 3) 0, some (4, false)⟩,
⟨some 33, .load 5 (.tmp 32), some (4, false)⟩,
⟨some 34, .binOp .eql 5 (.tmp 33) (.const (.int .u8 5)) 5, some (4, false)⟩,
⟨some 35, .pick (.tmp 31) (.const (.bool true)) (.tmp 34), none⟩,
⟨some 36, .call ⟨.value (.func 64), #[.tmp 27, .tmp 35], #[9, 4]⟩, none⟩,
⟨some 37, .binOp .add 9 (.tmp 36) (.const (.string { data := #[42] })) 9, none⟩,
⟨some 2, .assign (.tmp 37), none⟩]
def f44_r11 : List LOp := [
⟨some 38, .fieldAddr 27 (.tmp 1) 2, none⟩,
⟨some 39, .load 25 (.tmp 38), none⟩,
⟨some 40, .indexAddr 25 (.tmp 39) (.const (.int .i64 1)), none⟩,
⟨some 41, .load 27 (.tmp 40), none⟩,
⟨some 5, .alloc 27, none⟩,
⟨none, .store 27 (.tmp 5) (.tmp 41), none⟩]
def f44_r12 : List LOp := [
⟨some 42, .fieldAddr 27 (.tmp 1) 0, none⟩,
⟨some 43, .load 5 (.tmp 42), none⟩,
⟨some 44, .binOp .eql 5 (.tmp 43) (.const (.int .u8 4)) 5, none⟩]
def f44_r13 : List LOp := [
⟨some 45, .move (.tmp 4), none⟩,
⟨some 46, .fieldAddr 27 (.tmp 3) 0, none⟩,
⟨some 47, .load 5 (.tmp 46), none⟩,
⟨some 48, .binOp .eql 5 (.tmp 47) (.const (.int .u8 4)) 5, none⟩,
⟨some 49, .move (.tmp 48), none⟩,
⟨some 50, .fieldAddr 27 (.tmp 3) 0, some (4, false)⟩,
⟨some 51, .load 5 (.tmp 50), some (4, false)⟩,
⟨some 52, .binOp .eql 5 (.tmp 51) (.const (.int .u8 5)) 5, some (4, false)⟩,
⟨some 53, .pick (.tmp 49) (.const (.bool true)) (.tmp 52), none⟩,
⟨some 54, .call ⟨.value (.func 64), #[.tmp 45, .tmp 53], #[9, 4]⟩, none⟩,
⟨some 55, .load 27 (.tmp 5), none⟩,
⟨some 56, .call ⟨.value (.func 44), #[.tmp 55], #[27]⟩, none⟩,
⟨some 57, .fieldAddr 27 (.tmp 5) 0, none⟩,
⟨some 58, .load 5 (.tmp 57), none⟩,
⟨some 59, .binOp .eql 5 (.tmp 58) (.const (.int .u8 5)) 5, none⟩,
⟨some 60, .call ⟨.value (.func 64), #[.tmp 56, .tmp 59], #[9, 4]⟩, none⟩,
⟨some 61, .binOp .add 9 (.tmp 54) (.tmp 60) 9, none⟩,
⟨some 2, .assign (.tmp 61), none⟩]
def f44_r14 : List LOp := [
⟨some 62, .move (.tmp 4), none⟩,
⟨some 63, .fieldAddr 27 (.tmp 3) 0, none⟩,
⟨some 64, .load 5 (.tmp 63), none⟩,
⟨some 65, .binOp .eql 5 (.tmp 64) (.const (.int .u8 5)) 5, none⟩,
⟨some 66, .call ⟨.value (.func 64), #[.tmp 62, .tmp 65], #[9, 4]⟩, none⟩,
⟨some 67, .binOp .add 9 (.tmp 66) (.const (.string { data := #[124] })) 9, none⟩,
⟨some 68, .load 27 (.tmp 5), none⟩,
⟨some 69, .call ⟨.value (.func 44), #[.tmp 68], #[27]⟩, none⟩,
⟨some 70, .binOp .add 9 (.tmp 67) (.tmp 69) 9, none⟩,
⟨some 2, .assign (.tmp 70), none⟩]
def f44_c : LC := (.seq (.reg f44_r0 [] none) (.seq (.seq (.reg f44_r1 [] none) (.cond (.tmp 8) (.seq (.reg f44_r2 [] none) .ret) .skip)) (.seq (.seq (.reg f44_r3 [] none) (.cond (.tmp 11) (.seq (.reg f44_r4 [] none) .ret) .skip)) (.seq (.seq (.reg f44_r5 [] none) (.cond (.tmp 14) (.seq (.reg f44_r6 [] none) .ret) .skip)) (.seq (.reg f44_r7 [] none) (.seq (.reg f44_r8 [] none) (.seq (.seq (.reg f44_r9 [] none) (.cond (.tmp 26) (.seq (.reg f44_r10 [] none) .ret) .skip)) (.seq (.reg f44_r11 [] none) (.seq (.seq (.reg f44_r12 [] none) (.cond (.tmp 44) (.seq (.reg f44_r13 [] (some 15)) .ret) .skip)) (.seq (.reg f44_r14 [] (some 8)) .ret))))))))))
theorem f44_lc : Tryz.f44.body.map lc = some f44_c.st := by kernel_rfl
theorem f44_res : Tryz.f44.results.toList = [.tmp 2] := by kernel_rfl
theorem f44_nt : Tryz.f44.ntmps = 71 := by kernel_rfl
theorem f44_nm : (Tryz.f44.name == "runtime.NumGoroutine") = false := by kernel_rfl
def f45_r0 : List LOp := [
⟨some 2, .alloc 27, none⟩,
⟨some 3, .alloc 3, none⟩,
⟨some 4, .alloc 30, none⟩]
def f45_r1 : List LOp := [
⟨some 5, .makeFunc (.func 65) #[] #[.tmp 2, .tmp 3, .tmp 4], none⟩,
⟨none, .defer ⟨.value (.tmp 5), #[], #[]⟩, none⟩]
def f45_r2 : List LOp := [
⟨some 6, .move (.tmp 0), none⟩,
⟨some 7, .call ⟨.value (.func 66), #[.tmp 6], #[66]⟩, none⟩,
⟨none, .store 27 (.tmp 2) (.tmp 7), none⟩]
def f45_r3 : List LOp := [
⟨some 8, .move (.tmp 0), none⟩,
⟨some 9, .nilCheck (.tmp 8), none⟩,
⟨some 10, .fieldAddr 68 (.tmp 9) 1, none⟩,
⟨some 11, .load 3 (.tmp 10), none⟩,
⟨some 12, .move (.tmp 0), none⟩,
⟨some 13, .nilCheck (.tmp 12), none⟩,
⟨some 14, .fieldAddr 68 (.tmp 13) 0, none⟩,
⟨some 15, .load 9 (.tmp 14), none⟩,
⟨some 16, .call ⟨.builtin .len, #[.tmp 15], #[9]⟩, none⟩,
⟨some 17, .binOp .lss 3 (.tmp 11) (.tmp 16) 3, none⟩]
def f45_r4 : List LOp := [
⟨some 18, .move (.tmp 0), none⟩,
⟨some 19, .nilCheck (.tmp 18), none⟩,
⟨some 20, .fieldAddr 68 (.tmp 19) 1, none⟩,
⟨some 21, .load 3 (.tmp 20), none⟩,
⟨some 22, .build 93 #[(0, .tmp 21)], none⟩,
⟨some 23, .makeInterface 93 (.tmp 22), none⟩,
⟨none, .panic (.tmp 23), none⟩]
def f45_r5 : List LOp := [
⟨some 24, .load 27 (.tmp 2), none⟩,
⟨none, .store 27 (.tmp 2) (.tmp 24), none⟩,
⟨none, .store 3 (.tmp 3) (.const (.int .i64 0)), none⟩,
⟨none, .store 30 (.tmp 4) (.const (.int .i64 0)), none⟩]
def f45_c : LC := (.seq (.reg f45_r0 [] none) (.seq (.reg f45_r1 [] none) (.seq (.reg f45_r2 [] none) (.seq (.seq (.reg f45_r3 [] (some 9)) (.cond (.tmp 17) (.reg f45_r4 [] none) .skip)) (.seq (.reg f45_r5 [] none) .ret)))))
theorem f45_lc : Tryz.f45.body.map lc = some f45_c.st := by kernel_rfl
theorem f45_res : Tryz.f45.results.toList = [.cell 2 27, .cell 3 3, .cell 4 30] := by kernel_rfl
theorem f45_nt : Tryz.f45.ntmps = 25 := by kernel_rfl
theorem f45_nm : (Tryz.f45.name == "runtime.NumGoroutine") = false := by kernel_rfl
def f46_r0 : List LOp := [
⟨some 4, .box 27 (.tmp 1), none⟩]
def f46_r1 : List LOp := [
⟨some 7, .move (.tmp 2), none⟩,
⟨some 8, .fieldAddr 27 (.tmp 4) 0, none⟩,
⟨some 9, .load 5 (.tmp 8), none⟩,
⟨some 10, .call ⟨.value (.func 67), #[.tmp 7, .tmp 9], #[72, 5]⟩, none⟩,
⟨some 6, .assign (.tmp 10), none⟩]
def f46_r2 : List LOp := [
⟨some 11, .move (.tmp 6), none⟩]
def f46_r3 : List LOp := [
⟨some 12, .move (.tmp 0), none⟩,
⟨some 13, .nilCheck (.tmp 12), none⟩,
⟨some 14, .fieldAddr 76 (.tmp 13) 0, none⟩,
⟨some 15, .call ⟨.value (.func 68), #[.tmp 14, .const (.int .u8 40)], #[74, 5]⟩, none⟩]
def f46_r4 : List LOp := [
⟨some 16, .fieldAddr 27 (.tmp 4) 0, none⟩,
⟨some 17, .load 5 (.tmp 16), none⟩]
def f46_r5 : List LOp := [
⟨some 19, .binOp .eql 5 (.tmp 17) (.const (.int .u8 1)) 5, none⟩,
⟨some 18, .assign (.tmp 19), none⟩]
def f46_r6 : List LOp := [
⟨some 20, .move (.tmp 0), none⟩,
⟨some 21, .nilCheck (.tmp 20), none⟩,
⟨some 22, .fieldAddr 76 (.tmp 21) 0, none⟩,
⟨some 23, .call ⟨.value (.func 69), #[.tmp 22, .const (.string { data := #[91, 93] })], #[74, 9]⟩, none⟩]
def f46_r7 : List LOp := [
⟨some 25, .binOp .eql 5 (.tmp 17) (.const (.int .u8 2)) 5, none⟩,
⟨some 24, .assign (.tmp 25), none⟩]
def f46_r8 : List LOp := [
⟨some 26, .move (.tmp 0), none⟩,
⟨some 27, .nilCheck (.tmp 26), none⟩,
⟨some 28, .fieldAddr 76 (.tmp 27) 0, none⟩,
⟨some 29, .call ⟨.value (.func 69), #[.tmp 28, .const (.string { data := #[40, 41] })], #[74, 9]⟩, none⟩]
def f46_r9 : List LOp := [
⟨some 31, .binOp .eql 5 (.tmp 17) (.const (.int .u8 3)) 5, none⟩,
⟨some 30, .assign (.tmp 31), none⟩]
def f46_r10 : List LOp := [
⟨some 32, .move (.tmp 0), none⟩,
⟨some 33, .nilCheck (.tmp 32), none⟩,
⟨some 34, .fieldAddr 76 (.tmp 33) 0, none⟩,
⟨some 35, .fieldAddr 27 (.tmp 4) 1, none⟩,
⟨some 36, .load 24 (.tmp 35), none⟩,
⟨some 37, .call ⟨.value (.func 70), #[.tmp 36], #[24]⟩, none⟩,
⟨some 38, .call ⟨.value (.func 69), #[.tmp 34, .tmp 37], #[74, 9]⟩, none⟩]
def f46_r11 : List LOp := [
⟨some 40, .binOp .eql 5 (.tmp 17) (.const (.int .u8 4)) 5, none⟩,
⟨some 39, .assign (.tmp 40), none⟩]
def f46_r12 : List LOp := [
⟨some 41, .move (.tmp 0), none⟩,
⟨some 42, .fieldAddr 27 (.tmp 4) 2, none⟩,
⟨some 43, .load 25 (.tmp 42), none⟩,
⟨some 44, .indexAddr 25 (.tmp 43) (.const (.int .i64 0)), none⟩,
⟨some 45, .load 27 (.tmp 44), none⟩,
⟨some 46, .buildSlice 72 2 #[(0, .const (.int .u8 4)), (1, .const (.int .u8 5))], none⟩,
⟨some 47, .call ⟨.value (.func 46), #[.tmp 41, .tmp 45, .tmp 46], #[70, 27, 72]⟩, none⟩]
def f46_r13 : List LOp := [
⟨some 48, .move (.tmp 0), none⟩,
⟨some 49, .fieldAddr 27 (.tmp 4) 2, none⟩,
⟨some 50, .load 25 (.tmp 49), none⟩,
⟨some 51, .indexAddr 25 (.tmp 50) (.const (.int .i64 1)), none⟩,
⟨some 52, .load 27 (.tmp 51), none⟩,
⟨some 53, .buildSlice 72 1 #[(0, .const (.int .u8 5))], none⟩,
⟨some 54, .call ⟨.value (.func 46), #[.tmp 48, .tmp 52, .tmp 53], #[70, 27, 72]⟩, none⟩]
def f46_r14 : List LOp := [
⟨some 56, .binOp .eql 5 (.tmp 17) (.const (.int .u8 5)) 5, none⟩,
⟨some 55, .assign (.tmp 56), none⟩]
def f46_r15 : List LOp := [
⟨some 57, .move (.tmp 0), none⟩,
⟨some 58, .fieldAddr 27 (.tmp 4) 2, none⟩,
⟨some 59, .load 25 (.tmp 58), none⟩,
⟨some 60, .indexAddr 25 (.tmp 59) (.const (.int .i64 0)), none⟩,
⟨some 61, .load 27 (.tmp 60), none⟩,
⟨some 62, .buildSlice 72 1 #[(0, .const (.int .u8 5))], none⟩,
⟨some 63, .call ⟨.value (.func 46), #[.tmp 57, .tmp 61, .tmp 62], #[70, 27, 72]⟩, none⟩]
def f46_r16 : List LOp := [
⟨some 64, .move (.tmp 0), none⟩,
⟨some 65, .nilCheck (.tmp 64), none⟩,
⟨some 66, .fieldAddr 76 (.tmp 65) 0, none⟩,
⟨some 67, .call ⟨.value (.func 68), #[.tmp 66, .const (.int .u8 124)], #[74, 5]⟩, none⟩]
def f46_r17 : List LOp := [
⟨some 68, .move (.tmp 0), none⟩,
⟨some 69, .fieldAddr 27 (.tmp 4) 2, none⟩,
⟨some 70, .load 25 (.tmp 69), none⟩,
⟨some 71, .indexAddr 25 (.tmp 70) (.const (.int .i64 1)), none⟩,
⟨some 72, .load 27 (.tmp 71), none⟩,
⟨some 73, .call ⟨.value (.func 46), #[.tmp 68, .tmp 72, .const (.slice none 0 0)], #[70, 27, 72]⟩, none⟩]
def f46_r18 : List LOp := [
⟨some 75, .binOp .eql 5 (.tmp 17) (.const (.int .u8 6)) 5, none⟩,
⟨some 74, .assign (.tmp 75), none⟩]
def f46_r19 : List LOp := [
⟨some 76, .move (.tmp 0), none⟩,
⟨some 77, .fieldAddr 27 (.tmp 4) 2, none⟩,
⟨some 78, .load 25 (.tmp 77), none⟩,
⟨some 79, .indexAddr 25 (.tmp 78) (.const (.int .i64 0)), none⟩,
⟨some 80, .load 27 (.tmp 79), none⟩,
⟨some 81, .buildSlice 72 2 #[(0, .const (.int .u8 4)), (1, .const (.int .u8 5))], none⟩,
⟨some 82, .call ⟨.value (.func 46), #[.tmp 76, .tmp 80, .tmp 81], #[70, 27, 72]⟩, none⟩]
def f46_r20 : List LOp := [
⟨some 83, .move (.tmp 0), none⟩,
⟨some 84, .nilCheck (.tmp 83), none⟩,
⟨some 85, .fieldAddr 76 (.tmp 84) 0, none⟩,
⟨some 86, .call ⟨.value (.func 68), #[.tmp 85, .const (.int .u8 42)], #[74, 5]⟩, none⟩]
def f46_r21 : List LOp := [
⟨some 87, .move (.tmp 6), none⟩]
def f46_r22 : List LOp := [
⟨some 88, .move (.tmp 0), none⟩,
⟨some 89, .nilCheck (.tmp 88), none⟩,
⟨some 90, .fieldAddr 76 (.tmp 89) 0, none⟩,
⟨some 91, .call ⟨.value (.func 68), #[.tmp 90, .const (.int .u8 41)], #[74, 5]⟩, none⟩]
def f46_c : LC := (.seq (.reg f46_r0 [] none) (.seq (.reg f46_r1 [] none) (.seq (.seq (.reg f46_r2 [] none) (.cond (.tmp 11) (.reg f46_r3 [] none) .skip)) (.seq (.seq (.reg f46_r4 [] none) (.block 0 (.seq (.reg f46_r5 [] none) (.cond (.tmp 18) (.reg f46_r6 [] none) (.seq (.reg f46_r7 [] none) (.cond (.tmp 24) (.reg f46_r8 [] none) (.seq (.reg f46_r9 [] none) (.cond (.tmp 30) (.reg f46_r10 [] (some 6)) (.seq (.reg f46_r11 [] none) (.cond (.tmp 39) (.seq (.reg f46_r12 [] none) (.reg f46_r13 [] none)) (.seq (.reg f46_r14 [] none) (.cond (.tmp 55) (.seq (.reg f46_r15 [] none) (.seq (.reg f46_r16 [] none) (.reg f46_r17 [] none))) (.seq (.reg f46_r18 [] none) (.cond (.tmp 74) (.seq (.reg f46_r19 [] none) (.reg f46_r20 [] none)) .skip)))))))))))))) (.seq (.reg f46_r21 [] none) (.cond (.tmp 87) (.reg f46_r22 [] none) .skip))))))
theorem f46_lc : Tryz.f46.body.map lc = some f46_c.st := by kernel_rfl
theorem f46_res : Tryz.f46.results.toList = [] := by kernel_rfl
theorem f46_nt : Tryz.f46.ntmps = 92 := by kernel_rfl
theorem f46_nm : (Tryz.f46.name == "runtime.NumGoroutine") = false := by kernel_rfl
def f48_r0 : List LOp := [
⟨some 1, .box 27 (.tmp 0), none⟩,
⟨some 2, .assign (.const (.bool false)), none⟩]
def f48_r1 : List LOp := [
⟨some 3, .load 27 (.tmp 1), none⟩,
⟨some 4, .call ⟨.value (.func 49), #[.tmp 3], #[27]⟩, none⟩,
⟨some 5, .unOp .not 4 (.tmp 4), none⟩,
⟨some 6, .move (.tmp 5), none⟩,
⟨some 7, .load 27 (.tmp 1), some (3, false)⟩,
⟨some 8, .buildSlice 25 1 #[(0, .tmp 7)], some (3, false)⟩,
⟨some 9, .call ⟨.value (.func 50), #[.tmp 8], #[25]⟩, some (3, false)⟩,
⟨some 10, .binOp .gtr 3 (.tmp 9) (.const (.int .i64 2000)) 3, some (3, false)⟩,
⟨some 11, .pick (.tmp 6) (.const (.bool true)) (.tmp 10), none⟩,
⟨some 2, .assign (.tmp 11), none⟩]
def f48_c : LC := (.seq (.reg f48_r0 [] none) (.seq (.reg f48_r1 [] none) .ret))
theorem f48_lc : Tryz.f48.body.map lc = some f48_c.st := by kernel_rfl
theorem f48_res : Tryz.f48.results.toList = [.tmp 2] := by kernel_rfl
theorem f48_nt : Tryz.f48.ntmps = 12 := by kernel_rfl
theorem f48_nm : (Tryz.f48.name == "runtime.NumGoroutine") = false := by kernel_rfl
def f49_r0 : List LOp := [
⟨some 1, .box 27 (.tmp 0), none⟩,
⟨some 2, .assign (.const (.bool false)), none⟩]
def f49_r1 : List LOp := [
⟨some 3, .load 27 (.tmp 1), none⟩,
⟨some 4, .call ⟨.value (.func 71), #[.tmp 3], #[27]⟩, none⟩,
⟨some 5, .move (.tmp 4), none⟩,
⟨some 6, .fieldAddr 27 (.tmp 1) 2, some (2, true)⟩,
⟨some 7, .load 25 (.tmp 6), some (2, true)⟩,
⟨some 8, .call ⟨.value (.func 38), #[.tmp 7, .func 72], #[25, 59]⟩, some (2, true)⟩,
⟨some 9, .unOp .not 4 (.tmp 8), some (2, true)⟩,
⟨some 10, .pick (.tmp 5) (.tmp 9) (.const (.bool false)), none⟩,
⟨some 2, .assign (.tmp 10), none⟩]
def f49_c : LC := (.seq (.reg f49_r0 [] none) (.seq (.reg f49_r1 [] none) .ret))
theorem f49_lc : Tryz.f49.body.map lc = some f49_c.st := by kernel_rfl
theorem f49_res : Tryz.f49.results.toList = [.tmp 2] := by kernel_rfl
theorem f49_nt : Tryz.f49.ntmps = 11 := by kernel_rfl
theorem f49_nm : (Tryz.f49.name == "runtime.NumGoroutine") = false := by kernel_rfl
def f50_r0 : List LOp := [
⟨some 2, .assign (.const (.int .i64 0)), none⟩]
def f50_r1 : List LOp := [
⟨some 6, .move (.tmp 0), none⟩,
⟨some 7, .call ⟨.builtin .len, #[.tmp 6], #[25]⟩, none⟩,
⟨some 3, .assign (.tmp 7), none⟩]
def f50_r2 : List LOp := [
⟨some 8, .move (.tmp 0), none⟩,
⟨some 9, .call ⟨.builtin .len, #[.tmp 8], #[25]⟩, none⟩,
⟨some 10, .move (.const (.int .i64 0)), none⟩]
def f50_r3 : List LOp := [
⟨some 11, .binOp .lss 3 (.tmp 10) (.tmp 9) 3, none⟩]
def f50_r4 : List LOp := [
⟨some 12, .indexAddr 25 (.tmp 8) (.tmp 10), none⟩,
⟨some 13, .load 27 (.tmp 12), none⟩,
⟨some 5, .alloc 27, none⟩,
⟨none, .store 27 (.tmp 5) (.tmp 13), none⟩]
def f50_r5 : List LOp := [
⟨some 14, .move (.tmp 3), none⟩,
⟨some 15, .fieldAddr 27 (.tmp 5) 2, none⟩,
⟨some 16, .load 25 (.tmp 15), none⟩,
⟨some 17, .call ⟨.value (.func 50), #[.tmp 16], #[25]⟩, none⟩,
⟨some 18, .binOp .add 3 (.tmp 14) (.tmp 17) 3, none⟩,
⟨some 3, .assign (.tmp 18), none⟩]
def f50_r6 : List LOp := [
⟨some 19, .binOp .add 3 (.tmp 10) (.const (.int .i64 1)) 3, none⟩,
⟨some 10, .move (.tmp 19), none⟩]
def f50_l7 : LC := (.seq (.reg f50_r3 [] none) (.seq (.cond (.tmp 11) .skip (.exit 0)) (.seq (.block 1 (.seq (.reg f50_r4 [] none) (.reg f50_r5 [] none))) (.reg f50_r6 [] none))))
def f50_i7 (t3 t8 t9 t10 : D) : List D := [.any, .any, .any, t3, .any, .any, .any, .any, t8, t9, t10, .any, .any, .any, .any, .any, .any, .any, .any, .any, .any]
def f50_r8 : List LOp := [
⟨some 20, .move (.tmp 3), none⟩,
⟨some 2, .assign (.tmp 20), none⟩]
def f50_c : LC := (.seq (.reg f50_r0 [] none) (.seq (.reg f50_r1 [] none) (.seq (.seq (.reg f50_r2 [] none) (.block 0 (.loop f50_l7))) (.seq (.reg f50_r8 [] none) .ret))))
theorem f50_lc : Tryz.f50.body.map lc = some f50_c.st := by kernel_rfl
theorem f50_res : Tryz.f50.results.toList = [.tmp 2] := by kernel_rfl
theorem f50_nt : Tryz.f50.ntmps = 21 := by kernel_rfl
theorem f50_nm : (Tryz.f50.name == "runtime.NumGoroutine") = false := by kernel_rfl
def f52_r0 : List LOp := [
⟨some 2, .alloc 27, none⟩]
def f52_r1 : List LOp := [
⟨some 3, .move (.tmp 0), none⟩,
⟨some 4, .call ⟨.value (.func 73), #[.const (.int .u8 4), .const (.int .u8 2), .tmp 3], #[5, 5, 25]⟩, none⟩,
⟨none, .store 27 (.tmp 2) (.tmp 4), none⟩]
def f52_c : LC := (.seq (.reg f52_r0 [] none) (.seq (.reg f52_r1 [] none) .ret))
theorem f52_lc : Tryz.f52.body.map lc = some f52_c.st := by kernel_rfl
theorem f52_res : Tryz.f52.results.toList = [.cell 2 27] := by kernel_rfl
theorem f52_nt : Tryz.f52.ntmps = 5 := by kernel_rfl
theorem f52_nm : (Tryz.f52.name == "runtime.NumGoroutine") = false := by kernel_rfl
def f53_r0 : List LOp := [
⟨some 2, .alloc 27, none⟩]
def f53_r1 : List LOp := [
⟨some 3, .move (.tmp 0), none⟩,
⟨some 4, .call ⟨.value (.func 73), #[.const (.int .u8 5), .const (.int .u8 1), .tmp 3], #[5, 5, 25]⟩, none⟩,
⟨none, .store 27 (.tmp 2) (.tmp 4), none⟩]
def f53_c : LC := (.seq (.reg f53_r0 [] none) (.seq (.reg f53_r1 [] none) .ret))
theorem f53_lc : Tryz.f53.body.map lc = some f53_c.st := by kernel_rfl
theorem f53_res : Tryz.f53.results.toList = [.cell 2 27] := by kernel_rfl
theorem f53_nt : Tryz.f53.ntmps = 5 := by kernel_rfl
theorem f53_nm : (Tryz.f53.name == "runtime.NumGoroutine") = false := by kernel_rfl
def f54_r0 : List LOp := [
⟨some 1, .box 27 (.tmp 0), none⟩,
⟨some 2, .assign (.const (.slice none 0 0)), none⟩]
def f54_r1 : List LOp := [
⟨some 5, .load 27 (.tmp 1), none⟩,
⟨some 6, .buildSlice 25 1 #[(0, .tmp 5)], none⟩,
⟨some 3, .assign (.tmp 6), none⟩]
def f54_r2 : List LOp := [
⟨some 7, .fieldAddr 27 (.tmp 1) 2, none⟩,
⟨some 8, .load 25 (.tmp 7), none⟩,
⟨some 9, .call ⟨.builtin .len, #[.tmp 8], #[25]⟩, none⟩,
⟨some 10, .move (.const (.int .i64 0)), none⟩]
def f54_r3 : List LOp := [
⟨some 11, .binOp .lss 3 (.tmp 10) (.tmp 9) 3, none⟩]
def f54_r4 : List LOp := [
⟨some 12, .move (.tmp 10), none⟩,
⟨some 4, .assign (.tmp 12), none⟩]
def f54_r5 : List LOp := [
⟨some 13, .move (.tmp 3), none⟩,
⟨some 14, .fieldAddr 27 (.tmp 1) 2, none⟩,
⟨some 15, .load 25 (.tmp 14), none⟩,
⟨some 16, .move (.tmp 4), none⟩,
⟨some 17, .indexAddr 25 (.tmp 15) (.tmp 16), none⟩,
⟨some 18, .load 27 (.tmp 17), none⟩,
⟨some 19, .call ⟨.value (.func 54), #[.tmp 18], #[27]⟩, none⟩,
⟨some 20, .call ⟨.builtin .append, #[.tmp 13, .tmp 19], #[25, 25]⟩, none⟩,
⟨some 3, .assign (.tmp 20), none⟩]
def f54_r6 : List LOp := [
⟨some 21, .binOp .add 3 (.tmp 10) (.const (.int .i64 1)) 3, none⟩,
⟨some 10, .move (.tmp 21), none⟩]
def f54_l7 : LC := (.seq (.reg f54_r3 [] none) (.seq (.cond (.tmp 11) .skip (.exit 0)) (.seq (.block 1 (.seq (.reg f54_r4 [] none) (.reg f54_r5 [] none))) (.reg f54_r6 [] none))))
def f54_i7 (t1 t3 t9 t10 : D) : List D := [.any, t1, .any, t3, .any, .any, .any, .any, .any, t9, t10, .any, .any, .any, .any, .any, .any, .any, .any, .any, .any, .any, .any]
def f54_r8 : List LOp := [
⟨some 22, .move (.tmp 3), none⟩,
⟨some 2, .assign (.tmp 22), none⟩]
def f54_c : LC := (.seq (.reg f54_r0 [] none) (.seq (.reg f54_r1 [1] none) (.seq (.seq (.reg f54_r2 [] none) (.block 0 (.loop f54_l7))) (.seq (.reg f54_r8 [] none) .ret))))
theorem f54_lc : Tryz.f54.body.map lc = some f54_c.st := by kernel_rfl
theorem f54_res : Tryz.f54.results.toList = [.tmp 2] := by kernel_rfl
theorem f54_nt : Tryz.f54.ntmps = 23 := by kernel_rfl
theorem f54_nm : (Tryz.f54.name == "runtime.NumGoroutine") = false := by kernel_rfl
def f55_r0 : List LOp := [
⟨some 2, .box 24 (.tmp 0), none⟩,
⟨some 4, .assign (.const (.bool false)), none⟩]
def f55_r1 : List LOp := [
⟨some 7, .move (.tmp 1), none⟩,
⟨some 8, .binOp .quo 3 (.tmp 7) (.const (.int .i64 64)) 3, none⟩,
⟨some 9, .indexAddr 24 (.tmp 2) (.tmp 8), none⟩,
⟨some 10, .load 22 (.tmp 9), none⟩,
⟨some 5, .assign (.tmp 10), none⟩]
def f55_r2 : List LOp := [
⟨some 6, .assign (.const (.int .i64 0)), none⟩]
def f55_r3 : List LOp := [
⟨some 11, .move (.tmp 6), none⟩,
⟨some 12, .move (.tmp 1), none⟩,
⟨some 13, .binOp .rem 3 (.tmp 12) (.const (.int .i64 64)) 3, none⟩,
⟨some 14, .binOp .lss 3 (.tmp 11) (.tmp 13) 3, none⟩]
def f55_r4 : List LOp := [
⟨some 17, .move (.tmp 5), none⟩,
⟨some 18, .binOp .quo 22 (.tmp 17) (.const (.int .u64 2)) 22, none⟩,
⟨some 5, .assign (.tmp 18), none⟩]
def f55_r5 : List LOp := [
⟨some 15, .move (.tmp 6), none⟩,
⟨some 16, .binOp .add 3 (.tmp 15) (.const (.int .i64 1)) 3, none⟩,
⟨some 6, .assign (.tmp 16), none⟩]
def f55_l6 : LC := (.seq (.seq (.reg f55_r3 [] none) (.cond (.tmp 14) .skip (.exit 0))) (.seq (.block 1 (.reg f55_r4 [] none)) (.reg f55_r5 [] none)))
def f55_i6 (t1 t5 t6 : D) : List D := [.any, t1, .any, .any, .any, t5, t6, .any, .any, .any, .any, .any, .any, .any, .any, .any, .any, .any, .any, .any, .any, .any]
def f55_r7 : List LOp := [
⟨some 19, .move (.tmp 5), none⟩,
⟨some 20, .binOp .rem 22 (.tmp 19) (.const (.int .u64 2)) 22, none⟩,
⟨some 21, .binOp .eql 22 (.tmp 20) (.const (.int .u64 1)) 22, none⟩,
⟨some 4, .assign (.tmp 21), none⟩]
def f55_c : LC := (.seq (.reg f55_r0 [] none) (.seq (.reg f55_r1 [] none) (.seq (.seq (.reg f55_r2 [] none) (.block 0 (.loop f55_l6))) (.seq (.reg f55_r7 [] none) .ret))))
theorem f55_lc : Tryz.f55.body.map lc = some f55_c.st := by kernel_rfl
theorem f55_res : Tryz.f55.results.toList = [.tmp 4] := by kernel_rfl
theorem f55_nt : Tryz.f55.ntmps = 22 := by kernel_rfl
theorem f55_nm : (Tryz.f55.name == "runtime.NumGoroutine") = false := by kernel_rfl
def f62_r0 : List LOp := [
⟨some 4, .assign (.const (.int .i64 0)), none⟩]
def f62_r1 : List LOp := [
⟨some 6, .move (.tmp 0), none⟩,
⟨some 7, .call ⟨.builtin .len, #[.tmp 6], #[25]⟩, none⟩,
⟨some 8, .move (.const (.int .i64 0)), none⟩]
def f62_r2 : List LOp := [
⟨some 9, .binOp .lss 3 (.tmp 8) (.tmp 7) 3, none⟩]
def f62_r3 : List LOp := [
⟨some 10, .move (.tmp 8), none⟩,
⟨some 5, .assign (.tmp 10), none⟩]
def f62_r4 : List LOp := [
⟨some 11, .move (.tmp 1), none⟩,
⟨some 12, .move (.tmp 0), none⟩,
⟨some 13, .move (.tmp 5), none⟩,
⟨some 14, .indexAddr 25 (.tmp 12) (.tmp 13), none⟩,
⟨some 15, .load 27 (.tmp 14), none⟩,
⟨some 16, .call ⟨.value (.tmp 11), #[.tmp 15], #[27]⟩, none⟩]
def f62_r5 : List LOp := [
⟨some 17, .move (.tmp 5), none⟩,
⟨some 4, .assign (.tmp 17), none⟩]
def f62_r6 : List LOp := [
⟨some 18, .binOp .add 3 (.tmp 8) (.const (.int .i64 1)) 3, none⟩,
⟨some 8, .move (.tmp 18), none⟩]
def f62_l7 : LC := (.seq (.reg f62_r2 [] none) (.seq (.cond (.tmp 9) .skip (.exit 0)) (.seq (.block 1 (.seq (.reg f62_r3 [] none) (.seq (.reg f62_r4 [] none) (.cond (.tmp 16) (.seq (.reg f62_r5 [] none) .ret) .skip)))) (.reg f62_r6 [] none))))
def f62_i7 (t0 t1 t7 t8 : D) : List D := [t0, t1, .any, .any, .any, .any, .any, t7, t8, .any, .any, .any, .any, .any, .any, .any, .any, .any, .any]
def f62_r8 : List LOp := [
⟨some 4, .assign (.const (.int .i64 (-1))), none⟩]
def f62_c : LC := (.seq (.reg f62_r0 [] none) (.seq (.seq (.reg f62_r1 [] none) (.block 0 (.loop f62_l7))) (.seq (.reg f62_r8 [] none) .ret)))
theorem f62_lc : Tryz.f62.body.map lc = some f62_c.st := by kernel_rfl
theorem f62_res : Tryz.f62.results.toList = [.tmp 4] := by kernel_rfl
theorem f62_nt : Tryz.f62.ntmps = 19 := by kernel_rfl
theorem f62_nm : (Tryz.f62.name == "runtime.NumGoroutine") = false := by kernel_rfl
def f63_r0 : List LOp := [
⟨some 1, .box 24 (.tmp 0), none⟩,
⟨some 2, .assign (.const (.string { data := #[] })), none⟩]
def f63_r1 : List LOp := [
⟨some 7, .load 24 (.tmp 1), none⟩,
⟨some 8, .call ⟨.value (.func 84), #[.tmp 7], #[24]⟩, none⟩,
⟨some 3, .assign (.tmp 8), none⟩]
def f63_r2 : List LOp := [
⟨some 9, .move (.tmp 3), none⟩,
⟨some 10, .call ⟨.builtin .len, #[.tmp 9], #[72]⟩, none⟩,
⟨some 11, .binOp .eql 3 (.tmp 10) (.const (.int .i64 256)) 3, none⟩]
def f63_r3 : List LOp := [
⟨some 2, .assign (.const (.string { data := #[46] })), none⟩]
def f63_r4 : List LOp := [
⟨some 12, .move (.tmp 3), none⟩,
⟨some 13, .call ⟨.builtin .len, #[.tmp 12], #[72]⟩, none⟩,
⟨some 14, .binOp .eql 3 (.tmp 13) (.const (.int .i64 1)) 3, none⟩]
def f63_r5 : List LOp := [
⟨some 15, .move (.tmp 3), none⟩,
⟨some 16, .indexAddr 72 (.tmp 15) (.const (.int .i64 0)), none⟩,
⟨some 17, .load 5 (.tmp 16), none⟩,
⟨some 18, .call ⟨.value (.func 85), #[.tmp 17], #[5]⟩, none⟩,
⟨some 2, .assign (.tmp 18), none⟩]
def f63_r6 : List LOp := [
⟨some 4, .assign (.const (.string { data := #[91] })), none⟩]
def f63_r7 : List LOp := [
⟨some 5, .assign (.const (.int .i64 0)), none⟩]
def f63_r8 : List LOp := [
⟨some 19, .move (.tmp 5), none⟩,
⟨some 20, .binOp .lss 3 (.tmp 19) (.const (.int .i64 256)) 3, none⟩]
def f63_r9 : List LOp := [
⟨some 21, .load 24 (.tmp 1), none⟩,
⟨some 22, .move (.tmp 5), none⟩,
⟨some 23, .call ⟨.value (.func 55), #[.tmp 21, .tmp 22], #[24, 3]⟩, none⟩,
⟨some 24, .unOp .not 4 (.tmp 23), none⟩]
def f63_r10 : List LOp := [
⟨some 25, .move (.tmp 5), none⟩,
⟨some 26, .binOp .add 3 (.tmp 25) (.const (.int .i64 1)) 3, none⟩,
⟨some 5, .assign (.tmp 26), none⟩]
def f63_r11 : List LOp := [
⟨some 27, .move (.tmp 5), none⟩,
⟨some 6, .assign (.tmp 27), none⟩]
def f63_r12 : List LOp := [
⟨some 28, .move (.tmp 6), none⟩,
⟨some 29, .binOp .lss 3 (.tmp 28) (.const (.int .i64 255)) 3, none⟩,
⟨some 30, .move (.tmp 29), none⟩,
⟨some 31, .load 24 (.tmp 1), some (2, true)⟩,
⟨some 32, .move (.tmp 6), some (2, true)⟩,
⟨some 33, .binOp .add 3 (.tmp 32) (.const (.int .i64 1)) 3, some (2, true)⟩,
⟨some 34, .call ⟨.value (.func 55), #[.tmp 31, .tmp 33], #[24, 3]⟩, some (2, true)⟩,
⟨some 35, .pick (.tmp 30) (.tmp 34) (.const (.bool false)), none⟩]
def f63_r13 : List LOp := [
⟨some 36, .move (.tmp 6), none⟩,
⟨some 37, .binOp .add 3 (.tmp 36) (.const (.int .i64 1)) 3, none⟩,
⟨some 6, .assign (.tmp 37), none⟩]
def f63_l14 : LC := (.seq (.seq (.reg f63_r12 [] none) (.cond (.tmp 35) .skip (.exit 2))) (.block 3 (.reg f63_r13 [] none)))
def f63_i14 (t1 t4 t5 t6 : D) : List D := [.any, t1, .any, .any, t4, t5, t6, .any, .any, .any, .any, .any, .any, .any, .any, .any, .any, .any, .any, .any, .any, .any, .any, .any, .any, .any, .any, .any, .any, .any, .any, .any, .any, .any, .any, .any, .any, .any, .any, .any, .any, .any, .any, .any, .any, .any, .any, .any, .any, .any, .any, .any, .any, .any, .any, .any, .any, .any, .any, .any, .any]
def f63_r15 : List LOp := [
⟨some 38, .move (.tmp 4), none⟩,
⟨some 39, .move (.tmp 5), none⟩,
⟨some 40, .convert 3 5 (.tmp 39), none⟩,
⟨some 41, .call ⟨.value (.func 85), #[.tmp 40], #[5]⟩, none⟩,
⟨some 42, .binOp .add 9 (.tmp 38) (.tmp 41) 9, none⟩,
⟨some 4, .assign (.tmp 42), none⟩]
def f63_r16 : List LOp := [
⟨some 43, .move (.tmp 6), none⟩,
⟨some 44, .move (.tmp 5), none⟩,
⟨some 45, .binOp .add 3 (.tmp 44) (.const (.int .i64 1)) 3, none⟩,
⟨some 46, .binOp .gtr 3 (.tmp 43) (.tmp 45) 3, none⟩]
def f63_r17 : List LOp := [
⟨some 47, .move (.tmp 4), none⟩,
⟨some 48, .binOp .add 9 (.tmp 47) (.const (.string { data := #[45] })) 9, none⟩,
⟨some 4, .assign (.tmp 48), none⟩]
def f63_r18 : List LOp := [
⟨some 49, .move (.tmp 6), none⟩,
⟨some 50, .move (.tmp 5), none⟩,
⟨some 51, .binOp .gtr 3 (.tmp 49) (.tmp 50) 3, none⟩]
def f63_r19 : List LOp := [
⟨some 52, .move (.tmp 4), none⟩,
⟨some 53, .move (.tmp 6), none⟩,
⟨some 54, .convert 3 5 (.tmp 53), none⟩,
⟨some 55, .call ⟨.value (.func 85), #[.tmp 54], #[5]⟩, none⟩,
⟨some 56, .binOp .add 9 (.tmp 52) (.tmp 55) 9, none⟩,
⟨some 4, .assign (.tmp 56), none⟩]
def f63_r20 : List LOp := [
⟨some 57, .move (.tmp 6), none⟩,
⟨some 58, .binOp .add 3 (.tmp 57) (.const (.int .i64 1)) 3, none⟩,
⟨some 5, .assign (.tmp 58), none⟩]
def f63_l21 : LC := (.seq (.seq (.reg f63_r8 [] none) (.cond (.tmp 20) .skip (.exit 0))) (.block 1 (.seq (.seq (.reg f63_r9 [] none) (.cond (.tmp 24) (.seq (.reg f63_r10 [] none) (.exit 1)) .skip)) (.seq (.reg f63_r11 [] none) (.seq (.block 2 (.loop f63_l14)) (.seq (.reg f63_r15 [] none) (.seq (.seq (.reg f63_r16 [] none) (.cond (.tmp 46) (.reg f63_r17 [] none) .skip)) (.seq (.seq (.reg f63_r18 [] none) (.cond (.tmp 51) (.reg f63_r19 [] none) .skip)) (.reg f63_r20 [] none)))))))))
def f63_i21 (t1 t4 t5 : D) : List D := [.any, t1, .any, .any, t4, t5, .any, .any, .any, .any, .any, .any, .any, .any, .any, .any, .any, .any, .any, .any, .any, .any, .any, .any, .any, .any, .any, .any, .any, .any, .any, .any, .any, .any, .any, .any, .any, .any, .any, .any, .any, .any, .any, .any, .any, .any, .any, .any, .any, .any, .any, .any, .any, .any, .any, .any, .any, .any, .any, .any, .any]
def f63_r22 : List LOp := [
⟨some 59, .move (.tmp 4), none⟩,
⟨some 60, .binOp .add 9 (.tmp 59) (.const (.string { data := #[93] })) 9, none⟩,
⟨some 2, .assign (.tmp 60), none⟩]
def f63_c : LC := (.seq (.reg f63_r0 [] none) (.seq (.reg f63_r1 [] none) (.seq (.seq (.reg f63_r2 [] none) (.cond (.tmp 11) (.seq (.reg f63_r3 [] none) .ret) .skip)) (.seq (.seq (.reg f63_r4 [] none) (.cond (.tmp 14) (.seq (.reg f63_r5 [] none) .ret) .skip)) (.seq (.reg f63_r6 [] none) (.seq (.reg f63_r7 [] none) (.seq (.block 0 (.loop f63_l21)) (.seq (.reg f63_r22 [] none) .ret))))))))
theorem f63_lc : Tryz.f63.body.map lc = some f63_c.st := by kernel_rfl
theorem f63_res : Tryz.f63.results.toList = [.tmp 2] := by kernel_rfl
theorem f63_nt : Tryz.f63.ntmps = 61 := by kernel_rfl
theorem f63_nm : (Tryz.f63.name == "runtime.NumGoroutine") = false := by kernel_rfl
def f64_r0 : List LOp := [
⟨some 4, .assign (.const (.string { data := #[] })), none⟩]
def f64_r1 : List LOp := [
⟨some 5, .move (.tmp 1), none⟩]
def f64_r2 : List LOp := [
⟨some 6, .move (.tmp 0), none⟩,
⟨some 7, .binOp .add 9 (.const (.string { data := #[40] })) (.tmp 6) 9, none⟩,
⟨some 8, .binOp .add 9 (.tmp 7) (.const (.string { data := #[41] })) 9, none⟩,
⟨some 4, .assign (.tmp 8), none⟩]
def f64_r3 : List LOp := [
⟨some 9, .move (.tmp 0), none⟩,
⟨some 4, .assign (.tmp 9), none⟩]
def f64_c : LC := (.seq (.reg f64_r0 [] none) (.seq (.seq (.reg f64_r1 [] none) (.cond (.tmp 5) (.seq (.reg f64_r2 [] none) .ret) .skip)) (.seq (.reg f64_r3 [] none) .ret)))
theorem f64_lc : Tryz.f64.body.map lc = some f64_c.st := by kernel_rfl
theorem f64_res : Tryz.f64.results.toList = [.tmp 4] := by kernel_rfl
theorem f64_nt : Tryz.f64.ntmps = 10 := by kernel_rfl
theorem f64_nm : (Tryz.f64.name == "runtime.NumGoroutine") = false := by kernel_rfl
def f65_r0 : List LOp := [
⟨some 6, .call ⟨.builtin .recover, #[], #[]⟩, none⟩]
def f65_r1 : List LOp := [
⟨some 8, .binOp .eql 20 (.tmp 6) (.const .nilIface) 20, none⟩]
def f65_r2 : List LOp := [
⟨some 3, .assign (.tmp 6), none⟩]
def f65_r3 : List LOp := [
⟨some 9, .typeAssert (.tmp 6) 20 93 true, none⟩,
⟨some 10, .extract (.tmp 9) 1, none⟩,
⟨some 11, .extract (.tmp 9) 0, none⟩]
def f65_r4 : List LOp := [
⟨some 4, .alloc 93, none⟩,
⟨none, .store 93 (.tmp 4) (.tmp 11), none⟩]
def f65_r5 : List LOp := [
⟨some 12, .build 27 #[], none⟩,
⟨some 13, .fieldAddr 93 (.tmp 4) 0, none⟩,
⟨some 14, .load 3 (.tmp 13), none⟩,
⟨none, .store 27 (.tmp 0) (.tmp 12), none⟩,
⟨none, .store 3 (.tmp 1) (.tmp 14), none⟩,
⟨none, .store 30 (.tmp 2) (.const (.int .i64 2)), none⟩]
def f65_r6 : List LOp := [
⟨some 5, .assign (.tmp 6), none⟩]
def f65_r7 : List LOp := [
⟨some 7, .move (.tmp 5), none⟩,
⟨none, .panic (.tmp 7), none⟩]
def f65_c : LC := (.seq (.reg f65_r0 [] none) (.block 0 (.seq (.reg f65_r1 [] none) (.cond (.tmp 8) (.reg f65_r2 [] none) (.seq (.reg f65_r3 [] none) (.cond (.tmp 10) (.seq (.reg f65_r4 [] none) (.regq f65_r5 [] 0 (.both (.op 0 (.both (.op 1 (.both (.op 2 (.op 3 (.op 4 (.op 5 .done)))) (.op 3 (.op 2 (.op 4 (.op 5 .done)))))) (.op 3 (.op 1 (.op 2 (.op 4 (.op 5 .done))))))) (.op 1 (.both (.op 0 (.both (.op 2 (.op 3 (.op 4 (.op 5 .done)))) (.op 3 (.op 2 (.op 4 (.op 5 .done)))))) (.op 2 (.op 0 (.op 3 (.op 4 (.op 5 .done)))))))))) (.seq (.reg f65_r6 [] none) (.reg f65_r7 [] none))))))))
theorem f65_lc : Tryz.f65.body.map lc = some f65_c.st := by kernel_rfl
theorem f65_res : Tryz.f65.results.toList = [] := by kernel_rfl
theorem f65_nt : Tryz.f65.ntmps = 15 := by kernel_rfl
theorem f65_nm : (Tryz.f65.name == "runtime.NumGoroutine") = false := by kernel_rfl
def f66_r0 : List LOp := [
⟨some 2, .alloc 27, none⟩]
def f66_r1 : List LOp := [
⟨some 4, .move (.tmp 0), none⟩,
⟨some 5, .call ⟨.value (.func 86), #[.tmp 4], #[66]⟩, none⟩,
⟨some 6, .buildSlice 25 1 #[(0, .tmp 5)], none⟩,
⟨some 3, .assign (.tmp 6), none⟩]
def f66_r2 : List LOp := [
⟨some 7, .move (.tmp 0), none⟩,
⟨some 8, .call ⟨.value (.func 87), #[.tmp 7, .const (.string { data := #[124] })], #[66, 9]⟩, none⟩]
def f66_r3 : List LOp := [
⟨some 9, .move (.tmp 0), none⟩,
⟨some 10, .nilCheck (.tmp 9), none⟩,
⟨some 11, .fieldAddr 68 (.tmp 10) 1, none⟩,
⟨some 12, .load 3 (.tmp 11), none⟩,
⟨some 13, .binOp .add 3 (.tmp 12) (.const (.int .i64 1)) 3, none⟩,
⟨some 14, .nilCheck (.tmp 9), none⟩,
⟨some 15, .fieldAddr 68 (.tmp 14) 1, none⟩,
⟨none, .store 3 (.tmp 15) (.tmp 13), none⟩]
def f66_r4 : List LOp := [
⟨some 16, .move (.tmp 3), none⟩,
⟨some 17, .move (.tmp 0), none⟩,
⟨some 18, .call ⟨.value (.func 86), #[.tmp 17], #[66]⟩, none⟩,
⟨some 19, .buildSlice 25 1 #[(0, .tmp 18)], none⟩,
⟨some 20, .call ⟨.builtin .append, #[.tmp 16, .tmp 19], #[25, 25]⟩, none⟩,
⟨some 3, .assign (.tmp 20), none⟩]
def f66_l5 : LC := (.seq (.seq (.reg f66_r2 [] none) (.cond (.tmp 8) .skip (.exit 0))) (.block 1 (.seq (.reg f66_r3 [] none) (.reg f66_r4 [] none))))
def f66_i5 (t0 t2 t3 : D) : List D := [t0, .any, t2, t3, .any, .any, .any, .any, .any, .any, .any, .any, .any, .any, .any, .any, .any, .any, .any, .any, .any, .any, .any]
def f66_r6 : List LOp := [
⟨some 21, .move (.tmp 3), none⟩,
⟨some 22, .call ⟨.value (.func 53), #[.tmp 21], #[25]⟩, none⟩,
⟨none, .store 27 (.tmp 2) (.tmp 22), none⟩]
def f66_c : LC := (.seq (.reg f66_r0 [] none) (.seq (.reg f66_r1 [2] none) (.seq (.block 0 (.loop f66_l5)) (.seq (.reg f66_r6 [] none) .ret))))
theorem f66_lc : Tryz.f66.body.map lc = some f66_c.st := by kernel_rfl
theorem f66_res : Tryz.f66.results.toList = [.cell 2 27] := by kernel_rfl
theorem f66_nt : Tryz.f66.ntmps = 23 := by kernel_rfl
theorem f66_nm : (Tryz.f66.name == "runtime.NumGoroutine") = false := by kernel_rfl
def f67_r0 : List LOp := [
⟨some 4, .assign (.const (.bool false)), none⟩]
def f67_r1 : List LOp := [
⟨some 5, .move (.tmp 0), none⟩,
⟨some 6, .move (.tmp 1), none⟩,
⟨some 7, .call ⟨.value (.func 88), #[.tmp 5, .tmp 6], #[72, 5]⟩, none⟩,
⟨some 8, .binOp .geq 3 (.tmp 7) (.const (.int .i64 0)) 3, none⟩,
⟨some 4, .assign (.tmp 8), none⟩]
def f67_c : LC := (.seq (.reg f67_r0 [] none) (.seq (.reg f67_r1 [] none) .ret))
theorem f67_lc : Tryz.f67.body.map lc = some f67_c.st := by kernel_rfl
theorem f67_res : Tryz.f67.results.toList = [.tmp 4] := by kernel_rfl
theorem f67_nt : Tryz.f67.ntmps = 9 := by kernel_rfl
theorem f67_nm : (Tryz.f67.name == "runtime.NumGoroutine") = false := by kernel_rfl
def f68_r0 : List LOp := [
⟨some 4, .assign (.const .nilIface), none⟩]
def f68_r1 : List LOp := [
⟨some 5, .move (.tmp 0), none⟩,
⟨some 6, .call ⟨.value (.func 89), #[.tmp 5], #[71]⟩, none⟩]
def f68_r2 : List LOp := [
⟨some 7, .move (.tmp 0), none⟩,
⟨some 8, .move (.tmp 0), none⟩,
⟨some 9, .nilCheck (.tmp 8), none⟩,
⟨some 10, .fieldAddr 74 (.tmp 9) 1, none⟩,
⟨some 11, .load 72 (.tmp 10), none⟩,
⟨some 12, .move (.tmp 1), none⟩,
⟨some 13, .buildSlice 72 1 #[(0, .tmp 12)], none⟩,
⟨some 14, .call ⟨.builtin .append, #[.tmp 11, .tmp 13], #[72, 72]⟩, none⟩,
⟨some 15, .nilCheck (.tmp 7), none⟩,
⟨some 16, .fieldAddr 74 (.tmp 15) 1, none⟩,
⟨none, .store 72 (.tmp 16) (.tmp 14), none⟩]
def f68_r3 : List LOp := [
⟨some 4, .assign (.const .nilIface), none⟩]
def f68_c : LC := (.seq (.reg f68_r0 [] none) (.seq (.reg f68_r1 [] none) (.seq (.reg f68_r2 [] none) (.seq (.reg f68_r3 [] none) .ret))))
theorem f68_lc : Tryz.f68.body.map lc = some f68_c.st := by kernel_rfl
theorem f68_res : Tryz.f68.results.toList = [.tmp 4] := by kernel_rfl
theorem f68_nt : Tryz.f68.ntmps = 17 := by kernel_rfl
theorem f68_nm : (Tryz.f68.name == "runtime.NumGoroutine") = false := by kernel_rfl
def f69_r0 : List LOp := [
⟨some 4, .assign (.const (.int .i64 0)), none⟩,
⟨some 5, .assign (.const .nilIface), none⟩]
def f69_r1 : List LOp := [
⟨some 6, .move (.tmp 0), none⟩,
⟨some 7, .call ⟨.value (.func 89), #[.tmp 6], #[71]⟩, none⟩]
def f69_r2 : List LOp := [
⟨some 8, .move (.tmp 0), none⟩,
⟨some 9, .move (.tmp 0), none⟩,
⟨some 10, .nilCheck (.tmp 9), none⟩,
⟨some 11, .fieldAddr 74 (.tmp 10) 1, none⟩,
⟨some 12, .load 72 (.tmp 11), none⟩,
⟨some 13, .move (.tmp 1), none⟩,
⟨some 14, .call ⟨.builtin .append, #[.tmp 12, .tmp 13], #[72, 9]⟩, none⟩,
⟨some 15, .nilCheck (.tmp 8), none⟩,
⟨some 16, .fieldAddr 74 (.tmp 15) 1, none⟩,
⟨none, .store 72 (.tmp 16) (.tmp 14), none⟩]
def f69_r3 : List LOp := [
⟨some 17, .move (.tmp 1), none⟩,
⟨some 18, .call ⟨.builtin .len, #[.tmp 17], #[9]⟩, none⟩,
⟨some 4, .assign (.tmp 18), none⟩,
⟨some 5, .assign (.const .nilIface), none⟩]
def f69_c : LC := (.seq (.reg f69_r0 [] none) (.seq (.reg f69_r1 [] none) (.seq (.reg f69_r2 [] none) (.seq (.reg f69_r3 [] none) .ret))))
theorem f69_lc : Tryz.f69.body.map lc = some f69_c.st := by kernel_rfl
theorem f69_res : Tryz.f69.results.toList = [.tmp 4, .tmp 5] := by kernel_rfl
theorem f69_nt : Tryz.f69.ntmps = 19 := by kernel_rfl
theorem f69_nm : (Tryz.f69.name == "runtime.NumGoroutine") = false := by kernel_rfl
def f70_r0 : List LOp := [
⟨some 1, .box 24 (.tmp 0), none⟩,
⟨some 2, .assign (.const (.string { data := #[] })), none⟩]
def f70_r1 : List LOp := [
⟨some 7, .load 24 (.tmp 1), none⟩,
⟨some 8, .call ⟨.value (.func 90), #[.tmp 7], #[24]⟩, none⟩,
⟨some 3, .assign (.tmp 8), none⟩]
def f70_r2 : List LOp := [
⟨some 10, .load 24 (.tmp 1), none⟩,
⟨some 11, .call ⟨.value (.func 91), #[], #[]⟩, none⟩,
⟨some 12, .binOp .eql 24 (.tmp 10) (.tmp 11) 24, none⟩,
⟨some 9, .assign (.tmp 12), none⟩]
def f70_r3 : List LOp := [
⟨some 2, .assign (.const (.string { data := #[46] })), none⟩]
def f70_r4 : List LOp := [
⟨some 14, .move (.tmp 3), none⟩,
⟨some 15, .call ⟨.builtin .len, #[.tmp 14], #[72]⟩, none⟩,
⟨some 16, .binOp .eql 3 (.tmp 15) (.const (.int .i64 1)) 3, none⟩,
⟨some 13, .assign (.tmp 16), none⟩]
def f70_r5 : List LOp := [
⟨some 17, .move (.tmp 3), none⟩,
⟨some 18, .indexAddr 72 (.tmp 17) (.const (.int .i64 0)), none⟩,
⟨some 19, .load 5 (.tmp 18), none⟩,
⟨some 20, .call ⟨.value (.func 92), #[.tmp 19], #[5]⟩, none⟩,
⟨some 2, .assign (.tmp 20), none⟩]
def f70_r6 : List LOp := [
⟨some 4, .alloc 74, none⟩]
def f70_r7 : List LOp := [
⟨some 21, .call ⟨.value (.func 68), #[.tmp 4, .const (.int .u8 91)], #[74, 5]⟩, none⟩]
def f70_r8 : List LOp := [
⟨some 5, .assign (.const (.int .i64 0)), none⟩]
def f70_r9 : List LOp := [
⟨some 22, .move (.tmp 5), none⟩,
⟨some 23, .move (.tmp 3), none⟩,
⟨some 24, .call ⟨.builtin .len, #[.tmp 23], #[72]⟩, none⟩,
⟨some 25, .binOp .lss 3 (.tmp 22) (.tmp 24) 3, none⟩]
def f70_r10 : List LOp := [
⟨some 26, .move (.tmp 5), none⟩,
⟨some 6, .assign (.tmp 26), none⟩]
def f70_r11 : List LOp := [
⟨some 27, .move (.tmp 6), none⟩,
⟨some 28, .binOp .add 3 (.tmp 27) (.const (.int .i64 1)) 3, none⟩,
⟨some 29, .move (.tmp 3), none⟩,
⟨some 30, .call ⟨.builtin .len, #[.tmp 29], #[72]⟩, none⟩,
⟨some 31, .binOp .lss 3 (.tmp 28) (.tmp 30) 3, none⟩,
⟨some 32, .move (.tmp 31), none⟩,
⟨some 33, .move (.tmp 3), some (5, true)⟩,
⟨some 34, .move (.tmp 6), some (5, true)⟩,
⟨some 35, .binOp .add 3 (.tmp 34) (.const (.int .i64 1)) 3, some (5, true)⟩,
⟨some 36, .indexAddr 72 (.tmp 33) (.tmp 35), some (5, true)⟩,
⟨some 37, .load 5 (.tmp 36), some (5, true)⟩,
⟨some 38, .move (.tmp 3), some (5, true)⟩,
⟨some 39, .move (.tmp 6), some (5, true)⟩,
⟨some 40, .indexAddr 72 (.tmp 38) (.tmp 39), some (5, true)⟩,
⟨some 41, .load 5 (.tmp 40), some (5, true)⟩,
⟨some 42, .binOp .add 5 (.tmp 41) (.const (.int .u8 1)) 5, some (5, true)⟩,
⟨some 43, .binOp .eql 5 (.tmp 37) (.tmp 42) 5, some (5, true)⟩,
⟨some 44, .pick (.tmp 32) (.tmp 43) (.const (.bool false)), none⟩]
def f70_r12 : List LOp := [
⟨some 45, .move (.tmp 6), none⟩,
⟨some 46, .binOp .add 3 (.tmp 45) (.const (.int .i64 1)) 3, none⟩,
⟨some 6, .assign (.tmp 46), none⟩]
def f70_l13 : LC := (.seq (.seq (.reg f70_r11 [] (some 16)) (.cond (.tmp 44) .skip (.exit 3))) (.block 4 (.reg f70_r12 [] none)))
def f70_i13 (t3 t4 t5 t6 : D) : List D := [.any, .any, .any, t3, t4, t5, t6, .any, .any, .any, .any, .any, .any, .any, .any, .any, .any, .any, .any, .any, .any, .any, .any, .any, .any, .any, .any, .any, .any, .any, .any, .any, .any, .any, .any, .any, .any, .any, .any, .any, .any, .any, .any, .any, .any, .any, .any, .any, .any, .any, .any, .any, .any, .any, .any, .any, .any, .any, .any, .any, .any, .any, .any, .any, .any, .any, .any, .any, .any, .any, .any]
def f70_r14 : List LOp := [
⟨some 47, .move (.tmp 3), none⟩,
⟨some 48, .move (.tmp 5), none⟩,
⟨some 49, .indexAddr 72 (.tmp 47) (.tmp 48), none⟩,
⟨some 50, .load 5 (.tmp 49), none⟩,
⟨some 51, .call ⟨.value (.func 92), #[.tmp 50], #[5]⟩, none⟩,
⟨some 52, .call ⟨.value (.func 69), #[.tmp 4, .tmp 51], #[74, 9]⟩, none⟩]
def f70_r15 : List LOp := [
⟨some 53, .move (.tmp 6), none⟩,
⟨some 54, .move (.tmp 5), none⟩,
⟨some 55, .binOp .add 3 (.tmp 54) (.const (.int .i64 1)) 3, none⟩,
⟨some 56, .binOp .gtr 3 (.tmp 53) (.tmp 55) 3, none⟩]
def f70_r16 : List LOp := [
⟨some 57, .call ⟨.value (.func 68), #[.tmp 4, .const (.int .u8 45)], #[74, 5]⟩, none⟩]
def f70_r17 : List LOp := [
⟨some 58, .move (.tmp 6), none⟩,
⟨some 59, .move (.tmp 5), none⟩,
⟨some 60, .binOp .gtr 3 (.tmp 58) (.tmp 59) 3, none⟩]
def f70_r18 : List LOp := [
⟨some 61, .move (.tmp 3), none⟩,
⟨some 62, .move (.tmp 6), none⟩,
⟨some 63, .indexAddr 72 (.tmp 61) (.tmp 62), none⟩,
⟨some 64, .load 5 (.tmp 63), none⟩,
⟨some 65, .call ⟨.value (.func 92), #[.tmp 64], #[5]⟩, none⟩,
⟨some 66, .call ⟨.value (.func 69), #[.tmp 4, .tmp 65], #[74, 9]⟩, none⟩]
def f70_r19 : List LOp := [
⟨some 67, .move (.tmp 6), none⟩,
⟨some 68, .binOp .add 3 (.tmp 67) (.const (.int .i64 1)) 3, none⟩,
⟨some 5, .assign (.tmp 68), none⟩]
def f70_l20 : LC := (.seq (.seq (.reg f70_r9 [] none) (.cond (.tmp 25) .skip (.exit 1))) (.block 2 (.seq (.reg f70_r10 [] none) (.seq (.block 3 (.loop f70_l13)) (.seq (.reg f70_r14 [] none) (.seq (.seq (.reg f70_r15 [] none) (.cond (.tmp 56) (.reg f70_r16 [] none) .skip)) (.seq (.seq (.reg f70_r17 [] none) (.cond (.tmp 60) (.reg f70_r18 [] none) .skip)) (.reg f70_r19 [] none))))))))
def f70_i20 (t3 t4 t5 : D) : List D := [.any, .any, .any, t3, t4, t5, .any, .any, .any, .any, .any, .any, .any, .any, .any, .any, .any, .any, .any, .any, .any, .any, .any, .any, .any, .any, .any, .any, .any, .any, .any, .any, .any, .any, .any, .any, .any, .any, .any, .any, .any, .any, .any, .any, .any, .any, .any, .any, .any, .any, .any, .any, .any, .any, .any, .any, .any, .any, .any, .any, .any, .any, .any, .any, .any, .any, .any, .any, .any, .any, .any]
def f70_r21 : List LOp := [
⟨some 69, .call ⟨.value (.func 68), #[.tmp 4, .const (.int .u8 93)], #[74, 5]⟩, none⟩]
def f70_r22 : List LOp := [
⟨some 70, .call ⟨.value (.func 47), #[.tmp 4], #[74]⟩, none⟩,
⟨some 2, .assign (.tmp 70), none⟩]
def f70_c : LC := (.seq (.reg f70_r0 [] none) (.seq (.reg f70_r1 [] none) (.seq (.block 0 (.seq (.reg f70_r2 [] (some 2)) (.cond (.tmp 9) (.seq (.reg f70_r3 [] none) .ret) (.seq (.reg f70_r4 [] none) (.cond (.tmp 13) (.seq (.reg f70_r5 [] none) .ret) .skip))))) (.seq (.reg f70_r6 [] none) (.seq (.reg f70_r7 [] none) (.seq (.seq (.reg f70_r8 [] none) (.block 1 (.loop f70_l20))) (.seq (.reg f70_r21 [] none) (.seq (.reg f70_r22 [] none) .ret))))))))
theorem f70_lc : Tryz.f70.body.map lc = some f70_c.st := by kernel_rfl
theorem f70_res : Tryz.f70.results.toList = [.tmp 2] := by kernel_rfl
theorem f70_nt : Tryz.f70.ntmps = 71 := by kernel_rfl
theorem f70_nm : (Tryz.f70.name == "runtime.NumGoroutine") = false := by kernel_rfl
def f71_r0 : List LOp := [
⟨some 1, .box 27 (.tmp 0), none⟩,
⟨some 2, .assign (.const (.bool false)), none⟩]
def f71_r1 : List LOp := [
⟨some 5, .fieldAddr 27 (.tmp 1) 2, none⟩,
⟨some 6, .load 25 (.tmp 5), none⟩,
⟨some 7, .call ⟨.builtin .len, #[.tmp 6], #[25]⟩, none⟩,
⟨some 8, .fieldAddr 27 (.tmp 1) 1, none⟩,
⟨some 9, .load 24 (.tmp 8), none⟩,
⟨some 10, .build 24 #[], none⟩,
⟨some 11, .binOp .eql 24 (.tmp 9) (.tmp 10) 24, none⟩,
⟨some 3, .assign (.tmp 7), none⟩,
⟨some 4, .assign (.tmp 11), none⟩]
def f71_r2 : List LOp := [
⟨some 12, .fieldAddr 27 (.tmp 1) 0, none⟩,
⟨some 13, .load 5 (.tmp 12), none⟩]
def f71_r3 : List LOp := [
⟨some 15, .binOp .eql 5 (.tmp 13) (.const (.int .u8 1)) 5, none⟩,
⟨some 14, .assign (.tmp 15), none⟩]
def f71_r4 : List LOp := [
⟨some 16, .binOp .eql 5 (.tmp 13) (.const (.int .u8 2)) 5, none⟩,
⟨some 14, .assign (.tmp 16), none⟩]
def f71_r5 : List LOp := [
⟨some 17, .move (.tmp 3), none⟩,
⟨some 18, .binOp .eql 3 (.tmp 17) (.const (.int .i64 0)) 3, none⟩,
⟨some 19, .move (.tmp 18), none⟩,
⟨some 20, .move (.tmp 4), some (2, true)⟩,
⟨some 21, .pick (.tmp 19) (.tmp 20) (.const (.bool false)), none⟩,
⟨some 2, .assign (.tmp 21), none⟩]
def f71_r6 : List LOp := [
⟨some 23, .binOp .eql 5 (.tmp 13) (.const (.int .u8 3)) 5, none⟩,
⟨some 22, .assign (.tmp 23), none⟩]
def f71_r7 : List LOp := [
⟨some 24, .move (.tmp 3), none⟩,
⟨some 25, .binOp .eql 3 (.tmp 24) (.const (.int .i64 0)) 3, none⟩,
⟨some 26, .move (.tmp 25), none⟩,
⟨some 27, .move (.tmp 4), some (2, true)⟩,
⟨some 28, .unOp .not 4 (.tmp 27), some (2, true)⟩,
⟨some 29, .pick (.tmp 26) (.tmp 28) (.const (.bool false)), none⟩,
⟨some 2, .assign (.tmp 29), none⟩]
def f71_r8 : List LOp := [
⟨some 31, .binOp .eql 5 (.tmp 13) (.const (.int .u8 4)) 5, none⟩,
⟨some 30, .assign (.tmp 31), none⟩]
def f71_r9 : List LOp := [
⟨some 32, .binOp .eql 5 (.tmp 13) (.const (.int .u8 5)) 5, none⟩,
⟨some 30, .assign (.tmp 32), none⟩]
def f71_r10 : List LOp := [
⟨some 33, .move (.tmp 3), none⟩,
⟨some 34, .binOp .eql 3 (.tmp 33) (.const (.int .i64 2)) 3, none⟩,
⟨some 35, .move (.tmp 34), none⟩,
⟨some 36, .move (.tmp 4), some (2, true)⟩,
⟨some 37, .pick (.tmp 35) (.tmp 36) (.const (.bool false)), none⟩,
⟨some 2, .assign (.tmp 37), none⟩]
def f71_r11 : List LOp := [
⟨some 39, .binOp .eql 5 (.tmp 13) (.const (.int .u8 6)) 5, none⟩,
⟨some 38, .assign (.tmp 39), none⟩]
def f71_r12 : List LOp := [
⟨some 40, .move (.tmp 3), none⟩,
⟨some 41, .binOp .eql 3 (.tmp 40) (.const (.int .i64 1)) 3, none⟩,
⟨some 42, .move (.tmp 41), none⟩,
⟨some 43, .move (.tmp 4), some (2, true)⟩,
⟨some 44, .pick (.tmp 42) (.tmp 43) (.const (.bool false)), none⟩,
⟨some 2, .assign (.tmp 44), none⟩]
def f71_r13 : List LOp := [
⟨some 2, .assign (.const (.bool false)), none⟩]
def f71_c : LC := (.seq (.reg f71_r0 [] none) (.seq (.regp f71_r1 [] [] 8) (.seq (.seq (.reg f71_r2 [] none) (.block 0 (.seq (.seq (.reg f71_r3 [] none) (.cond (.tmp 14) .skip (.reg f71_r4 [] none))) (.cond (.tmp 14) (.seq (.reg f71_r5 [] none) .ret) (.seq (.reg f71_r6 [] none) (.cond (.tmp 22) (.seq (.reg f71_r7 [] none) .ret) (.seq (.seq (.reg f71_r8 [] none) (.cond (.tmp 30) .skip (.reg f71_r9 [] none))) (.cond (.tmp 30) (.seq (.reg f71_r10 [] none) .ret) (.seq (.reg f71_r11 [] none) (.cond (.tmp 38) (.seq (.reg f71_r12 [] none) .ret) .skip)))))))))) (.seq (.reg f71_r13 [] none) .ret))))
theorem f71_lc : Tryz.f71.body.map lc = some f71_c.st := by kernel_rfl
theorem f71_res : Tryz.f71.results.toList = [.tmp 2] := by kernel_rfl
theorem f71_nt : Tryz.f71.ntmps = 45 := by kernel_rfl
theorem f71_nm : (Tryz.f71.name == "runtime.NumGoroutine") = false := by kernel_rfl
def f72_r0 : List LOp := [
⟨some 1, .box 27 (.tmp 0), none⟩,
⟨some 2, .assign (.const (.bool false)), none⟩]
def f72_r1 : List LOp := [
⟨some 3, .load 27 (.tmp 1), none⟩,
⟨some 4, .call ⟨.value (.func 49), #[.tmp 3], #[27]⟩, none⟩,
⟨some 5, .unOp .not 4 (.tmp 4), none⟩,
⟨some 2, .assign (.tmp 5), none⟩]
def f72_c : LC := (.seq (.reg f72_r0 [] none) (.seq (.reg f72_r1 [] none) .ret))
theorem f72_lc : Tryz.f72.body.map lc = some f72_c.st := by kernel_rfl
theorem f72_res : Tryz.f72.results.toList = [.tmp 2] := by kernel_rfl
theorem f72_nt : Tryz.f72.ntmps = 6 := by kernel_rfl
theorem f72_nm : (Tryz.f72.name == "runtime.NumGoroutine") = false := by kernel_rfl
def f73_r0 : List LOp := [
⟨some 3, .box 5 (.tmp 0), none⟩,
⟨some 6, .alloc 27, none⟩]
def f73_r1 : List LOp := [
⟨some 10, .move (.tmp 2), none⟩,
⟨some 11, .call ⟨.builtin .len, #[.tmp 10], #[25]⟩, none⟩,
⟨some 12, .binOp .eql 3 (.tmp 11) (.const (.int .i64 0)) 3, none⟩]
def f73_r2 : List LOp := [
⟨some 13, .move (.tmp 1), none⟩,
⟨some 14, .build 27 #[(0, .tmp 13)], none⟩,
⟨none, .store 27 (.tmp 6) (.tmp 14), none⟩]
def f73_r3 : List LOp := [
⟨some 15, .move (.tmp 2), none⟩,
⟨some 16, .move (.tmp 2), none⟩,
⟨some 17, .call ⟨.builtin .len, #[.tmp 16], #[25]⟩, none⟩,
⟨some 18, .binOp .sub 3 (.tmp 17) (.const (.int .i64 1)) 3, none⟩,
⟨some 19, .indexAddr 25 (.tmp 15) (.tmp 18), none⟩,
⟨some 20, .load 27 (.tmp 19), none⟩,
⟨some 7, .alloc 27, none⟩,
⟨none, .store 27 (.tmp 7) (.tmp 20), none⟩]
def f73_r4 : List LOp := [
⟨some 21, .move (.tmp 2), none⟩,
⟨some 22, .move (.tmp 2), none⟩,
⟨some 23, .call ⟨.builtin .len, #[.tmp 22], #[25]⟩, none⟩,
⟨some 24, .binOp .sub 3 (.tmp 23) (.const (.int .i64 1)) 3, none⟩,
⟨some 25, .slice 25 (.tmp 21) none (some (.tmp 24)) none, none⟩,
⟨some 26, .call ⟨.value (.func 93), #[.tmp 25], #[25]⟩, none⟩]
def f73_r5 : List LOp := [
⟨some 9, .alloc 27, none⟩,
⟨none, .store 27 (.tmp 9) (.tmp 28), none⟩]
def f73_r6 : List LOp := [
⟨some 29, .load 5 (.tmp 3), none⟩,
⟨some 30, .load 27 (.tmp 9), none⟩,
⟨some 31, .load 27 (.tmp 7), none⟩,
⟨some 32, .buildSlice 25 2 #[(0, .tmp 30), (1, .tmp 31)], none⟩,
⟨some 33, .build 27 #[(0, .tmp 29), (2, .tmp 32)], none⟩,
⟨none, .store 27 (.tmp 7) (.tmp 33), none⟩]
def f73_a7 : LC := (.reg f73_r5 [] none)
def f73_b7 : LC := (.block 1 (.reg f73_r6 [] none))
def f73_r8 : List LOp := [
⟨some 34, .load 27 (.tmp 7), none⟩,
⟨none, .store 27 (.tmp 6) (.tmp 34), none⟩]
def f73_c : LC := (.seq (.reg f73_r0 [] none) (.seq (.seq (.reg f73_r1 [] none) (.cond (.tmp 12) (.seq (.reg f73_r2 [] none) .ret) .skip)) (.seq (.reg f73_r3 [] none) (.seq (.seq (.reg f73_r4 [] none) (.block 0 (.rfun (.tmp 26) [27, 28] f73_a7 f73_b7))) (.seq (.reg f73_r8 [] none) .ret)))))
theorem f73_lc : Tryz.f73.body.map lc = some f73_c.st := by kernel_rfl
theorem f73_res : Tryz.f73.results.toList = [.cell 6 27] := by kernel_rfl
theorem f73_nt : Tryz.f73.ntmps = 35 := by kernel_rfl
theorem f73_nm : (Tryz.f73.name == "runtime.NumGoroutine") = false := by kernel_rfl
def f84_r0 : List LOp := [
⟨some 1, .box 24 (.tmp 0), none⟩,
⟨some 2, .assign (.const (.slice none 0 0)), none⟩]
def f84_r1 : List LOp := [
⟨some 5, .buildSlice 72 0 #[], none⟩,
⟨some 3, .assign (.tmp 5), none⟩]
def f84_r2 : List LOp := [
⟨some 4, .assign (.const (.int .i64 0)), none⟩]
def f84_r3 : List LOp := [
⟨some 6, .move (.tmp 4), none⟩,
⟨some 7, .binOp .lss 3 (.tmp 6) (.const (.int .i64 256)) 3, none⟩]
def f84_r4 : List LOp := [
⟨some 10, .load 24 (.tmp 1), none⟩,
⟨some 11, .move (.tmp 4), none⟩,
⟨some 12, .call ⟨.value (.func 55), #[.tmp 10, .tmp 11], #[24, 3]⟩, none⟩]
def f84_r5 : List LOp := [
⟨some 13, .move (.tmp 3), none⟩,
⟨some 14, .move (.tmp 4), none⟩,
⟨some 15, .convert 3 5 (.tmp 14), none⟩,
⟨some 16, .buildSlice 72 1 #[(0, .tmp 15)], none⟩,
⟨some 17, .call ⟨.builtin .append, #[.tmp 13, .tmp 16], #[72, 72]⟩, none⟩,
⟨some 3, .assign (.tmp 17), none⟩]
def f84_r6 : List LOp := [
⟨some 8, .move (.tmp 4), none⟩,
⟨some 9, .binOp .add 3 (.tmp 8) (.const (.int .i64 1)) 3, none⟩,
⟨some 4, .assign (.tmp 9), none⟩]
def f84_l7 : LC := (.seq (.seq (.reg f84_r3 [] none) (.cond (.tmp 7) .skip (.exit 0))) (.seq (.block 1 (.seq (.reg f84_r4 [] none) (.cond (.tmp 12) (.reg f84_r5 [] none) .skip))) (.reg f84_r6 [] none)))
def f84_i7 (t1 t3 t4 : D) : List D := [.any, t1, .any, t3, t4, .any, .any, .any, .any, .any, .any, .any, .any, .any, .any, .any, .any, .any, .any]
def f84_r8 : List LOp := [
⟨some 18, .move (.tmp 3), none⟩,
⟨some 2, .assign (.tmp 18), none⟩]
def f84_c : LC := (.seq (.reg f84_r0 [] none) (.seq (.reg f84_r1 [0] none) (.seq (.seq (.reg f84_r2 [] none) (.block 0 (.loop f84_l7))) (.seq (.reg f84_r8 [] none) .ret))))
theorem f84_lc : Tryz.f84.body.map lc = some f84_c.st := by kernel_rfl
theorem f84_res : Tryz.f84.results.toList = [.tmp 2] := by kernel_rfl
theorem f84_nt : Tryz.f84.ntmps = 19 := by kernel_rfl
theorem f84_nm : (Tryz.f84.name == "runtime.NumGoroutine") = false := by kernel_rfl
def f85_r0 : List LOp := [
⟨some 2, .assign (.const (.string { data := #[] })), none⟩]
def f85_r1 : List LOp := [
⟨some 3, .move (.tmp 0), none⟩,
⟨some 4, .call ⟨.value (.func 105), #[.tmp 3], #[5]⟩, none⟩]
def f85_r2 : List LOp := [
⟨some 5, .move (.tmp 0), none⟩,
⟨some 6, .buildSlice 72 1 #[(0, .tmp 5)], none⟩,
⟨some 7, .call ⟨.value (.func 106), #[.tmp 6], #[72]⟩, none⟩,
⟨some 8, .binOp .add 9 (.const (.string { data := #[92] })) (.tmp 7) 9, none⟩,
⟨some 2, .assign (.tmp 8), none⟩]
def f85_r3 : List LOp := [
⟨some 9, .move (.tmp 0), none⟩,
⟨some 10, .buildSlice 72 1 #[(0, .tmp 9)], none⟩,
⟨some 11, .convert 72 9 (.tmp 10), none⟩,
⟨some 2, .assign (.tmp 11), none⟩]
def f85_c : LC := (.seq (.reg f85_r0 [] none) (.seq (.seq (.reg f85_r1 [] none) (.cond (.tmp 4) (.seq (.reg f85_r2 [] none) .ret) .skip)) (.seq (.reg f85_r3 [] none) .ret)))
theorem f85_lc : Tryz.f85.body.map lc = some f85_c.st := by kernel_rfl
theorem f85_res : Tryz.f85.results.toList = [.tmp 2] := by kernel_rfl
theorem f85_nt : Tryz.f85.ntmps = 12 := by kernel_rfl
theorem f85_nm : (Tryz.f85.name == "runtime.NumGoroutine") = false := by kernel_rfl
def f86_r0 : List LOp := [
⟨some 2, .alloc 27, none⟩]
def f86_r1 : List LOp := [
⟨some 4, .move (.tmp 0), none⟩,
⟨some 5, .call ⟨.value (.func 107), #[.tmp 4], #[66]⟩, none⟩,
⟨some 6, .buildSlice 25 1 #[(0, .tmp 5)], none⟩,
⟨some 3, .assign (.tmp 6), none⟩]
def f86_r2 : List LOp := [
⟨some 7, .move (.tmp 0), none⟩,
⟨some 8, .call ⟨.value (.func 87), #[.tmp 7, .const (.string { data := #[46, 91, 40] })], #[66, 9]⟩, none⟩,
⟨some 9, .move (.tmp 8), none⟩,
⟨some 10, .move (.tmp 0), some (2, false)⟩,
⟨some 11, .call ⟨.value (.func 108), #[.tmp 10], #[66]⟩, some (2, false)⟩,
⟨some 12, .pick (.tmp 9) (.const (.bool true)) (.tmp 11), none⟩]
def f86_r3 : List LOp := [
⟨some 13, .move (.tmp 3), none⟩,
⟨some 14, .move (.tmp 0), none⟩,
⟨some 15, .call ⟨.value (.func 107), #[.tmp 14], #[66]⟩, none⟩,
⟨some 16, .buildSlice 25 1 #[(0, .tmp 15)], none⟩,
⟨some 17, .call ⟨.builtin .append, #[.tmp 13, .tmp 16], #[25, 25]⟩, none⟩,
⟨some 3, .assign (.tmp 17), none⟩]
def f86_l4 : LC := (.seq (.seq (.reg f86_r2 [] none) (.cond (.tmp 12) .skip (.exit 0))) (.block 1 (.reg f86_r3 [] none)))
def f86_i4 (t0 t2 t3 : D) : List D := [t0, .any, t2, t3, .any, .any, .any, .any, .any, .any, .any, .any, .any, .any, .any, .any, .any, .any, .any, .any]
def f86_r5 : List LOp := [
⟨some 18, .move (.tmp 3), none⟩,
⟨some 19, .call ⟨.value (.func 52), #[.tmp 18], #[25]⟩, none⟩,
⟨none, .store 27 (.tmp 2) (.tmp 19), none⟩]
def f86_c : LC := (.seq (.reg f86_r0 [] none) (.seq (.reg f86_r1 [2] none) (.seq (.block 0 (.loop f86_l4)) (.seq (.reg f86_r5 [] none) .ret))))
theorem f86_lc : Tryz.f86.body.map lc = some f86_c.st := by kernel_rfl
theorem f86_res : Tryz.f86.results.toList = [.cell 2 27] := by kernel_rfl
theorem f86_nt : Tryz.f86.ntmps = 20 := by kernel_rfl
theorem f86_nm : (Tryz.f86.name == "runtime.NumGoroutine") = false := by kernel_rfl
def f87_r0 : List LOp := [
⟨some 4, .assign (.const (.bool false)), none⟩]
def f87_r1 : List LOp := [
⟨some 5, .move (.tmp 0), none⟩,
⟨some 6, .nilCheck (.tmp 5), none⟩,
⟨some 7, .fieldAddr 68 (.tmp 6) 1, none⟩,
⟨some 8, .load 3 (.tmp 7), none⟩,
⟨some 9, .move (.tmp 0), none⟩,
⟨some 10, .nilCheck (.tmp 9), none⟩,
⟨some 11, .fieldAddr 68 (.tmp 10) 0, none⟩,
⟨some 12, .load 9 (.tmp 11), none⟩,
⟨some 13, .call ⟨.builtin .len, #[.tmp 12], #[9]⟩, none⟩,
⟨some 14, .binOp .lss 3 (.tmp 8) (.tmp 13) 3, none⟩,
⟨some 15, .move (.tmp 14), none⟩,
⟨some 16, .move (.tmp 1), some (10, true)⟩,
⟨some 17, .move (.tmp 0), some (10, true)⟩,
⟨some 18, .nilCheck (.tmp 17), some (10, true)⟩,
⟨some 19, .fieldAddr 68 (.tmp 18) 0, some (10, true)⟩,
⟨some 20, .load 9 (.tmp 19), some (10, true)⟩,
⟨some 21, .move (.tmp 0), some (10, true)⟩,
⟨some 22, .nilCheck (.tmp 21), some (10, true)⟩,
⟨some 23, .fieldAddr 68 (.tmp 22) 1, some (10, true)⟩,
⟨some 24, .load 3 (.tmp 23), some (10, true)⟩,
⟨some 25, .index 9 (.tmp 20) (.tmp 24), some (10, true)⟩,
⟨some 26, .call ⟨.value (.func 109), #[.tmp 16, .tmp 25], #[9, 5]⟩, some (10, true)⟩,
⟨some 27, .binOp .geq 3 (.tmp 26) (.const (.int .i64 0)) 3, some (10, true)⟩,
⟨some 28, .pick (.tmp 15) (.tmp 27) (.const (.bool false)), none⟩,
⟨some 4, .assign (.tmp 28), none⟩]
def f87_c : LC := (.seq (.reg f87_r0 [] none) (.seq (.reg f87_r1 [] (some 24)) .ret))
theorem f87_lc : Tryz.f87.body.map lc = some f87_c.st := by kernel_rfl
theorem f87_res : Tryz.f87.results.toList = [.tmp 4] := by kernel_rfl
theorem f87_nt : Tryz.f87.ntmps = 29 := by kernel_rfl
theorem f87_nm : (Tryz.f87.name == "runtime.NumGoroutine") = false := by kernel_rfl
def f88_r0 : List LOp := [
⟨some 4, .assign (.const (.int .i64 0)), none⟩]
def f88_r1 : List LOp := [
⟨some 6, .move (.tmp 0), none⟩,
⟨some 7, .call ⟨.builtin .len, #[.tmp 6], #[72]⟩, none⟩,
⟨some 8, .move (.const (.int .i64 0)), none⟩]
def f88_r2 : List LOp := [
⟨some 9, .binOp .lss 3 (.tmp 8) (.tmp 7) 3, none⟩]
def f88_r3 : List LOp := [
⟨some 10, .move (.tmp 8), none⟩,
⟨some 5, .assign (.tmp 10), none⟩]
def f88_r4 : List LOp := [
⟨some 11, .move (.tmp 1), none⟩,
⟨some 12, .move (.tmp 0), none⟩,
⟨some 13, .move (.tmp 5), none⟩,
⟨some 14, .indexAddr 72 (.tmp 12) (.tmp 13), none⟩,
⟨some 15, .load 5 (.tmp 14), none⟩,
⟨some 16, .binOp .eql 5 (.tmp 11) (.tmp 15) 5, none⟩]
def f88_r5 : List LOp := [
⟨some 17, .move (.tmp 5), none⟩,
⟨some 4, .assign (.tmp 17), none⟩]
def f88_r6 : List LOp := [
⟨some 18, .binOp .add 3 (.tmp 8) (.const (.int .i64 1)) 3, none⟩,
⟨some 8, .move (.tmp 18), none⟩]
def f88_l7 : LC := (.seq (.reg f88_r2 [] none) (.seq (.cond (.tmp 9) .skip (.exit 0)) (.seq (.block 1 (.seq (.reg f88_r3 [] none) (.seq (.reg f88_r4 [] none) (.cond (.tmp 16) (.seq (.reg f88_r5 [] none) .ret) .skip)))) (.reg f88_r6 [] none))))
def f88_i7 (t0 t1 t7 t8 : D) : List D := [t0, t1, .any, .any, .any, .any, .any, t7, t8, .any, .any, .any, .any, .any, .any, .any, .any, .any, .any]
def f88_r8 : List LOp := [
⟨some 4, .assign (.const (.int .i64 (-1))), none⟩]
def f88_c : LC := (.seq (.reg f88_r0 [] none) (.seq (.seq (.reg f88_r1 [] none) (.block 0 (.loop f88_l7))) (.seq (.reg f88_r8 [] none) .ret)))
theorem f88_lc : Tryz.f88.body.map lc = some f88_c.st := by kernel_rfl
theorem f88_res : Tryz.f88.results.toList = [.tmp 4] := by kernel_rfl
theorem f88_nt : Tryz.f88.ntmps = 19 := by kernel_rfl
theorem f88_nm : (Tryz.f88.name == "runtime.NumGoroutine") = false := by kernel_rfl
def f90_r0 : List LOp := [
⟨some 1, .box 24 (.tmp 0), none⟩,
⟨some 2, .assign (.const (.slice none 0 0)), none⟩]
def f90_r1 : List LOp := [
⟨some 3, .assign (.const (.slice none 0 0)), none⟩]
def f90_r2 : List LOp := [
⟨some 6, .load 24 (.tmp 1), none⟩,
⟨some 7, .move (.const (.int .i64 0)), none⟩]
def f90_r3 : List LOp := [
⟨some 8, .binOp .lss 3 (.tmp 7) (.const (.int .i64 4)) 3, none⟩]
def f90_r4 : List LOp := [
⟨some 9, .move (.tmp 7), none⟩,
⟨some 10, .index 24 (.tmp 6) (.tmp 7), none⟩,
⟨some 4, .assign (.tmp 9), none⟩,
⟨some 5, .assign (.tmp 10), none⟩]
def f90_r5 : List LOp := [
⟨some 11, .move (.tmp 5), none⟩,
⟨some 12, .binOp .neq 22 (.tmp 11) (.const (.int .u64 0)) 22, none⟩]
def f90_r6 : List LOp := [
⟨some 17, .move (.tmp 3), none⟩,
⟨some 18, .move (.tmp 4), none⟩,
⟨some 19, .binOp .mul 3 (.const (.int .i64 64)) (.tmp 18) 3, none⟩,
⟨some 20, .move (.tmp 5), none⟩,
⟨some 21, .call ⟨.value (.func 111), #[.tmp 20], #[22]⟩, none⟩,
⟨some 22, .binOp .add 3 (.tmp 19) (.tmp 21) 3, none⟩,
⟨some 23, .convert 3 5 (.tmp 22), none⟩,
⟨some 24, .buildSlice 72 1 #[(0, .tmp 23)], none⟩,
⟨some 25, .call ⟨.builtin .append, #[.tmp 17, .tmp 24], #[72, 72]⟩, none⟩,
⟨some 3, .assign (.tmp 25), none⟩]
def f90_r7 : List LOp := [
⟨some 13, .move (.tmp 5), none⟩,
⟨some 14, .move (.tmp 5), none⟩,
⟨some 15, .binOp .sub 22 (.tmp 14) (.const (.int .u64 1)) 22, none⟩,
⟨some 16, .binOp .and 22 (.tmp 13) (.tmp 15) 22, none⟩,
⟨some 5, .assign (.tmp 16), none⟩]
def f90_l8 : LC := (.seq (.seq (.reg f90_r5 [] none) (.cond (.tmp 12) .skip (.exit 2))) (.seq (.block 3 (.reg f90_r6 [] none)) (.reg f90_r7 [] none)))
def f90_i8 (t3 t4 t5 t6 t7 : D) : List D := [.any, .any, .any, t3, t4, t5, t6, t7, .any, .any, .any, .any, .any, .any, .any, .any, .any, .any, .any, .any, .any, .any, .any, .any, .any, .any, .any, .any]
def f90_r9 : List LOp := [
⟨some 26, .binOp .add 3 (.tmp 7) (.const (.int .i64 1)) 3, none⟩,
⟨some 7, .move (.tmp 26), none⟩]
def f90_l10 : LC := (.seq (.reg f90_r3 [] none) (.seq (.cond (.tmp 8) .skip (.exit 0)) (.seq (.block 1 (.seq (.reg f90_r4 [] none) (.block 2 (.loop f90_l8)))) (.reg f90_r9 [] none))))
def f90_i10 (t3 t6 t7 : D) : List D := [.any, .any, .any, t3, .any, .any, t6, t7, .any, .any, .any, .any, .any, .any, .any, .any, .any, .any, .any, .any, .any, .any, .any, .any, .any, .any, .any, .any]
def f90_r11 : List LOp := [
⟨some 27, .move (.tmp 3), none⟩,
⟨some 2, .assign (.tmp 27), none⟩]
def f90_c : LC := (.seq (.reg f90_r0 [] none) (.seq (.reg f90_r1 [] none) (.seq (.seq (.reg f90_r2 [] none) (.block 0 (.loop f90_l10))) (.seq (.reg f90_r11 [] none) .ret))))
theorem f90_lc : Tryz.f90.body.map lc = some f90_c.st := by kernel_rfl
theorem f90_res : Tryz.f90.results.toList = [.tmp 2] := by kernel_rfl
theorem f90_nt : Tryz.f90.ntmps = 28 := by kernel_rfl
theorem f90_nm : (Tryz.f90.name == "runtime.NumGoroutine") = false := by kernel_rfl
def f91_r0 : List LOp := [
⟨some 0, .alloc 24, none⟩]
def f91_r1 : List LOp := [
⟨some 1, .build 24 #[(0, .const (.int .u64 18446744073709551615)), (1, .const (.int .u64 18446744073709551615)), (2, .const (.int .u64 18446744073709551615)), (3, .const (.int .u64 18446744073709551615))], none⟩,
⟨none, .store 24 (.tmp 0) (.tmp 1), none⟩]
def f91_c : LC := (.seq (.reg f91_r0 [] none) (.seq (.reg f91_r1 [] none) .ret))
theorem f91_lc : Tryz.f91.body.map lc = some f91_c.st := by kernel_rfl
theorem f91_res : Tryz.f91.results.toList = [.cell 0 24] := by kernel_rfl
theorem f91_nt : Tryz.f91.ntmps = 2 := by kernel_rfl
theorem f91_nm : (Tryz.f91.name == "runtime.NumGoroutine") = false := by kernel_rfl
def f92_r0 : List LOp := [
⟨some 2, .assign (.const (.string { data := #[] })), none⟩]
def f92_r1 : List LOp := [
⟨some 3, .move (.tmp 0), none⟩,
⟨some 4, .binOp .lss 5 (.tmp 3) (.const (.int .u8 33)) 5, none⟩,
⟨some 5, .move (.tmp 4), none⟩,
⟨some 6, .move (.tmp 0), some (2, false)⟩,
⟨some 7, .binOp .gtr 5 (.tmp 6) (.const (.int .u8 126)) 5, some (2, false)⟩,
⟨some 8, .pick (.tmp 5) (.const (.bool true)) (.tmp 7), none⟩,
⟨some 9, .move (.tmp 8), none⟩,
⟨some 10, .move (.tmp 0), some (6, false)⟩,
⟨some 11, .call ⟨.value (.func 109), #[.const (.string { data := #[92, 124, 42, 40, 41, 91, 93, 46, 45] }), .tmp 10], #[9, 5]⟩, some (6, false)⟩,
⟨some 12, .binOp .geq 3 (.tmp 11) (.const (.int .i64 0)) 3, some (6, false)⟩,
⟨some 13, .pick (.tmp 9) (.const (.bool true)) (.tmp 12), none⟩]
def f92_r2 : List LOp := [
⟨some 14, .move (.tmp 0), none⟩,
⟨some 15, .buildSlice 72 1 #[(0, .tmp 14)], none⟩,
⟨some 16, .call ⟨.value (.func 112), #[.tmp 15], #[72]⟩, none⟩,
⟨some 17, .binOp .add 9 (.const (.string { data := #[92] })) (.tmp 16) 9, none⟩,
⟨some 2, .assign (.tmp 17), none⟩]
def f92_r3 : List LOp := [
⟨some 18, .move (.tmp 0), none⟩,
⟨some 19, .buildSlice 72 1 #[(0, .tmp 18)], none⟩,
⟨some 20, .convert 72 9 (.tmp 19), none⟩,
⟨some 2, .assign (.tmp 20), none⟩]
def f92_c : LC := (.seq (.reg f92_r0 [] none) (.seq (.seq (.reg f92_r1 [] none) (.cond (.tmp 13) (.seq (.reg f92_r2 [] none) .ret) .skip)) (.seq (.reg f92_r3 [] none) .ret)))
theorem f92_lc : Tryz.f92.body.map lc = some f92_c.st := by kernel_rfl
theorem f92_res : Tryz.f92.results.toList = [.tmp 2] := by kernel_rfl
theorem f92_nt : Tryz.f92.ntmps = 21 := by kernel_rfl
theorem f92_nm : (Tryz.f92.name == "runtime.NumGoroutine") = false := by kernel_rfl
def f93_r0 : List LOp := [
⟨some 1, .box 25 (.tmp 0), none⟩,
⟨some 2, .assign (.const .nilFunc), none⟩]
def f93_r1 : List LOp := [
⟨some 3, .makeFunc (.func 113) #[] #[.tmp 1], none⟩,
⟨some 2, .assign (.tmp 3), none⟩]
def f93_c : LC := (.seq (.reg f93_r0 [] none) (.seq (.reg f93_r1 [] none) .ret))
theorem f93_lc : Tryz.f93.body.map lc = some f93_c.st := by kernel_rfl
theorem f93_res : Tryz.f93.results.toList = [.tmp 2] := by kernel_rfl
theorem f93_nt : Tryz.f93.ntmps = 4 := by kernel_rfl
theorem f93_nm : (Tryz.f93.name == "runtime.NumGoroutine") = false := by kernel_rfl
def f97_r0 : List LOp := [
⟨some 2, .alloc 24, none⟩]
def f97_r1 : List LOp := [
⟨some 3, .alloc 24, none⟩]
def f97_r2 : List LOp := [
⟨some 7, .move (.tmp 0), none⟩,
⟨some 8, .call ⟨.builtin .len, #[.tmp 7], #[129]⟩, none⟩,
⟨some 9, .move (.const (.int .i64 0)), none⟩]
def f97_r3 : List LOp := [
⟨some 10, .binOp .lss 3 (.tmp 9) (.tmp 8) 3, none⟩]
def f97_r4 : List LOp := [
⟨some 11, .indexAddr 129 (.tmp 7) (.tmp 9), none⟩,
⟨some 12, .load 24 (.tmp 11), none⟩,
⟨some 5, .alloc 24, none⟩,
⟨none, .store 24 (.tmp 5) (.tmp 12), none⟩]
def f97_r5 : List LOp := [
⟨some 13, .move (.const (.int .i64 0)), none⟩]
def f97_r6 : List LOp := [
⟨some 14, .binOp .lss 3 (.tmp 13) (.const (.int .i64 4)) 3, none⟩]
def f97_r7 : List LOp := [
⟨some 15, .move (.tmp 13), none⟩,
⟨some 6, .assign (.tmp 15), none⟩]
def f97_r8 : List LOp := [
⟨some 16, .move (.tmp 6), none⟩,
⟨some 17, .indexAddr 24 (.tmp 3) (.tmp 16), none⟩,
⟨some 18, .load 22 (.tmp 17), none⟩,
⟨some 19, .move (.tmp 6), none⟩,
⟨some 20, .indexAddr 24 (.tmp 5) (.tmp 19), none⟩,
⟨some 21, .load 22 (.tmp 20), none⟩,
⟨some 22, .binOp .or 22 (.tmp 18) (.tmp 21) 22, none⟩,
⟨some 23, .indexAddr 24 (.tmp 3) (.tmp 16), none⟩,
⟨none, .store 22 (.tmp 23) (.tmp 22), none⟩]
def f97_r9 : List LOp := [
⟨some 24, .binOp .add 3 (.tmp 13) (.const (.int .i64 1)) 3, none⟩,
⟨some 13, .move (.tmp 24), none⟩]
def f97_l10 : LC := (.seq (.reg f97_r6 [] none) (.seq (.cond (.tmp 14) .skip (.exit 2)) (.seq (.block 3 (.seq (.reg f97_r7 [] none) (.reg f97_r8 [] (some 6)))) (.reg f97_r9 [] none))))
def f97_i10 (t2 t3 t5 t7 t8 t9 t13 : D) : List D := [.any, .any, t2, t3, .any, t5, .any, t7, t8, t9, .any, .any, .any, t13, .any, .any, .any, .any, .any, .any, .any, .any, .any, .any, .any, .any, .any]
def f97_r11 : List LOp := [
⟨some 25, .binOp .add 3 (.tmp 9) (.const (.int .i64 1)) 3, none⟩,
⟨some 9, .move (.tmp 25), none⟩]
def f97_l12 : LC := (.seq (.reg f97_r3 [] none) (.seq (.cond (.tmp 10) .skip (.exit 0)) (.seq (.block 1 (.seq (.reg f97_r4 [] none) (.seq (.reg f97_r5 [] none) (.block 2 (.loop f97_l10))))) (.reg f97_r11 [] none))))
def f97_i12 (t2 t3 t7 t8 t9 : D) : List D := [.any, .any, t2, t3, .any, .any, .any, t7, t8, t9, .any, .any, .any, .any, .any, .any, .any, .any, .any, .any, .any, .any, .any, .any, .any, .any, .any]
def f97_r13 : List LOp := [
⟨some 26, .load 24 (.tmp 3), none⟩,
⟨none, .store 24 (.tmp 2) (.tmp 26), none⟩]
def f97_c : LC := (.seq (.reg f97_r0 [] none) (.seq (.reg f97_r1 [] none) (.seq (.seq (.reg f97_r2 [] none) (.block 0 (.loop f97_l12))) (.seq (.reg f97_r13 [] none) .ret))))
theorem f97_lc : Tryz.f97.body.map lc = some f97_c.st := by kernel_rfl
theorem f97_res : Tryz.f97.results.toList = [.cell 2 24] := by kernel_rfl
theorem f97_nt : Tryz.f97.ntmps = 27 := by kernel_rfl
theorem f97_nm : (Tryz.f97.name == "runtime.NumGoroutine") = false := by kernel_rfl
def f98_r0 : List LOp := [
⟨some 1, .box 24 (.tmp 0), none⟩,
⟨some 2, .alloc 27, none⟩]
def f98_r1 : List LOp := [
⟨some 3, .load 24 (.tmp 1), none⟩,
⟨some 4, .build 24 #[], none⟩,
⟨some 5, .binOp .eql 24 (.tmp 3) (.tmp 4) 24, none⟩]
def f98_r2 : List LOp := [
⟨some 6, .build 27 #[(0, .const (.int .u8 1))], none⟩,
⟨none, .store 27 (.tmp 2) (.tmp 6), none⟩]
def f98_r3 : List LOp := [
⟨some 7, .load 24 (.tmp 1), none⟩,
⟨some 8, .build 27 #[(0, .const (.int .u8 3)), (1, .tmp 7)], none⟩,
⟨none, .store 27 (.tmp 2) (.tmp 8), none⟩]
def f98_c : LC := (.seq (.reg f98_r0 [] none) (.seq (.seq (.reg f98_r1 [] none) (.cond (.tmp 5) (.seq (.reg f98_r2 [] none) .ret) .skip)) (.seq (.reg f98_r3 [] none) .ret)))
theorem f98_lc : Tryz.f98.body.map lc = some f98_c.st := by kernel_rfl
theorem f98_res : Tryz.f98.results.toList = [.cell 2 27] := by kernel_rfl
theorem f98_nt : Tryz.f98.ntmps = 9 := by kernel_rfl
theorem f98_nm : (Tryz.f98.name == "runtime.NumGoroutine") = false := by kernel_rfl
def f101_r0 : List LOp := [
⟨some 1, .box 27 (.tmp 0), none⟩,
⟨some 2, .alloc 27, none⟩]
def f101_r1 : List LOp := [
⟨some 3, .load 27 (.tmp 1), none⟩,
⟨some 4, .buildSlice 25 1 #[(0, .tmp 3)], none⟩,
⟨some 5, .build 27 #[(0, .const (.int .u8 6)), (2, .tmp 4)], none⟩,
⟨none, .store 27 (.tmp 2) (.tmp 5), none⟩]
def f101_c : LC := (.seq (.reg f101_r0 [] none) (.seq (.reg f101_r1 [] none) .ret))
theorem f101_lc : Tryz.f101.body.map lc = some f101_c.st := by kernel_rfl
theorem f101_res : Tryz.f101.results.toList = [.cell 2 27] := by kernel_rfl
theorem f101_nt : Tryz.f101.ntmps = 6 := by kernel_rfl
theorem f101_nm : (Tryz.f101.name == "runtime.NumGoroutine") = false := by kernel_rfl
def f105_r0 : List LOp := [
⟨some 2, .assign (.const (.bool false)), none⟩]
def f105_r1 : List LOp := [
⟨some 3, .assign (.const (.string { data := #[92, 124, 42, 40, 41, 91, 93, 46, 45] })), none⟩]
def f105_r2 : List LOp := [
⟨some 4, .assign (.const (.int .i64 0)), none⟩]
def f105_r3 : List LOp := [
⟨some 5, .move (.tmp 4), none⟩,
⟨some 6, .move (.tmp 3), none⟩,
⟨some 7, .call ⟨.builtin .len, #[.tmp 6], #[9]⟩, none⟩,
⟨some 8, .binOp .lss 3 (.tmp 5) (.tmp 7) 3, none⟩]
def f105_r4 : List LOp := [
⟨some 11, .move (.tmp 3), none⟩,
⟨some 12, .move (.tmp 4), none⟩,
⟨some 13, .index 9 (.tmp 11) (.tmp 12), none⟩,
⟨some 14, .move (.tmp 0), none⟩,
⟨some 15, .binOp .eql 5 (.tmp 13) (.tmp 14) 5, none⟩]
def f105_r5 : List LOp := [
⟨some 2, .assign (.const (.bool true)), none⟩]
def f105_r6 : List LOp := [
⟨some 9, .move (.tmp 4), none⟩,
⟨some 10, .binOp .add 3 (.tmp 9) (.const (.int .i64 1)) 3, none⟩,
⟨some 4, .assign (.tmp 10), none⟩]
def f105_l7 : LC := (.seq (.seq (.reg f105_r3 [] none) (.cond (.tmp 8) .skip (.exit 0))) (.seq (.block 1 (.seq (.reg f105_r4 [] none) (.cond (.tmp 15) (.seq (.reg f105_r5 [] none) .ret) .skip))) (.reg f105_r6 [] none)))
def f105_i7 (t0 t3 t4 : D) : List D := [t0, .any, .any, t3, t4, .any, .any, .any, .any, .any, .any, .any, .any, .any, .any, .any, .any, .any, .any, .any, .any, .any]
def f105_r8 : List LOp := [
⟨some 16, .move (.tmp 0), none⟩,
⟨some 17, .binOp .lss 5 (.tmp 16) (.const (.int .u8 33)) 5, none⟩,
⟨some 18, .move (.tmp 17), none⟩,
⟨some 19, .move (.tmp 0), some (2, false)⟩,
⟨some 20, .binOp .gtr 5 (.tmp 19) (.const (.int .u8 126)) 5, some (2, false)⟩,
⟨some 21, .pick (.tmp 18) (.const (.bool true)) (.tmp 20), none⟩,
⟨some 2, .assign (.tmp 21), none⟩]
def f105_c : LC := (.seq (.reg f105_r0 [] none) (.seq (.reg f105_r1 [] none) (.seq (.seq (.reg f105_r2 [] none) (.block 0 (.loop f105_l7))) (.seq (.reg f105_r8 [] none) .ret))))
theorem f105_lc : Tryz.f105.body.map lc = some f105_c.st := by kernel_rfl
theorem f105_res : Tryz.f105.results.toList = [.tmp 2] := by kernel_rfl
theorem f105_nt : Tryz.f105.ntmps = 22 := by kernel_rfl
theorem f105_nm : (Tryz.f105.name == "runtime.NumGoroutine") = false := by kernel_rfl
def f106_r0 : List LOp := [
⟨some 2, .assign (.const (.string { data := #[] })), none⟩]
def f106_r1 : List LOp := [
⟨some 3, .assign (.const (.string { data := #[] })), none⟩]
def f106_r2 : List LOp := [
⟨some 5, .move (.tmp 0), none⟩,
⟨some 6, .call ⟨.builtin .len, #[.tmp 5], #[72]⟩, none⟩,
⟨some 7, .move (.const (.int .i64 0)), none⟩]
def f106_r3 : List LOp := [
⟨some 8, .binOp .lss 3 (.tmp 7) (.tmp 6) 3, none⟩]
def f106_r4 : List LOp := [
⟨some 9, .move (.tmp 7), none⟩,
⟨some 4, .assign (.tmp 9), none⟩]
def f106_r5 : List LOp := [
⟨some 10, .move (.tmp 3), none⟩,
⟨some 11, .move (.tmp 0), none⟩,
⟨some 12, .move (.tmp 4), none⟩,
⟨some 13, .indexAddr 72 (.tmp 11) (.tmp 12), none⟩,
⟨some 14, .load 5 (.tmp 13), none⟩,
⟨some 15, .convert 5 3 (.tmp 14), none⟩,
⟨some 16, .binOp .quo 3 (.tmp 15) (.const (.int .i64 16)) 3, none⟩,
⟨some 17, .call ⟨.value (.func 119), #[.tmp 16], #[3]⟩, none⟩,
⟨some 18, .binOp .add 9 (.tmp 10) (.tmp 17) 9, none⟩,
⟨some 19, .move (.tmp 0), none⟩,
⟨some 20, .move (.tmp 4), none⟩,
⟨some 21, .indexAddr 72 (.tmp 19) (.tmp 20), none⟩,
⟨some 22, .load 5 (.tmp 21), none⟩,
⟨some 23, .convert 5 3 (.tmp 22), none⟩,
⟨some 24, .binOp .rem 3 (.tmp 23) (.const (.int .i64 16)) 3, none⟩,
⟨some 25, .call ⟨.value (.func 119), #[.tmp 24], #[3]⟩, none⟩,
⟨some 26, .binOp .add 9 (.tmp 18) (.tmp 25) 9, none⟩,
⟨some 3, .assign (.tmp 26), none⟩]
def f106_r6 : List LOp := [
⟨some 27, .binOp .add 3 (.tmp 7) (.const (.int .i64 1)) 3, none⟩,
⟨some 7, .move (.tmp 27), none⟩]
def f106_l7 : LC := (.seq (.reg f106_r3 [] none) (.seq (.cond (.tmp 8) .skip (.exit 0)) (.seq (.block 1 (.seq (.reg f106_r4 [] none) (.reg f106_r5 [] (some 17)))) (.reg f106_r6 [] none))))
def f106_i7 (t0 t3 t6 t7 : D) : List D := [t0, .any, .any, t3, .any, .any, t6, t7, .any, .any, .any, .any, .any, .any, .any, .any, .any, .any, .any, .any, .any, .any, .any, .any, .any, .any, .any, .any, .any]
def f106_r8 : List LOp := [
⟨some 28, .move (.tmp 3), none⟩,
⟨some 2, .assign (.tmp 28), none⟩]
def f106_c : LC := (.seq (.reg f106_r0 [] none) (.seq (.reg f106_r1 [] none) (.seq (.seq (.reg f106_r2 [] none) (.block 0 (.loop f106_l7))) (.seq (.reg f106_r8 [] none) .ret))))
theorem f106_lc : Tryz.f106.body.map lc = some f106_c.st := by kernel_rfl
theorem f106_res : Tryz.f106.results.toList = [.tmp 2] := by kernel_rfl
theorem f106_nt : Tryz.f106.ntmps = 29 := by kernel_rfl
theorem f106_nm : (Tryz.f106.name == "runtime.NumGoroutine") = false := by kernel_rfl
def f107_r0 : List LOp := [
⟨some 2, .alloc 27, none⟩]
def f107_r1 : List LOp := [
⟨some 4, .move (.tmp 0), none⟩,
⟨some 5, .call ⟨.value (.func 120), #[.tmp 4], #[66]⟩, none⟩,
⟨some 3, .alloc 27, none⟩,
⟨none, .store 27 (.tmp 3) (.tmp 5), none⟩]
def f107_r2 : List LOp := [
⟨some 6, .move (.tmp 0), none⟩,
⟨some 7, .call ⟨.value (.func 87), #[.tmp 6, .const (.string { data := #[42] })], #[66, 9]⟩, none⟩]
def f107_r3 : List LOp := [
⟨some 8, .move (.tmp 0), none⟩,
⟨some 9, .nilCheck (.tmp 8), none⟩,
⟨some 10, .fieldAddr 68 (.tmp 9) 1, none⟩,
⟨some 11, .load 3 (.tmp 10), none⟩,
⟨some 12, .binOp .add 3 (.tmp 11) (.const (.int .i64 1)) 3, none⟩,
⟨some 13, .nilCheck (.tmp 8), none⟩,
⟨some 14, .fieldAddr 68 (.tmp 13) 1, none⟩,
⟨none, .store 3 (.tmp 14) (.tmp 12), none⟩]
def f107_r4 : List LOp := [
⟨some 15, .load 27 (.tmp 3), none⟩,
⟨some 16, .call ⟨.value (.func 101), #[.tmp 15], #[27]⟩, none⟩,
⟨none, .store 27 (.tmp 3) (.tmp 16), none⟩]
def f107_l5 : LC := (.seq (.seq (.reg f107_r2 [] none) (.cond (.tmp 7) .skip (.exit 0))) (.block 1 (.seq (.reg f107_r3 [] none) (.reg f107_r4 [] none))))
def f107_i5 (t0 t2 t3 : D) : List D := [t0, .any, t2, t3, .any, .any, .any, .any, .any, .any, .any, .any, .any, .any, .any, .any, .any, .any]
def f107_r6 : List LOp := [
⟨some 17, .load 27 (.tmp 3), none⟩,
⟨none, .store 27 (.tmp 2) (.tmp 17), none⟩]
def f107_c : LC := (.seq (.reg f107_r0 [] none) (.seq (.reg f107_r1 [] none) (.seq (.block 0 (.loop f107_l5)) (.seq (.reg f107_r6 [] none) .ret))))
theorem f107_lc : Tryz.f107.body.map lc = some f107_c.st := by kernel_rfl
theorem f107_res : Tryz.f107.results.toList = [.cell 2 27] := by kernel_rfl
theorem f107_nt : Tryz.f107.ntmps = 18 := by kernel_rfl
theorem f107_nm : (Tryz.f107.name == "runtime.NumGoroutine") = false := by kernel_rfl
def f108_r0 : List LOp := [
⟨some 2, .assign (.const (.bool false)), none⟩]
def f108_r1 : List LOp := [
⟨some 3, .move (.tmp 0), none⟩,
⟨some 4, .call ⟨.value (.func 87), #[.tmp 3, .const (.string { data := #[92] })], #[66, 9]⟩, none⟩,
⟨some 5, .move (.tmp 4), none⟩,
⟨some 6, .move (.tmp 0), some (2, false)⟩,
⟨some 7, .nilCheck (.tmp 6), some (2, false)⟩,
⟨some 8, .fieldAddr 68 (.tmp 7) 1, some (2, false)⟩,
⟨some 9, .load 3 (.tmp 8), some (2, false)⟩,
⟨some 10, .move (.tmp 0), some (2, false)⟩,
⟨some 11, .nilCheck (.tmp 10), some (2, false)⟩,
⟨some 12, .fieldAddr 68 (.tmp 11) 0, some (2, false)⟩,
⟨some 13, .load 9 (.tmp 12), some (2, false)⟩,
⟨some 14, .call ⟨.builtin .len, #[.tmp 13], #[9]⟩, some (2, false)⟩,
⟨some 15, .binOp .lss 3 (.tmp 9) (.tmp 14) 3, some (2, false)⟩,
⟨some 16, .move (.tmp 15), some (2, false)⟩,
⟨some 17, .move (.tmp 0), some (13, true)⟩,
⟨some 18, .nilCheck (.tmp 17), some (13, true)⟩,
⟨some 19, .fieldAddr 68 (.tmp 18) 0, some (13, true)⟩,
⟨some 20, .load 9 (.tmp 19), some (13, true)⟩,
⟨some 21, .move (.tmp 0), some (13, true)⟩,
⟨some 22, .nilCheck (.tmp 21), some (13, true)⟩,
⟨some 23, .fieldAddr 68 (.tmp 22) 1, some (13, true)⟩,
⟨some 24, .load 3 (.tmp 23), some (13, true)⟩,
⟨some 25, .index 9 (.tmp 20) (.tmp 24), some (13, true)⟩,
⟨some 26, .call ⟨.value (.func 92), #[.tmp 25], #[5]⟩, some (13, true)⟩,
⟨some 27, .move (.tmp 0), some (13, true)⟩,
⟨some 28, .nilCheck (.tmp 27), some (13, true)⟩,
⟨some 29, .fieldAddr 68 (.tmp 28) 0, some (13, true)⟩,
⟨some 30, .load 9 (.tmp 29), some (13, true)⟩,
⟨some 31, .move (.tmp 0), some (13, true)⟩,
⟨some 32, .nilCheck (.tmp 31), some (13, true)⟩,
⟨some 33, .fieldAddr 68 (.tmp 32) 1, some (13, true)⟩,
⟨some 34, .load 3 (.tmp 33), some (13, true)⟩,
⟨some 35, .move (.tmp 0), some (13, true)⟩,
⟨some 36, .nilCheck (.tmp 35), some (13, true)⟩,
⟨some 37, .fieldAddr 68 (.tmp 36) 1, some (13, true)⟩,
⟨some 38, .load 3 (.tmp 37), some (13, true)⟩,
⟨some 39, .binOp .add 3 (.tmp 38) (.const (.int .i64 1)) 3, some (13, true)⟩,
⟨some 40, .slice 9 (.tmp 30) (some (.tmp 34)) (some (.tmp 39)) none, some (13, true)⟩,
⟨some 41, .binOp .eql 9 (.tmp 26) (.tmp 40) 9, some (13, true)⟩,
⟨some 42, .pick (.tmp 16) (.tmp 41) (.const (.bool false)), some (2, false)⟩,
⟨some 43, .pick (.tmp 5) (.const (.bool true)) (.tmp 42), none⟩,
⟨some 2, .assign (.tmp 43), none⟩]
def f108_c : LC := (.seq (.reg f108_r0 [] none) (.seq (.reg f108_r1 [] (some 41)) .ret))
theorem f108_lc : Tryz.f108.body.map lc = some f108_c.st := by kernel_rfl
theorem f108_res : Tryz.f108.results.toList = [.tmp 2] := by kernel_rfl
theorem f108_nt : Tryz.f108.ntmps = 44 := by kernel_rfl
theorem f108_nm : (Tryz.f108.name == "runtime.NumGoroutine") = false := by kernel_rfl
def f109_r0 : List LOp := [
⟨some 4, .assign (.const (.int .i64 0)), none⟩]
def f109_r1 : List LOp := [
⟨some 5, .move (.tmp 0), none⟩,
⟨some 6, .move (.tmp 1), none⟩,
⟨some 7, .call ⟨.value (.func 121), #[.tmp 5, .tmp 6], #[9, 5]⟩, none⟩,
⟨some 4, .assign (.tmp 7), none⟩]
def f109_c : LC := (.seq (.reg f109_r0 [] none) (.seq (.reg f109_r1 [] none) .ret))
theorem f109_lc : Tryz.f109.body.map lc = some f109_c.st := by kernel_rfl
theorem f109_res : Tryz.f109.results.toList = [.tmp 4] := by kernel_rfl
theorem f109_nt : Tryz.f109.ntmps = 8 := by kernel_rfl
theorem f109_nm : (Tryz.f109.name == "runtime.NumGoroutine") = false := by kernel_rfl
def f111_r0 : List LOp := [
⟨some 2, .assign (.const (.int .i64 0)), none⟩]
def f111_r1 : List LOp := [
⟨some 3, .move (.tmp 0), none⟩,
⟨some 4, .binOp .eql 22 (.tmp 3) (.const (.int .u64 0)) 22, none⟩]
def f111_r2 : List LOp := [
⟨some 2, .assign (.const (.int .i64 64)), none⟩]
def f111_r3 : List LOp := [
⟨some 5, .move (.tmp 0), none⟩,
⟨some 6, .move (.tmp 0), none⟩,
⟨some 7, .unOp .neg 22 (.tmp 6), none⟩,
⟨some 8, .binOp .and 22 (.tmp 5) (.tmp 7) 22, none⟩,
⟨some 9, .binOp .mul 22 (.tmp 8) (.const (.int .u64 285870213051353865)) 22, none⟩,
⟨some 10, .binOp .shr 22 (.tmp 9) (.const (.int .u64 58)) 137, none⟩,
⟨some 11, .indexAddr 136 (.global 0) (.tmp 10), none⟩,
⟨some 12, .load 5 (.tmp 11), none⟩,
⟨some 13, .convert 5 3 (.tmp 12), none⟩,
⟨some 2, .assign (.tmp 13), none⟩]
def f111_c : LC := (.seq (.reg f111_r0 [] none) (.seq (.seq (.reg f111_r1 [] none) (.cond (.tmp 4) (.seq (.reg f111_r2 [] none) .ret) .skip)) (.seq (.reg f111_r3 [] none) .ret)))
theorem f111_lc : Tryz.f111.body.map lc = some f111_c.st := by kernel_rfl
theorem f111_res : Tryz.f111.results.toList = [.tmp 2] := by kernel_rfl
theorem f111_nt : Tryz.f111.ntmps = 14 := by kernel_rfl
theorem f111_nm : (Tryz.f111.name == "runtime.NumGoroutine") = false := by kernel_rfl
def f112_r0 : List LOp := [
⟨some 2, .assign (.const (.string { data := #[] })), none⟩]
def f112_r1 : List LOp := [
⟨some 6, .move (.tmp 0), none⟩,
⟨some 7, .call ⟨.builtin .len, #[.tmp 6], #[72]⟩, none⟩,
⟨some 8, .binOp .mul 3 (.const (.int .i64 2)) (.tmp 7) 3, none⟩,
⟨some 9, .makeSlice 72 (.const (.int .i64 0)) (.tmp 8), none⟩,
⟨some 3, .assign (.tmp 9), none⟩]
def f112_r2 : List LOp := [
⟨some 10, .move (.tmp 0), none⟩,
⟨some 11, .call ⟨.builtin .len, #[.tmp 10], #[72]⟩, none⟩,
⟨some 12, .move (.const (.int .i64 0)), none⟩]
def f112_r3 : List LOp := [
⟨some 13, .binOp .lss 3 (.tmp 12) (.tmp 11) 3, none⟩]
def f112_r4 : List LOp := [
⟨some 14, .indexAddr 72 (.tmp 10) (.tmp 12), none⟩,
⟨some 15, .load 5 (.tmp 14), none⟩,
⟨some 5, .assign (.tmp 15), none⟩]
def f112_r5 : List LOp := [
⟨some 16, .move (.tmp 3), none⟩,
⟨some 17, .move (.tmp 5), none⟩,
⟨some 18, .binOp .shr 5 (.tmp 17) (.const (.int .u64 4)) 137, none⟩,
⟨some 19, .call ⟨.value (.func 122), #[.tmp 18], #[5]⟩, none⟩,
⟨some 20, .move (.tmp 5), none⟩,
⟨some 21, .call ⟨.value (.func 122), #[.tmp 20], #[5]⟩, none⟩,
⟨some 22, .buildSlice 72 2 #[(0, .tmp 19), (1, .tmp 21)], none⟩,
⟨some 23, .call ⟨.builtin .append, #[.tmp 16, .tmp 22], #[72, 72]⟩, none⟩,
⟨some 3, .assign (.tmp 23), none⟩]
def f112_r6 : List LOp := [
⟨some 24, .binOp .add 3 (.tmp 12) (.const (.int .i64 1)) 3, none⟩,
⟨some 12, .move (.tmp 24), none⟩]
def f112_l7 : LC := (.seq (.reg f112_r3 [] none) (.seq (.cond (.tmp 13) .skip (.exit 0)) (.seq (.block 1 (.seq (.reg f112_r4 [] none) (.reg f112_r5 [] none))) (.reg f112_r6 [] none))))
def f112_i7 (t3 t10 t11 t12 : D) : List D := [.any, .any, .any, t3, .any, .any, .any, .any, .any, .any, t10, t11, t12, .any, .any, .any, .any, .any, .any, .any, .any, .any, .any, .any, .any, .any, .any]
def f112_r8 : List LOp := [
⟨some 25, .move (.tmp 3), none⟩,
⟨some 26, .convert 72 9 (.tmp 25), none⟩,
⟨some 2, .assign (.tmp 26), none⟩]
def f112_c : LC := (.seq (.reg f112_r0 [] none) (.seq (.reg f112_r1 [3] none) (.seq (.seq (.reg f112_r2 [] none) (.block 0 (.loop f112_l7))) (.seq (.reg f112_r8 [] none) .ret))))
theorem f112_lc : Tryz.f112.body.map lc = some f112_c.st := by kernel_rfl
theorem f112_res : Tryz.f112.results.toList = [.tmp 2] := by kernel_rfl
theorem f112_nt : Tryz.f112.ntmps = 27 := by kernel_rfl
theorem f112_nm : (Tryz.f112.name == "runtime.NumGoroutine") = false := by kernel_rfl
def f113_r0 : List LOp := [
⟨some 4, .load 25 (.tmp 1), none⟩,
⟨some 5, .call ⟨.builtin .len, #[.tmp 4], #[25]⟩, none⟩,
⟨some 6, .binOp .sub 3 (.tmp 5) (.const (.int .i64 1)) 3, none⟩,
⟨some 3, .assign (.tmp 6), none⟩]
def f113_r1 : List LOp := [
⟨some 7, .move (.tmp 3), none⟩,
⟨some 8, .binOp .geq 3 (.tmp 7) (.const (.int .i64 0)) 3, none⟩]
def f113_r2 : List LOp := [
⟨some 11, .move (.tmp 0), none⟩,
⟨some 12, .move (.tmp 3), none⟩,
⟨some 13, .load 25 (.tmp 1), none⟩,
⟨some 14, .move (.tmp 3), none⟩,
⟨some 15, .indexAddr 25 (.tmp 13) (.tmp 14), none⟩,
⟨some 16, .load 27 (.tmp 15), none⟩,
⟨some 17, .call ⟨.value (.tmp 11), #[.tmp 12, .tmp 16], #[3, 27]⟩, none⟩,
⟨some 18, .unOp .not 4 (.tmp 17), none⟩]
def f113_r3 : List LOp := [
⟨some 9, .move (.tmp 3), none⟩,
⟨some 10, .binOp .sub 3 (.tmp 9) (.const (.int .i64 1)) 3, none⟩,
⟨some 3, .assign (.tmp 10), none⟩]
def f113_l4 : LC := (.seq (.seq (.reg f113_r1 [] none) (.cond (.tmp 8) .skip (.exit 0))) (.seq (.block 1 (.seq (.reg f113_r2 [] none) (.cond (.tmp 18) .ret .skip))) (.reg f113_r3 [] none)))
def f113_i4 (t0 t1 t3 : D) : List D := [t0, t1, .any, t3, .any, .any, .any, .any, .any, .any, .any, .any, .any, .any, .any, .any, .any, .any, .any]
def f113_c : LC := (.seq (.reg f113_r0 [] none) (.block 0 (.loop f113_l4)))
theorem f113_lc : Tryz.f113.body.map lc = some f113_c.st := by kernel_rfl
theorem f113_res : Tryz.f113.results.toList = [] := by kernel_rfl
theorem f113_nt : Tryz.f113.ntmps = 19 := by kernel_rfl
theorem f113_nm : (Tryz.f113.name == "runtime.NumGoroutine") = false := by kernel_rfl
def f119_r0 : List LOp := [
⟨some 2, .assign (.const (.string { data := #[] })), none⟩]
def f119_r1 : List LOp := [
⟨some 3, .move (.tmp 0), none⟩,
⟨some 4, .move (.tmp 0), none⟩,
⟨some 5, .binOp .add 3 (.tmp 4) (.const (.int .i64 1)) 3, none⟩,
⟨some 6, .slice 9 (.const (.string { data := #[48, 49, 50, 51, 52, 53, 54, 55, 56, 57, 97, 98, 99, 100, 101, 102] })) (some (.tmp 3)) (some (.tmp 5)) none, none⟩,
⟨some 2, .assign (.tmp 6), none⟩]
def f119_c : LC := (.seq (.reg f119_r0 [] none) (.seq (.reg f119_r1 [] none) .ret))
theorem f119_lc : Tryz.f119.body.map lc = some f119_c.st := by kernel_rfl
theorem f119_res : Tryz.f119.results.toList = [.tmp 2] := by kernel_rfl
theorem f119_nt : Tryz.f119.ntmps = 7 := by kernel_rfl
theorem f119_nm : (Tryz.f119.name == "runtime.NumGoroutine") = false := by kernel_rfl
def f120_r0 : List LOp := [
⟨some 2, .alloc 27, none⟩]
def f120_r1 : List LOp := [
⟨some 5, .move (.tmp 0), none⟩,
⟨some 6, .call ⟨.value (.func 87), #[.tmp 5, .const (.string { data := #[46] })], #[66, 9]⟩, none⟩,
⟨some 4, .assign (.tmp 6), none⟩]
def f120_r2 : List LOp := [
⟨some 7, .move (.tmp 0), none⟩,
⟨some 8, .nilCheck (.tmp 7), none⟩,
⟨some 9, .fieldAddr 68 (.tmp 8) 1, none⟩,
⟨some 10, .load 3 (.tmp 9), none⟩,
⟨some 11, .binOp .add 3 (.tmp 10) (.const (.int .i64 1)) 3, none⟩,
⟨some 12, .nilCheck (.tmp 7), none⟩,
⟨some 13, .fieldAddr 68 (.tmp 12) 1, none⟩,
⟨none, .store 3 (.tmp 13) (.tmp 11), none⟩]
def f120_r3 : List LOp := [
⟨some 14, .call ⟨.value (.func 130), #[.const (.int .u8 0), .const (.int .u8 255)], #[5, 5]⟩, none⟩,
⟨some 15, .call ⟨.value (.func 98), #[.tmp 14], #[24]⟩, none⟩,
⟨none, .store 27 (.tmp 2) (.tmp 15), none⟩]
def f120_r4 : List LOp := [
⟨some 17, .move (.tmp 0), none⟩,
⟨some 18, .call ⟨.value (.func 87), #[.tmp 17, .const (.string { data := #[91] })], #[66, 9]⟩, none⟩,
⟨some 16, .assign (.tmp 18), none⟩]
def f120_r5 : List LOp := [
⟨some 19, .move (.tmp 0), none⟩,
⟨some 20, .nilCheck (.tmp 19), none⟩,
⟨some 21, .fieldAddr 68 (.tmp 20) 1, none⟩,
⟨some 22, .load 3 (.tmp 21), none⟩,
⟨some 23, .binOp .add 3 (.tmp 22) (.const (.int .i64 1)) 3, none⟩,
⟨some 24, .nilCheck (.tmp 19), none⟩,
⟨some 25, .fieldAddr 68 (.tmp 24) 1, none⟩,
⟨none, .store 3 (.tmp 25) (.tmp 23), none⟩]
def f120_r6 : List LOp := [
⟨some 26, .move (.tmp 0), none⟩,
⟨some 27, .call ⟨.value (.func 131), #[.tmp 26], #[66]⟩, none⟩,
⟨none, .store 27 (.tmp 2) (.tmp 27), none⟩]
def f120_r7 : List LOp := [
⟨some 29, .move (.tmp 0), none⟩,
⟨some 30, .call ⟨.value (.func 87), #[.tmp 29, .const (.string { data := #[40] })], #[66, 9]⟩, none⟩,
⟨some 28, .assign (.tmp 30), none⟩]
def f120_r8 : List LOp := [
⟨some 31, .move (.tmp 0), none⟩,
⟨some 32, .nilCheck (.tmp 31), none⟩,
⟨some 33, .fieldAddr 68 (.tmp 32) 1, none⟩,
⟨some 34, .load 3 (.tmp 33), none⟩,
⟨some 35, .binOp .add 3 (.tmp 34) (.const (.int .i64 1)) 3, none⟩,
⟨some 36, .nilCheck (.tmp 31), none⟩,
⟨some 37, .fieldAddr 68 (.tmp 36) 1, none⟩,
⟨none, .store 3 (.tmp 37) (.tmp 35), none⟩]
def f120_r9 : List LOp := [
⟨some 38, .move (.tmp 0), none⟩,
⟨some 39, .call ⟨.value (.func 87), #[.tmp 38, .const (.string { data := #[41] })], #[66, 9]⟩, none⟩]
def f120_r10 : List LOp := [
⟨some 40, .move (.tmp 0), none⟩,
⟨some 41, .nilCheck (.tmp 40), none⟩,
⟨some 42, .fieldAddr 68 (.tmp 41) 1, none⟩,
⟨some 43, .load 3 (.tmp 42), none⟩,
⟨some 44, .binOp .add 3 (.tmp 43) (.const (.int .i64 1)) 3, none⟩,
⟨some 45, .nilCheck (.tmp 40), none⟩,
⟨some 46, .fieldAddr 68 (.tmp 45) 1, none⟩,
⟨none, .store 3 (.tmp 46) (.tmp 44), none⟩]
def f120_r11 : List LOp := [
⟨some 47, .call ⟨.value (.func 52), #[.const (.slice none 0 0)], #[25]⟩, none⟩,
⟨none, .store 27 (.tmp 2) (.tmp 47), none⟩]
def f120_r12 : List LOp := [
⟨some 48, .move (.tmp 0), none⟩,
⟨some 49, .call ⟨.value (.func 66), #[.tmp 48], #[66]⟩, none⟩,
⟨some 3, .alloc 27, none⟩,
⟨none, .store 27 (.tmp 3) (.tmp 49), none⟩]
def f120_r13 : List LOp := [
⟨some 50, .move (.tmp 0), none⟩,
⟨some 51, .call ⟨.value (.func 132), #[.tmp 50, .const (.string { data := #[41] })], #[66, 9]⟩, none⟩]
def f120_r14 : List LOp := [
⟨some 52, .load 27 (.tmp 3), none⟩,
⟨none, .store 27 (.tmp 2) (.tmp 52), none⟩]
def f120_r15 : List LOp := [
⟨some 53, .move (.tmp 0), none⟩,
⟨some 54, .call ⟨.value (.func 134), #[.tmp 53], #[66]⟩, none⟩,
⟨some 55, .buildSlice 72 1 #[(0, .tmp 54)], none⟩,
⟨some 56, .call ⟨.value (.func 133), #[.tmp 55], #[72]⟩, none⟩,
⟨some 57, .call ⟨.value (.func 98), #[.tmp 56], #[24]⟩, none⟩,
⟨none, .store 27 (.tmp 2) (.tmp 57), none⟩]
def f120_c : LC := (.seq (.reg f120_r0 [] none) (.seq (.block 0 (.seq (.reg f120_r1 [] none) (.cond (.tmp 4) (.seq (.reg f120_r2 [] none) (.seq (.reg f120_r3 [] none) .ret)) (.seq (.reg f120_r4 [] none) (.cond (.tmp 16) (.seq (.reg f120_r5 [] none) (.seq (.reg f120_r6 [] none) .ret)) (.seq (.reg f120_r7 [] none) (.cond (.tmp 28) (.seq (.reg f120_r8 [] none) (.seq (.seq (.reg f120_r9 [] none) (.cond (.tmp 39) (.seq (.reg f120_r10 [] none) (.seq (.reg f120_r11 [] none) .ret)) .skip)) (.seq (.reg f120_r12 [] none) (.seq (.reg f120_r13 [] none) (.seq (.reg f120_r14 [] none) .ret))))) .skip))))))) (.seq (.reg f120_r15 [] none) .ret)))
theorem f120_lc : Tryz.f120.body.map lc = some f120_c.st := by kernel_rfl
theorem f120_res : Tryz.f120.results.toList = [.cell 2 27] := by kernel_rfl
theorem f120_nt : Tryz.f120.ntmps = 58 := by kernel_rfl
theorem f120_nm : (Tryz.f120.name == "runtime.NumGoroutine") = false := by kernel_rfl
def f122_r0 : List LOp := [
⟨some 2, .assign (.const (.int .u8 0)), none⟩]
def f122_r1 : List LOp := [
⟨some 3, .move (.tmp 0), none⟩,
⟨some 4, .binOp .and 5 (.tmp 3) (.const (.int .u8 15)) 5, none⟩,
⟨some 5, .index 9 (.const (.string { data := #[48, 49, 50, 51, 52, 53, 54, 55, 56, 57, 97, 98, 99, 100, 101, 102] })) (.tmp 4), none⟩,
⟨some 2, .assign (.tmp 5), none⟩]
def f122_c : LC := (.seq (.reg f122_r0 [] none) (.seq (.reg f122_r1 [] none) .ret))
theorem f122_lc : Tryz.f122.body.map lc = some f122_c.st := by kernel_rfl
theorem f122_res : Tryz.f122.results.toList = [.tmp 2] := by kernel_rfl
theorem f122_nt : Tryz.f122.ntmps = 6 := by kernel_rfl
theorem f122_nm : (Tryz.f122.name == "runtime.NumGoroutine") = false := by kernel_rfl
def f130_r0 : List LOp := [
⟨some 4, .alloc 24, none⟩]
def f130_r1 : List LOp := [
⟨some 5, .alloc 24, none⟩]
def f130_r2 : List LOp := [
⟨some 7, .move (.tmp 0), none⟩,
⟨some 8, .convert 5 3 (.tmp 7), none⟩,
⟨some 6, .assign (.tmp 8), none⟩]
def f130_r3 : List LOp := [
⟨some 9, .move (.tmp 6), none⟩,
⟨some 10, .move (.tmp 1), none⟩,
⟨some 11, .convert 5 3 (.tmp 10), none⟩,
⟨some 12, .binOp .leq 3 (.tmp 9) (.tmp 11) 3, none⟩]
def f130_r4 : List LOp := [
⟨some 15, .move (.tmp 6), none⟩,
⟨some 16, .binOp .quo 3 (.tmp 15) (.const (.int .i64 64)) 3, none⟩,
⟨some 17, .indexAddr 24 (.tmp 5) (.tmp 16), none⟩,
⟨some 18, .load 22 (.tmp 17), none⟩,
⟨some 19, .move (.tmp 6), none⟩,
⟨some 20, .binOp .rem 3 (.tmp 19) (.const (.int .i64 64)) 3, none⟩,
⟨some 21, .binOp .shl 22 (.const (.int .u64 1)) (.tmp 20) 3, none⟩,
⟨some 22, .binOp .or 22 (.tmp 18) (.tmp 21) 22, none⟩,
⟨some 23, .indexAddr 24 (.tmp 5) (.tmp 16), none⟩,
⟨none, .store 22 (.tmp 23) (.tmp 22), none⟩]
def f130_r5 : List LOp := [
⟨some 13, .move (.tmp 6), none⟩,
⟨some 14, .binOp .add 3 (.tmp 13) (.const (.int .i64 1)) 3, none⟩,
⟨some 6, .assign (.tmp 14), none⟩]
def f130_l6 : LC := (.seq (.seq (.reg f130_r3 [] none) (.cond (.tmp 12) .skip (.exit 0))) (.seq (.block 1 (.reg f130_r4 [] (some 7))) (.reg f130_r5 [] none)))
def f130_i6 (t1 t4 t5 t6 : D) : List D := [.any, t1, .any, .any, t4, t5, t6, .any, .any, .any, .any, .any, .any, .any, .any, .any, .any, .any, .any, .any, .any, .any, .any, .any, .any]
def f130_r7 : List LOp := [
⟨some 24, .load 24 (.tmp 5), none⟩,
⟨none, .store 24 (.tmp 4) (.tmp 24), none⟩]
def f130_c : LC := (.seq (.reg f130_r0 [] none) (.seq (.reg f130_r1 [] none) (.seq (.seq (.reg f130_r2 [] none) (.block 0 (.loop f130_l6))) (.seq (.reg f130_r7 [] none) .ret))))
theorem f130_lc : Tryz.f130.body.map lc = some f130_c.st := by kernel_rfl
theorem f130_res : Tryz.f130.results.toList = [.cell 4 24] := by kernel_rfl
theorem f130_nt : Tryz.f130.ntmps = 25 := by kernel_rfl
theorem f130_nm : (Tryz.f130.name == "runtime.NumGoroutine") = false := by kernel_rfl
def f131_r0 : List LOp := [
⟨some 2, .alloc 27, none⟩]
def f131_r1 : List LOp := [
⟨some 3, .alloc 24, none⟩]
def f131_r2 : List LOp := [
⟨some 7, .move (.tmp 0), none⟩,
⟨some 8, .call ⟨.value (.func 87), #[.tmp 7, .const (.string { data := #[93] })], #[66, 9]⟩, none⟩,
⟨some 9, .unOp .not 4 (.tmp 8), none⟩]
def f131_r3 : List LOp := [
⟨some 10, .move (.tmp 0), none⟩,
⟨some 11, .call ⟨.value (.func 134), #[.tmp 10], #[66]⟩, none⟩,
⟨some 4, .assign (.tmp 11), none⟩]
def f131_r4 : List LOp := [
⟨some 12, .move (.tmp 4), none⟩,
⟨some 5, .assign (.tmp 12), none⟩]
def f131_r5 : List LOp := [
⟨some 13, .move (.tmp 0), none⟩,
⟨some 14, .call ⟨.value (.func 87), #[.tmp 13, .const (.string { data := #[45] })], #[66, 9]⟩, none⟩]
def f131_r6 : List LOp := [
⟨some 15, .move (.tmp 0), none⟩,
⟨some 16, .nilCheck (.tmp 15), none⟩,
⟨some 17, .fieldAddr 68 (.tmp 16) 1, none⟩,
⟨some 18, .load 3 (.tmp 17), none⟩,
⟨some 19, .binOp .add 3 (.tmp 18) (.const (.int .i64 1)) 3, none⟩,
⟨some 20, .nilCheck (.tmp 15), none⟩,
⟨some 21, .fieldAddr 68 (.tmp 20) 1, none⟩,
⟨none, .store 3 (.tmp 21) (.tmp 19), none⟩]
def f131_r7 : List LOp := [
⟨some 22, .move (.tmp 0), none⟩,
⟨some 23, .nilCheck (.tmp 22), none⟩,
⟨some 24, .fieldAddr 68 (.tmp 23) 1, none⟩,
⟨some 25, .load 3 (.tmp 24), none⟩,
⟨some 6, .assign (.tmp 25), none⟩]
def f131_r8 : List LOp := [
⟨some 26, .move (.tmp 0), none⟩,
⟨some 27, .call ⟨.value (.func 134), #[.tmp 26], #[66]⟩, none⟩,
⟨some 5, .assign (.tmp 27), none⟩]
def f131_r9 : List LOp := [
⟨some 28, .move (.tmp 5), none⟩,
⟨some 29, .move (.tmp 4), none⟩,
⟨some 30, .binOp .lss 5 (.tmp 28) (.tmp 29) 5, none⟩]
def f131_r10 : List LOp := [
⟨some 31, .move (.tmp 6), none⟩,
⟨some 32, .build 93 #[(0, .tmp 31)], none⟩,
⟨some 33, .makeInterface 93 (.tmp 32), none⟩,
⟨none, .panic (.tmp 33), none⟩]
def f131_r11 : List LOp := [
⟨some 34, .load 24 (.tmp 3), none⟩,
⟨some 35, .move (.tmp 4), none⟩,
⟨some 36, .move (.tmp 5), none⟩,
⟨some 37, .call ⟨.value (.func 130), #[.tmp 35, .tmp 36], #[5, 5]⟩, none⟩,
⟨some 38, .buildSlice 129 2 #[(0, .tmp 34), (1, .tmp 37)], none⟩,
⟨some 39, .call ⟨.value (.func 97), #[.tmp 38], #[129]⟩, none⟩,
⟨none, .store 24 (.tmp 3) (.tmp 39), none⟩]
def f131_l12 : LC := (.seq (.seq (.reg f131_r2 [] none) (.cond (.tmp 9) .skip (.exit 0))) (.block 1 (.seq (.reg f131_r3 [] none) (.seq (.reg f131_r4 [] none) (.seq (.seq (.reg f131_r5 [] none) (.cond (.tmp 14) (.seq (.reg f131_r6 [] none) (.seq (.reg f131_r7 [] none) (.seq (.reg f131_r8 [] none) (.seq (.reg f131_r9 [] none) (.cond (.tmp 30) (.reg f131_r10 [] none) .skip))))) .skip)) (.reg f131_r11 [] (some 4)))))))
def f131_i12 (t0 t2 t3 : D) : List D := [t0, .any, t2, t3, .any, .any, .any, .any, .any, .any, .any, .any, .any, .any, .any, .any, .any, .any, .any, .any, .any, .any, .any, .any, .any, .any, .any, .any, .any, .any, .any, .any, .any, .any, .any, .any, .any, .any, .any, .any, .any, .any, .any, .any, .any, .any, .any, .any, .any]
def f131_r13 : List LOp := [
⟨some 40, .move (.tmp 0), none⟩,
⟨some 41, .nilCheck (.tmp 40), none⟩,
⟨some 42, .fieldAddr 68 (.tmp 41) 1, none⟩,
⟨some 43, .load 3 (.tmp 42), none⟩,
⟨some 44, .binOp .add 3 (.tmp 43) (.const (.int .i64 1)) 3, none⟩,
⟨some 45, .nilCheck (.tmp 40), none⟩,
⟨some 46, .fieldAddr 68 (.tmp 45) 1, none⟩,
⟨none, .store 3 (.tmp 46) (.tmp 44), none⟩]
def f131_r14 : List LOp := [
⟨some 47, .load 24 (.tmp 3), none⟩,
⟨some 48, .call ⟨.value (.func 98), #[.tmp 47], #[24]⟩, none⟩,
⟨none, .store 27 (.tmp 2) (.tmp 48), none⟩]
def f131_c : LC := (.seq (.reg f131_r0 [] none) (.seq (.reg f131_r1 [] none) (.seq (.block 0 (.loop f131_l12)) (.seq (.reg f131_r13 [] none) (.seq (.reg f131_r14 [] none) .ret)))))
theorem f131_lc : Tryz.f131.body.map lc = some f131_c.st := by kernel_rfl
theorem f131_res : Tryz.f131.results.toList = [.cell 2 27] := by kernel_rfl
theorem f131_nt : Tryz.f131.ntmps = 49 := by kernel_rfl
theorem f131_nm : (Tryz.f131.name == "runtime.NumGoroutine") = false := by kernel_rfl
def f132_r0 : List LOp := [
⟨some 4, .move (.tmp 0), none⟩,
⟨some 5, .move (.tmp 1), none⟩,
⟨some 6, .call ⟨.value (.func 87), #[.tmp 4, .tmp 5], #[66, 9]⟩, none⟩,
⟨some 7, .unOp .not 4 (.tmp 6), none⟩]
def f132_r1 : List LOp := [
⟨some 8, .move (.tmp 0), none⟩,
⟨some 9, .nilCheck (.tmp 8), none⟩,
⟨some 10, .fieldAddr 68 (.tmp 9) 1, none⟩,
⟨some 11, .load 3 (.tmp 10), none⟩,
⟨some 12, .build 93 #[(0, .tmp 11)], none⟩,
⟨some 13, .makeInterface 93 (.tmp 12), none⟩,
⟨none, .panic (.tmp 13), none⟩]
def f132_r2 : List LOp := [
⟨some 14, .move (.tmp 0), none⟩,
⟨some 15, .nilCheck (.tmp 14), none⟩,
⟨some 16, .fieldAddr 68 (.tmp 15) 1, none⟩,
⟨some 17, .load 3 (.tmp 16), none⟩,
⟨some 18, .binOp .add 3 (.tmp 17) (.const (.int .i64 1)) 3, none⟩,
⟨some 19, .nilCheck (.tmp 14), none⟩,
⟨some 20, .fieldAddr 68 (.tmp 19) 1, none⟩,
⟨none, .store 3 (.tmp 20) (.tmp 18), none⟩]
def f132_c : LC := (.seq (.seq (.reg f132_r0 [] none) (.cond (.tmp 7) (.reg f132_r1 [] none) .skip)) (.reg f132_r2 [] none))
theorem f132_lc : Tryz.f132.body.map lc = some f132_c.st := by kernel_rfl
theorem f132_res : Tryz.f132.results.toList = [] := by kernel_rfl
theorem f132_nt : Tryz.f132.ntmps = 21 := by kernel_rfl
theorem f132_nm : (Tryz.f132.name == "runtime.NumGoroutine") = false := by kernel_rfl
def f133_r0 : List LOp := [
⟨some 2, .alloc 24, none⟩]
def f133_r1 : List LOp := [
⟨some 3, .alloc 24, none⟩]
def f133_r2 : List LOp := [
⟨some 6, .move (.tmp 0), none⟩,
⟨some 7, .call ⟨.builtin .len, #[.tmp 6], #[72]⟩, none⟩,
⟨some 8, .move (.const (.int .i64 0)), none⟩]
def f133_r3 : List LOp := [
⟨some 9, .binOp .lss 3 (.tmp 8) (.tmp 7) 3, none⟩]
def f133_r4 : List LOp := [
⟨some 10, .indexAddr 72 (.tmp 6) (.tmp 8), none⟩,
⟨some 11, .load 5 (.tmp 10), none⟩,
⟨some 5, .assign (.tmp 11), none⟩]
def f133_r5 : List LOp := [
⟨some 12, .move (.tmp 5), none⟩,
⟨some 13, .binOp .quo 5 (.tmp 12) (.const (.int .u8 64)) 5, none⟩,
⟨some 14, .indexAddr 24 (.tmp 3) (.tmp 13), none⟩,
⟨some 15, .load 22 (.tmp 14), none⟩,
⟨some 16, .move (.tmp 5), none⟩,
⟨some 17, .binOp .rem 5 (.tmp 16) (.const (.int .u8 64)) 5, none⟩,
⟨some 18, .binOp .shl 22 (.const (.int .u64 1)) (.tmp 17) 5, none⟩,
⟨some 19, .binOp .or 22 (.tmp 15) (.tmp 18) 22, none⟩,
⟨some 20, .indexAddr 24 (.tmp 3) (.tmp 13), none⟩,
⟨none, .store 22 (.tmp 20) (.tmp 19), none⟩]
def f133_r6 : List LOp := [
⟨some 21, .binOp .add 3 (.tmp 8) (.const (.int .i64 1)) 3, none⟩,
⟨some 8, .move (.tmp 21), none⟩]
def f133_l7 : LC := (.seq (.reg f133_r3 [] none) (.seq (.cond (.tmp 9) .skip (.exit 0)) (.seq (.block 1 (.seq (.reg f133_r4 [] none) (.reg f133_r5 [] none))) (.reg f133_r6 [] none))))
def f133_i7 (t2 t3 t6 t7 t8 : D) : List D := [.any, .any, t2, t3, .any, .any, t6, t7, t8, .any, .any, .any, .any, .any, .any, .any, .any, .any, .any, .any, .any, .any, .any]
def f133_r8 : List LOp := [
⟨some 22, .load 24 (.tmp 3), none⟩,
⟨none, .store 24 (.tmp 2) (.tmp 22), none⟩]
def f133_c : LC := (.seq (.reg f133_r0 [] none) (.seq (.reg f133_r1 [] none) (.seq (.seq (.reg f133_r2 [] none) (.block 0 (.loop f133_l7))) (.seq (.reg f133_r8 [] none) .ret))))
theorem f133_lc : Tryz.f133.body.map lc = some f133_c.st := by kernel_rfl
theorem f133_res : Tryz.f133.results.toList = [.cell 2 24] := by kernel_rfl
theorem f133_nt : Tryz.f133.ntmps = 23 := by kernel_rfl
theorem f133_nm : (Tryz.f133.name == "runtime.NumGoroutine") = false := by kernel_rfl
def f134_r0 : List LOp := [
⟨some 2, .assign (.const (.int .u8 0)), none⟩]
def f134_r1 : List LOp := [
⟨some 7, .move (.tmp 0), none⟩,
⟨some 8, .call ⟨.value (.func 108), #[.tmp 7], #[66]⟩, none⟩,
⟨some 9, .unOp .not 4 (.tmp 8), none⟩]
def f134_r2 : List LOp := [
⟨some 10, .move (.tmp 0), none⟩,
⟨some 11, .nilCheck (.tmp 10), none⟩,
⟨some 12, .fieldAddr 68 (.tmp 11) 1, none⟩,
⟨some 13, .load 3 (.tmp 12), none⟩,
⟨some 14, .build 93 #[(0, .tmp 13)], none⟩,
⟨some 15, .makeInterface 93 (.tmp 14), none⟩,
⟨none, .panic (.tmp 15), none⟩]
def f134_r3 : List LOp := [
⟨some 16, .move (.tmp 0), none⟩,
⟨some 17, .nilCheck (.tmp 16), none⟩,
⟨some 18, .fieldAddr 68 (.tmp 17) 0, none⟩,
⟨some 19, .load 9 (.tmp 18), none⟩,
⟨some 20, .move (.tmp 0), none⟩,
⟨some 21, .nilCheck (.tmp 20), none⟩,
⟨some 22, .fieldAddr 68 (.tmp 21) 1, none⟩,
⟨some 23, .load 3 (.tmp 22), none⟩,
⟨some 24, .index 9 (.tmp 19) (.tmp 23), none⟩,
⟨some 3, .assign (.tmp 24), none⟩]
def f134_r4 : List LOp := [
⟨some 25, .move (.tmp 0), none⟩,
⟨some 26, .nilCheck (.tmp 25), none⟩,
⟨some 27, .fieldAddr 68 (.tmp 26) 1, none⟩,
⟨some 28, .load 3 (.tmp 27), none⟩,
⟨some 29, .binOp .add 3 (.tmp 28) (.const (.int .i64 1)) 3, none⟩,
⟨some 30, .nilCheck (.tmp 25), none⟩,
⟨some 31, .fieldAddr 68 (.tmp 30) 1, none⟩,
⟨none, .store 3 (.tmp 31) (.tmp 29), none⟩]
def f134_r5 : List LOp := [
⟨some 32, .move (.tmp 3), none⟩,
⟨some 33, .binOp .neq 5 (.tmp 32) (.const (.int .u8 92)) 5, none⟩]
def f134_r6 : List LOp := [
⟨some 34, .move (.tmp 3), none⟩,
⟨some 2, .assign (.tmp 34), none⟩]
def f134_r7 : List LOp := [
⟨some 35, .move (.tmp 0), none⟩,
⟨some 36, .nilCheck (.tmp 35), none⟩,
⟨some 37, .fieldAddr 68 (.tmp 36) 1, none⟩,
⟨some 38, .load 3 (.tmp 37), none⟩,
⟨some 4, .assign (.tmp 38), none⟩]
def f134_r8 : List LOp := [
⟨some 39, .move (.tmp 0), none⟩,
⟨some 40, .call ⟨.value (.func 141), #[.tmp 39], #[66]⟩, none⟩]
def f134_r9 : List LOp := [
⟨some 41, .move (.tmp 0), none⟩,
⟨some 42, .call ⟨.value (.func 141), #[.tmp 41], #[66]⟩, none⟩]
def f134_r10 : List LOp := [
⟨some 44, .move (.tmp 0), none⟩,
⟨some 45, .nilCheck (.tmp 44), none⟩,
⟨some 46, .fieldAddr 68 (.tmp 45) 0, none⟩,
⟨some 47, .load 9 (.tmp 46), none⟩,
⟨some 48, .move (.tmp 4), none⟩,
⟨some 49, .move (.tmp 0), none⟩,
⟨some 50, .nilCheck (.tmp 49), none⟩,
⟨some 51, .fieldAddr 68 (.tmp 50) 1, none⟩,
⟨some 52, .load 3 (.tmp 51), none⟩,
⟨some 53, .slice 9 (.tmp 47) (some (.tmp 48)) (some (.tmp 52)) none, none⟩,
⟨some 54, .call ⟨.value (.func 142), #[.tmp 53], #[9]⟩, none⟩,
⟨some 43, .move (.tmp 54), none⟩,
⟨some 55, .extract (.tmp 43) 0, none⟩,
⟨some 56, .extract (.tmp 43) 1, none⟩,
⟨some 5, .assign (.tmp 55), none⟩,
⟨some 6, .assign (.tmp 56), none⟩]
def f134_r11 : List LOp := [
⟨some 57, .move (.tmp 5), none⟩,
⟨some 58, .indexAddr 72 (.tmp 57) (.const (.int .i64 0)), none⟩,
⟨some 59, .load 5 (.tmp 58), none⟩,
⟨some 2, .assign (.tmp 59), none⟩]
def f134_c : LC := (.seq (.reg f134_r0 [] none) (.seq (.seq (.reg f134_r1 [] none) (.cond (.tmp 9) (.reg f134_r2 [] none) .skip)) (.seq (.reg f134_r3 [] (some 8)) (.seq (.reg f134_r4 [] none) (.seq (.seq (.reg f134_r5 [] none) (.cond (.tmp 33) (.seq (.reg f134_r6 [] none) .ret) .skip)) (.seq (.reg f134_r7 [] none) (.seq (.reg f134_r8 [] none) (.seq (.reg f134_r9 [] none) (.seq (.regp f134_r10 [] [0, 4, 5] 15) (.seq (.reg f134_r11 [] none) .ret))))))))))
theorem f134_lc : Tryz.f134.body.map lc = some f134_c.st := by kernel_rfl
theorem f134_res : Tryz.f134.results.toList = [.tmp 2] := by kernel_rfl
theorem f134_nt : Tryz.f134.ntmps = 60 := by kernel_rfl
theorem f134_nm : (Tryz.f134.name == "runtime.NumGoroutine") = false := by kernel_rfl
def f141_r0 : List LOp := [
⟨some 2, .move (.tmp 0), none⟩,
⟨some 3, .call ⟨.value (.func 87), #[.tmp 2, .const (.string { data := #[48, 49, 50, 51, 52, 53, 54, 55, 56, 57, 97, 98, 99, 100, 101, 102] })], #[66, 9]⟩, none⟩,
⟨some 4, .unOp .not 4 (.tmp 3), none⟩]
def f141_r1 : List LOp := [
⟨some 5, .move (.tmp 0), none⟩,
⟨some 6, .nilCheck (.tmp 5), none⟩,
⟨some 7, .fieldAddr 68 (.tmp 6) 1, none⟩,
⟨some 8, .load 3 (.tmp 7), none⟩,
⟨some 9, .build 93 #[(0, .tmp 8)], none⟩,
⟨some 10, .makeInterface 93 (.tmp 9), none⟩,
⟨none, .panic (.tmp 10), none⟩]
def f141_r2 : List LOp := [
⟨some 11, .move (.tmp 0), none⟩,
⟨some 12, .nilCheck (.tmp 11), none⟩,
⟨some 13, .fieldAddr 68 (.tmp 12) 1, none⟩,
⟨some 14, .load 3 (.tmp 13), none⟩,
⟨some 15, .binOp .add 3 (.tmp 14) (.const (.int .i64 1)) 3, none⟩,
⟨some 16, .nilCheck (.tmp 11), none⟩,
⟨some 17, .fieldAddr 68 (.tmp 16) 1, none⟩,
⟨none, .store 3 (.tmp 17) (.tmp 15), none⟩]
def f141_c : LC := (.seq (.seq (.reg f141_r0 [] none) (.cond (.tmp 4) (.reg f141_r1 [] none) .skip)) (.reg f141_r2 [] none))
theorem f141_lc : Tryz.f141.body.map lc = some f141_c.st := by kernel_rfl
theorem f141_res : Tryz.f141.results.toList = [] := by kernel_rfl
theorem f141_nt : Tryz.f141.ntmps = 18 := by kernel_rfl
theorem f141_nm : (Tryz.f141.name == "runtime.NumGoroutine") = false := by kernel_rfl
def f142_r0 : List LOp := [
⟨some 2, .assign (.const (.slice none 0 0)), none⟩,
⟨some 3, .assign (.const (.int .i64 0)), none⟩]
def f142_r1 : List LOp := [
⟨some 4, .assign (.const (.slice none 0 0)), none⟩]
def f142_r2 : List LOp := [
⟨some 5, .assign (.const (.int .i64 0)), none⟩]
def f142_r3 : List LOp := [
⟨some 8, .move (.tmp 5), none⟩,
⟨some 9, .binOp .add 3 (.tmp 8) (.const (.int .i64 1)) 3, none⟩,
⟨some 10, .move (.tmp 0), none⟩,
⟨some 11, .call ⟨.builtin .len, #[.tmp 10], #[9]⟩, none⟩,
⟨some 12, .binOp .lss 3 (.tmp 9) (.tmp 11) 3, none⟩]
def f142_r4 : List LOp := [
⟨some 15, .move (.tmp 0), none⟩,
⟨some 16, .move (.tmp 5), none⟩,
⟨some 17, .index 9 (.tmp 15) (.tmp 16), none⟩,
⟨some 18, .call ⟨.value (.func 109), #[.const (.string { data := #[48, 49, 50, 51, 52, 53, 54, 55, 56, 57, 97, 98, 99, 100, 101, 102] }), .tmp 17], #[9, 5]⟩, none⟩,
⟨some 6, .assign (.tmp 18), none⟩]
def f142_r5 : List LOp := [
⟨some 19, .move (.tmp 0), none⟩,
⟨some 20, .move (.tmp 5), none⟩,
⟨some 21, .binOp .add 3 (.tmp 20) (.const (.int .i64 1)) 3, none⟩,
⟨some 22, .index 9 (.tmp 19) (.tmp 21), none⟩,
⟨some 23, .call ⟨.value (.func 109), #[.const (.string { data := #[48, 49, 50, 51, 52, 53, 54, 55, 56, 57, 97, 98, 99, 100, 101, 102] }), .tmp 22], #[9, 5]⟩, none⟩,
⟨some 7, .assign (.tmp 23), none⟩]
def f142_r6 : List LOp := [
⟨some 24, .move (.tmp 6), none⟩,
⟨some 25, .binOp .lss 3 (.tmp 24) (.const (.int .i64 0)) 3, none⟩,
⟨some 26, .move (.tmp 25), none⟩,
⟨some 27, .move (.tmp 7), some (2, false)⟩,
⟨some 28, .binOp .lss 3 (.tmp 27) (.const (.int .i64 0)) 3, some (2, false)⟩,
⟨some 29, .pick (.tmp 26) (.const (.bool true)) (.tmp 28), none⟩]
def f142_r7 : List LOp := [
⟨some 2, .assign (.const (.slice none 0 0)), none⟩,
⟨some 3, .assign (.const (.int .i64 2)), none⟩]
def f142_r8 : List LOp := [
⟨some 30, .move (.tmp 4), none⟩,
⟨some 31, .move (.tmp 6), none⟩,
⟨some 32, .binOp .shl 3 (.tmp 31) (.const (.int .u64 4)) 137, none⟩,
⟨some 33, .move (.tmp 7), none⟩,
⟨some 34, .binOp .or 3 (.tmp 32) (.tmp 33) 3, none⟩,
⟨some 35, .convert 3 5 (.tmp 34), none⟩,
⟨some 36, .buildSlice 72 1 #[(0, .tmp 35)], none⟩,
⟨some 37, .call ⟨.builtin .append, #[.tmp 30, .tmp 36], #[72, 72]⟩, none⟩,
⟨some 4, .assign (.tmp 37), none⟩]
def f142_r9 : List LOp := [
⟨some 13, .move (.tmp 5), none⟩,
⟨some 14, .binOp .add 3 (.tmp 13) (.const (.int .i64 2)) 3, none⟩,
⟨some 5, .assign (.tmp 14), none⟩]
def f142_l10 : LC := (.seq (.seq (.reg f142_r3 [] none) (.cond (.tmp 12) .skip (.exit 0))) (.seq (.block 1 (.seq (.reg f142_r4 [] none) (.seq (.reg f142_r5 [] none) (.seq (.seq (.reg f142_r6 [] none) (.cond (.tmp 29) (.seq (.reg f142_r7 [] none) .ret) .skip)) (.reg f142_r8 [] none))))) (.reg f142_r9 [] none)))
def f142_i10 (t0 t4 t5 : D) : List D := [t0, .any, .any, .any, t4, t5, .any, .any, .any, .any, .any, .any, .any, .any, .any, .any, .any, .any, .any, .any, .any, .any, .any, .any, .any, .any, .any, .any, .any, .any, .any, .any, .any, .any, .any, .any, .any, .any, .any, .any, .any, .any, .any]
def f142_r11 : List LOp := [
⟨some 38, .move (.tmp 0), none⟩,
⟨some 39, .call ⟨.builtin .len, #[.tmp 38], #[9]⟩, none⟩,
⟨some 40, .binOp .rem 3 (.tmp 39) (.const (.int .i64 2)) 3, none⟩,
⟨some 41, .binOp .eql 3 (.tmp 40) (.const (.int .i64 1)) 3, none⟩]
def f142_r12 : List LOp := [
⟨some 2, .assign (.const (.slice none 0 0)), none⟩,
⟨some 3, .assign (.const (.int .i64 2)), none⟩]
def f142_r13 : List LOp := [
⟨some 42, .move (.tmp 4), none⟩,
⟨some 2, .assign (.tmp 42), none⟩,
⟨some 3, .assign (.const (.int .i64 0)), none⟩]
def f142_c : LC := (.seq (.reg f142_r0 [] none) (.seq (.reg f142_r1 [] none) (.seq (.seq (.reg f142_r2 [] none) (.block 0 (.loop f142_l10))) (.seq (.seq (.reg f142_r11 [] none) (.cond (.tmp 41) (.seq (.reg f142_r12 [] none) .ret) .skip)) (.seq (.reg f142_r13 [] none) .ret)))))
theorem f142_lc : Tryz.f142.body.map lc = some f142_c.st := by kernel_rfl
theorem f142_res : Tryz.f142.results.toList = [.tmp 2, .tmp 3] := by kernel_rfl
theorem f142_nt : Tryz.f142.ntmps = 43 := by kernel_rfl
theorem f142_nm : (Tryz.f142.name == "runtime.NumGoroutine") = false := by kernel_rfl
attribute [go_sem] f8_r0 f8_r1 f8_c f26_r0 f26_r1 f26_r2 f26_r3 f26_r4 f26_r5 f26_r6 f26_r7 f26_r8 f26_l9 f26_i9 f26_r10 f26_c f27_r0 f27_r1 f27_r2 f27_r3 f27_r4 f27_r5 f27_r6 f27_c f28_r0 f28_r1 f28_r2 f28_r3 f28_r4 f28_r5 f28_c f29_r0 f29_r1 f29_c f31_r0 f31_r1 f31_r2 f31_r3 f31_r4 f31_r5 f31_r6 f31_r7 f31_r8 f31_r9 f31_r10 f31_l11 f31_i11 f31_r12 f31_c f38_r0 f38_r1 f38_c f44_r0 f44_r1 f44_r2 f44_r3 f44_r4 f44_r5 f44_r6 f44_r7 f44_r8 f44_r9 f44_r10 f44_r11 f44_r12 f44_r13 f44_r14 f44_c f45_r0 f45_r1 f45_r2 f45_r3 f45_r4 f45_r5 f45_c f46_r0 f46_r1 f46_r2 f46_r3 f46_r4 f46_r5 f46_r6 f46_r7 f46_r8 f46_r9 f46_r10 f46_r11 f46_r12 f46_r13 f46_r14 f46_r15 f46_r16 f46_r17 f46_r18 f46_r19 f46_r20 f46_r21 f46_r22 f46_c f48_r0 f48_r1 f48_c f49_r0 f49_r1 f49_c f50_r0 f50_r1 f50_r2 f50_r3 f50_r4 f50_r5 f50_r6 f50_l7 f50_i7 f50_r8 f50_c f52_r0 f52_r1 f52_c f53_r0 f53_r1 f53_c f54_r0 f54_r1 f54_r2 f54_r3 f54_r4 f54_r5 f54_r6 f54_l7 f54_i7 f54_r8 f54_c f55_r0 f55_r1 f55_r2 f55_r3 f55_r4 f55_r5 f55_l6 f55_i6 f55_r7 f55_c f62_r0 f62_r1 f62_r2 f62_r3 f62_r4 f62_r5 f62_r6 f62_l7 f62_i7 f62_r8 f62_c f63_r0 f63_r1 f63_r2 f63_r3 f63_r4 f63_r5 f63_r6 f63_r7 f63_r8 f63_r9 f63_r10 f63_r11 f63_r12 f63_r13 f63_l14 f63_i14 f63_r15 f63_r16 f63_r17 f63_r18 f63_r19 f63_r20 f63_l21 f63_i21 f63_r22 f63_c f64_r0 f64_r1 f64_r2 f64_r3 f64_c f65_r0 f65_r1 f65_r2 f65_r3 f65_r4 f65_r5 f65_r6 f65_r7 f65_c f66_r0 f66_r1 f66_r2 f66_r3 f66_r4 f66_l5 f66_i5 f66_r6 f66_c f67_r0 f67_r1 f67_c f68_r0 f68_r1 f68_r2 f68_r3 f68_c f69_r0 f69_r1 f69_r2 f69_r3 f69_c f70_r0 f70_r1 f70_r2 f70_r3 f70_r4 f70_r5 f70_r6 f70_r7 f70_r8 f70_r9 f70_r10 f70_r11 f70_r12 f70_l13 f70_i13 f70_r14 f70_r15 f70_r16 f70_r17 f70_r18 f70_r19 f70_l20 f70_i20 f70_r21 f70_r22 f70_c f71_r0 f71_r1 f71_r2 f71_r3 f71_r4 f71_r5 f71_r6 f71_r7 f71_r8 f71_r9 f71_r10 f71_r11 f71_r12 f71_r13 f71_c f72_r0 f72_r1 f72_c f73_r0 f73_r1 f73_r2 f73_r3 f73_r4 f73_r5 f73_r6 f73_a7 f73_b7 f73_r8 f73_c f84_r0 f84_r1 f84_r2 f84_r3 f84_r4 f84_r5 f84_r6 f84_l7 f84_i7 f84_r8 f84_c f85_r0 f85_r1 f85_r2 f85_r3 f85_c f86_r0 f86_r1 f86_r2 f86_r3 f86_l4 f86_i4 f86_r5 f86_c f87_r0 f87_r1 f87_c f88_r0 f88_r1 f88_r2 f88_r3 f88_r4 f88_r5 f88_r6 f88_l7 f88_i7 f88_r8 f88_c f90_r0 f90_r1 f90_r2 f90_r3 f90_r4 f90_r5 f90_r6 f90_r7 f90_l8 f90_i8 f90_r9 f90_l10 f90_i10 f90_r11 f90_c f91_r0 f91_r1 f91_c f92_r0 f92_r1 f92_r2 f92_r3 f92_c f93_r0 f93_r1 f93_c f97_r0 f97_r1 f97_r2 f97_r3 f97_r4 f97_r5 f97_r6 f97_r7 f97_r8 f97_r9 f97_l10 f97_i10 f97_r11 f97_l12 f97_i12 f97_r13 f97_c f98_r0 f98_r1 f98_r2 f98_r3 f98_c f101_r0 f101_r1 f101_c f105_r0 f105_r1 f105_r2 f105_r3 f105_r4 f105_r5 f105_r6 f105_l7 f105_i7 f105_r8 f105_c f106_r0 f106_r1 f106_r2 f106_r3 f106_r4 f106_r5 f106_r6 f106_l7 f106_i7 f106_r8 f106_c f107_r0 f107_r1 f107_r2 f107_r3 f107_r4 f107_l5 f107_i5 f107_r6 f107_c f108_r0 f108_r1 f108_c f109_r0 f109_r1 f109_c f111_r0 f111_r1 f111_r2 f111_r3 f111_c f112_r0 f112_r1 f112_r2 f112_r3 f112_r4 f112_r5 f112_r6 f112_l7 f112_i7 f112_r8 f112_c f113_r0 f113_r1 f113_r2 f113_r3 f113_l4 f113_i4 f113_c f119_r0 f119_r1 f119_c f120_r0 f120_r1 f120_r2 f120_r3 f120_r4 f120_r5 f120_r6 f120_r7 f120_r8 f120_r9 f120_r10 f120_r11 f120_r12 f120_r13 f120_r14 f120_r15 f120_c f122_r0 f122_r1 f122_c f130_r0 f130_r1 f130_r2 f130_r3 f130_r4 f130_r5 f130_l6 f130_i6 f130_r7 f130_c f131_r0 f131_r1 f131_r2 f131_r3 f131_r4 f131_r5 f131_r6 f131_r7 f131_r8 f131_r9 f131_r10 f131_r11 f131_l12 f131_i12 f131_r13 f131_r14 f131_c f132_r0 f132_r1 f132_r2 f132_c f133_r0 f133_r1 f133_r2 f133_r3 f133_r4 f133_r5 f133_r6 f133_l7 f133_i7 f133_r8 f133_c f134_r0 f134_r1 f134_r2 f134_r3 f134_r4 f134_r5 f134_r6 f134_r7 f134_r8 f134_r9 f134_r10 f134_r11 f134_c f141_r0 f141_r1 f141_r2 f141_c f142_r0 f142_r1 f142_r2 f142_r3 f142_r4 f142_r5 f142_r6 f142_r7 f142_r8 f142_r9 f142_l10 f142_i10 f142_r11 f142_r12 f142_r13 f142_c T3 T4 T5 T9 T20 T22 T24 T25 T27 T30 T44 T48 T59 T66 T68 T70 T71 T72 T74 T76 T83 T93 T101 T120 T124 T129 T132 T136 T137 T149 T150 ti3 ti4 ti5 ti9 ti20 ti22 ti24 ti25 ti27 ti30 ti44 ti48 ti59 ti66 ti68 ti70 ti71 ti72 ti74 ti76 ti83 ti93 ti101 ti120 ti124 ti129 ti132 ti136 ti137 ti149 ti150
end Go.Proofs.YtlejbkfefpfolaaGreatDoor.W
