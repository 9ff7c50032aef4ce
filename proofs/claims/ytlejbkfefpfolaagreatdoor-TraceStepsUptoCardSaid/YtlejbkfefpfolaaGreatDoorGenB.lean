/- Part of a program logic over data: rules of the walk, each proved. -/
import Derived.Test.YtlejbkfefpfolaaGreatDoorGen
set_option linter.unusedVariables false
set_option linter.unusedSimpArgs false
set_option linter.unusedSectionVars false
set_option maxRecDepth 100000
namespace Go.Proofs.YtlejbkfefpfolaaGreatDoor.W
open Go Go.Proofs Go.Proofs.YtlejbkfefpfolaaGreatDoor.AWP
def f7_r0 : List LOp := [
⟨some 2, .box 27 (.tmp 0), none⟩,
⟨some 4, .assign (.const (.bool false)), none⟩]
def f7_r1 : List LOp := [
⟨some 9, .load 27 (.tmp 2), none⟩,
⟨some 10, .call ⟨.value (.func 8), #[.tmp 9, .const (.int .i64 40)], #[27, 3]⟩, none⟩,
⟨some 11, .move (.tmp 10), none⟩,
⟨some 12, .move (.tmp 1), some (2, false)⟩,
⟨some 13, .call ⟨.builtin .len, #[.tmp 12], #[9]⟩, some (2, false)⟩,
⟨some 14, .binOp .gtr 3 (.tmp 13) (.const (.int .i64 10)) 3, some (2, false)⟩,
⟨some 15, .pick (.tmp 11) (.const (.bool true)) (.tmp 14), none⟩]
def f7_r2 : List LOp := [
⟨some 16, .call ⟨.value (.func 22), #[], #[]⟩, none⟩,
⟨some 4, .assign (.tmp 16), none⟩]
def f7_r3 : List LOp := [
⟨some 18, .load 27 (.tmp 2), none⟩,
⟨some 19, .move (.tmp 1), none⟩,
⟨some 20, .call ⟨.value (.func 23), #[.tmp 18, .tmp 19], #[27, 9]⟩, none⟩,
⟨some 17, .move (.tmp 20), none⟩,
⟨some 21, .extract (.tmp 17) 0, none⟩,
⟨some 22, .extract (.tmp 17) 1, none⟩,
⟨some 5, .assign (.tmp 21), none⟩,
⟨some 6, .assign (.tmp 22), none⟩]
def f7_r4 : List LOp := [
⟨some 24, .load 27 (.tmp 2), none⟩,
⟨some 25, .move (.tmp 1), none⟩,
⟨some 26, .call ⟨.value (.func 24), #[.tmp 24, .tmp 25], #[27, 9]⟩, none⟩,
⟨some 23, .move (.tmp 26), none⟩,
⟨some 27, .extract (.tmp 23) 0, none⟩,
⟨some 28, .extract (.tmp 23) 1, none⟩,
⟨some 7, .assign (.tmp 27), none⟩,
⟨some 8, .assign (.tmp 28), none⟩]
def f7_r5 : List LOp := [
⟨some 29, .move (.tmp 6), none⟩,
⟨some 30, .move (.tmp 8), none⟩,
⟨some 31, .binOp .eql 3 (.tmp 29) (.tmp 30) 3, none⟩,
⟨some 32, .move (.tmp 31), none⟩,
⟨some 33, .move (.tmp 5), some (3, true)⟩,
⟨some 34, .move (.tmp 7), some (3, true)⟩,
⟨some 35, .call ⟨.value (.func 25), #[.tmp 33, .tmp 34], #[48, 48]⟩, some (3, true)⟩,
⟨some 36, .pick (.tmp 32) (.tmp 35) (.const (.bool false)), none⟩,
⟨some 37, .move (.tmp 36), none⟩,
⟨some 38, .call ⟨.value (.func 22), #[], #[]⟩, some (8, true)⟩,
⟨some 39, .pick (.tmp 37) (.tmp 38) (.const (.bool false)), none⟩,
⟨some 4, .assign (.tmp 39), none⟩]
def f7_c : LC := (.seq (.reg f7_r0 [] none) (.seq (.seq (.reg f7_r1 [] none) (.cond (.tmp 15) (.seq (.reg f7_r2 [] none) .ret) .skip)) (.seq (.reg f7_r3 [] none) (.seq (.reg f7_r4 [] none) (.seq (.reg f7_r5 [] none) .ret)))))
theorem f7_lc : Tryz.f7.body.map lc = some f7_c.st := by kernel_rfl
theorem f7_res : Tryz.f7.results.toList = [.tmp 4] := by kernel_rfl
theorem f7_nt : Tryz.f7.ntmps = 40 := by kernel_rfl
theorem f7_nm : (Tryz.f7.name == "runtime.NumGoroutine") = false := by kernel_rfl
def f10_r0 : List LOp := [
⟨some 2, .box 27 (.tmp 0), none⟩,
⟨some 4, .alloc 27, none⟩,
⟨some 5, .assign (.const (.int .i64 0)), none⟩]
def f10_r1 : List LOp := [
⟨some 7, .load 27 (.tmp 2), none⟩,
⟨some 8, .buildSlice 25 1 #[(0, .tmp 7)], none⟩,
⟨some 9, .call ⟨.value (.func 29), #[.tmp 8], #[25]⟩, none⟩,
⟨some 10, .unOp .not 4 (.tmp 9), none⟩]
def f10_r2 : List LOp := [
⟨some 11, .build 27 #[], none⟩,
⟨none, .store 27 (.tmp 4) (.tmp 11), none⟩,
⟨some 5, .assign (.const (.int .i64 1)), none⟩]
def f10_r3 : List LOp := [
⟨some 12, .load 27 (.tmp 2), none⟩,
⟨some 13, .move (.tmp 1), none⟩,
⟨some 14, .call ⟨.value (.func 30), #[.tmp 12, .tmp 13], #[27, 5]⟩, none⟩,
⟨some 6, .alloc 27, none⟩,
⟨none, .store 27 (.tmp 6) (.tmp 14), none⟩]
def f10_r4 : List LOp := [
⟨some 15, .load 27 (.tmp 6), none⟩,
⟨some 16, .buildSlice 25 1 #[(0, .tmp 15)], none⟩,
⟨some 17, .call ⟨.value (.func 29), #[.tmp 16], #[25]⟩, none⟩,
⟨some 18, .unOp .not 4 (.tmp 17), none⟩]
def f10_r5 : List LOp := [
⟨some 19, .build 27 #[], none⟩,
⟨none, .store 27 (.tmp 4) (.tmp 19), none⟩,
⟨some 5, .assign (.const (.int .i64 4)), none⟩]
def f10_r6 : List LOp := [
⟨some 20, .load 27 (.tmp 6), none⟩,
⟨none, .store 27 (.tmp 4) (.tmp 20), none⟩,
⟨some 5, .assign (.const (.int .i64 0)), none⟩]
def f10_c : LC := (.seq (.reg f10_r0 [] none) (.seq (.seq (.reg f10_r1 [] none) (.cond (.tmp 10) (.seq (.reg f10_r2 [] none) .ret) .skip)) (.seq (.reg f10_r3 [] none) (.seq (.seq (.reg f10_r4 [] none) (.cond (.tmp 18) (.seq (.reg f10_r5 [] none) .ret) .skip)) (.seq (.reg f10_r6 [] none) .ret)))))
theorem f10_lc : Tryz.f10.body.map lc = some f10_c.st := by kernel_rfl
theorem f10_res : Tryz.f10.results.toList = [.cell 4 27, .tmp 5] := by kernel_rfl
theorem f10_nt : Tryz.f10.ntmps = 21 := by kernel_rfl
theorem f10_nm : (Tryz.f10.name == "runtime.NumGoroutine") = false := by kernel_rfl
def f11_r0 : List LOp := [
⟨some 2, .box 27 (.tmp 0), none⟩,
⟨some 4, .alloc 27, none⟩,
⟨some 5, .assign (.const (.int .i64 0)), none⟩]
def f11_r1 : List LOp := [
⟨some 7, .load 27 (.tmp 2), none⟩,
⟨some 8, .call ⟨.value (.func 31), #[.tmp 7], #[27]⟩, none⟩,
⟨some 9, .unOp .not 4 (.tmp 8), none⟩]
def f11_r2 : List LOp := [
⟨some 10, .build 27 #[], none⟩,
⟨none, .store 27 (.tmp 4) (.tmp 10), none⟩,
⟨some 5, .assign (.const (.int .i64 1)), none⟩]
def f11_r3 : List LOp := [
⟨some 11, .load 27 (.tmp 2), none⟩,
⟨some 12, .move (.tmp 1), none⟩,
⟨some 13, .call ⟨.value (.func 32), #[.tmp 11, .tmp 12], #[27, 5]⟩, none⟩,
⟨some 6, .alloc 27, none⟩,
⟨none, .store 27 (.tmp 6) (.tmp 13), none⟩]
def f11_r4 : List LOp := [
⟨some 14, .load 27 (.tmp 6), none⟩,
⟨some 15, .call ⟨.value (.func 31), #[.tmp 14], #[27]⟩, none⟩,
⟨some 16, .unOp .not 4 (.tmp 15), none⟩]
def f11_r5 : List LOp := [
⟨some 17, .build 27 #[], none⟩,
⟨none, .store 27 (.tmp 4) (.tmp 17), none⟩,
⟨some 5, .assign (.const (.int .i64 4)), none⟩]
def f11_r6 : List LOp := [
⟨some 18, .load 27 (.tmp 6), none⟩,
⟨none, .store 27 (.tmp 4) (.tmp 18), none⟩,
⟨some 5, .assign (.const (.int .i64 0)), none⟩]
def f11_c : LC := (.seq (.reg f11_r0 [] none) (.seq (.seq (.reg f11_r1 [] none) (.cond (.tmp 9) (.seq (.reg f11_r2 [] none) .ret) .skip)) (.seq (.reg f11_r3 [] none) (.seq (.seq (.reg f11_r4 [] none) (.cond (.tmp 16) (.seq (.reg f11_r5 [] none) .ret) .skip)) (.seq (.reg f11_r6 [] none) .ret)))))
theorem f11_lc : Tryz.f11.body.map lc = some f11_c.st := by kernel_rfl
theorem f11_res : Tryz.f11.results.toList = [.cell 4 27, .tmp 5] := by kernel_rfl
theorem f11_nt : Tryz.f11.ntmps = 19 := by kernel_rfl
theorem f11_nm : (Tryz.f11.name == "runtime.NumGoroutine") = false := by kernel_rfl
def f12_r0 : List LOp := [
⟨some 2, .box 27 (.tmp 0), none⟩,
⟨some 4, .alloc 27, none⟩,
⟨some 5, .assign (.const (.int .i64 0)), none⟩]
def f12_r1 : List LOp := [
⟨some 9, .load 27 (.tmp 2), none⟩,
⟨some 10, .call ⟨.value (.func 33), #[.tmp 9], #[27]⟩, none⟩,
⟨some 11, .move (.tmp 1), none⟩,
⟨some 12, .call ⟨.value (.func 10), #[.tmp 10, .tmp 11], #[27, 5]⟩, none⟩,
⟨some 8, .move (.tmp 12), none⟩,
⟨some 13, .extract (.tmp 8) 0, none⟩,
⟨some 14, .extract (.tmp 8) 1, none⟩,
⟨some 6, .alloc 27, none⟩,
⟨none, .store 27 (.tmp 6) (.tmp 13), none⟩,
⟨some 7, .assign (.tmp 14), none⟩]
def f12_r2 : List LOp := [
⟨some 15, .move (.tmp 7), none⟩,
⟨some 16, .binOp .neq 30 (.tmp 15) (.const (.int .i64 0)) 30, none⟩]
def f12_r3 : List LOp := [
⟨some 17, .build 27 #[], none⟩,
⟨some 18, .move (.tmp 7), none⟩,
⟨none, .store 27 (.tmp 4) (.tmp 17), none⟩,
⟨some 5, .assign (.tmp 18), none⟩]
def f12_r4 : List LOp := [
⟨some 19, .load 27 (.tmp 6), none⟩,
⟨some 20, .call ⟨.value (.func 33), #[.tmp 19], #[27]⟩, none⟩,
⟨none, .store 27 (.tmp 4) (.tmp 20), none⟩,
⟨some 5, .assign (.const (.int .i64 0)), none⟩]
def f12_c : LC := (.seq (.reg f12_r0 [] none) (.seq (.reg f12_r1 [] none) (.seq (.seq (.reg f12_r2 [] none) (.cond (.tmp 16) (.seq (.reg f12_r3 [] none) .ret) .skip)) (.seq (.reg f12_r4 [] none) .ret))))
theorem f12_lc : Tryz.f12.body.map lc = some f12_c.st := by kernel_rfl
theorem f12_res : Tryz.f12.results.toList = [.cell 4 27, .tmp 5] := by kernel_rfl
theorem f12_nt : Tryz.f12.ntmps = 21 := by kernel_rfl
theorem f12_nm : (Tryz.f12.name == "runtime.NumGoroutine") = false := by kernel_rfl
def f13_r0 : List LOp := [
⟨some 2, .box 27 (.tmp 0), none⟩,
⟨some 4, .alloc 27, none⟩,
⟨some 5, .assign (.const (.int .i64 0)), none⟩]
def f13_r1 : List LOp := [
⟨some 9, .load 27 (.tmp 2), none⟩,
⟨some 10, .call ⟨.value (.func 34), #[.tmp 9], #[27]⟩, none⟩,
⟨some 11, .move (.tmp 1), none⟩,
⟨some 12, .call ⟨.value (.func 11), #[.tmp 10, .tmp 11], #[27, 5]⟩, none⟩,
⟨some 8, .move (.tmp 12), none⟩,
⟨some 13, .extract (.tmp 8) 0, none⟩,
⟨some 14, .extract (.tmp 8) 1, none⟩,
⟨some 6, .alloc 27, none⟩,
⟨none, .store 27 (.tmp 6) (.tmp 13), none⟩,
⟨some 7, .assign (.tmp 14), none⟩]
def f13_r2 : List LOp := [
⟨some 15, .move (.tmp 7), none⟩,
⟨some 16, .binOp .neq 3 (.tmp 15) (.const (.int .i64 0)) 3, none⟩]
def f13_r3 : List LOp := [
⟨some 17, .build 27 #[], none⟩,
⟨some 18, .move (.tmp 7), none⟩,
⟨none, .store 27 (.tmp 4) (.tmp 17), none⟩,
⟨some 5, .assign (.tmp 18), none⟩]
def f13_r4 : List LOp := [
⟨some 19, .load 27 (.tmp 6), none⟩,
⟨some 20, .call ⟨.value (.func 35), #[.tmp 19], #[27]⟩, none⟩,
⟨none, .store 27 (.tmp 4) (.tmp 20), none⟩,
⟨some 5, .assign (.const (.int .i64 0)), none⟩]
def f13_c : LC := (.seq (.reg f13_r0 [] none) (.seq (.reg f13_r1 [] none) (.seq (.seq (.reg f13_r2 [] none) (.cond (.tmp 16) (.seq (.reg f13_r3 [] none) .ret) .skip)) (.seq (.reg f13_r4 [] none) .ret))))
theorem f13_lc : Tryz.f13.body.map lc = some f13_c.st := by kernel_rfl
theorem f13_res : Tryz.f13.results.toList = [.cell 4 27, .tmp 5] := by kernel_rfl
theorem f13_nt : Tryz.f13.ntmps = 21 := by kernel_rfl
theorem f13_nm : (Tryz.f13.name == "runtime.NumGoroutine") = false := by kernel_rfl
def f14_r0 : List LOp := [
⟨some 2, .box 27 (.tmp 0), none⟩,
⟨some 3, .box 27 (.tmp 1), none⟩,
⟨some 4, .assign (.const (.bool false)), none⟩]
def f14_r1 : List LOp := [
⟨some 6, .fieldAddr 27 (.tmp 2) 0, none⟩,
⟨some 7, .load 5 (.tmp 6), none⟩,
⟨some 8, .fieldAddr 27 (.tmp 3) 0, none⟩,
⟨some 9, .load 5 (.tmp 8), none⟩,
⟨some 10, .binOp .neq 5 (.tmp 7) (.tmp 9) 5, none⟩,
⟨some 11, .move (.tmp 10), none⟩,
⟨some 12, .fieldAddr 27 (.tmp 2) 1, some (5, false)⟩,
⟨some 13, .load 24 (.tmp 12), some (5, false)⟩,
⟨some 14, .fieldAddr 27 (.tmp 3) 1, some (5, false)⟩,
⟨some 15, .load 24 (.tmp 14), some (5, false)⟩,
⟨some 16, .binOp .neq 24 (.tmp 13) (.tmp 15) 24, some (5, false)⟩,
⟨some 17, .pick (.tmp 11) (.const (.bool true)) (.tmp 16), none⟩,
⟨some 18, .move (.tmp 17), none⟩,
⟨some 19, .fieldAddr 27 (.tmp 2) 2, some (12, false)⟩,
⟨some 20, .load 25 (.tmp 19), some (12, false)⟩,
⟨some 21, .call ⟨.builtin .len, #[.tmp 20], #[25]⟩, some (12, false)⟩,
⟨some 22, .fieldAddr 27 (.tmp 3) 2, some (12, false)⟩,
⟨some 23, .load 25 (.tmp 22), some (12, false)⟩,
⟨some 24, .call ⟨.builtin .len, #[.tmp 23], #[25]⟩, some (12, false)⟩,
⟨some 25, .binOp .neq 3 (.tmp 21) (.tmp 24) 3, some (12, false)⟩,
⟨some 26, .pick (.tmp 18) (.const (.bool true)) (.tmp 25), none⟩]
def f14_r2 : List LOp := [
⟨some 4, .assign (.const (.bool false)), none⟩]
def f14_r3 : List LOp := [
⟨some 27, .fieldAddr 27 (.tmp 2) 2, none⟩,
⟨some 28, .load 25 (.tmp 27), none⟩,
⟨some 29, .call ⟨.builtin .len, #[.tmp 28], #[25]⟩, none⟩,
⟨some 30, .move (.const (.int .i64 0)), none⟩]
def f14_r4 : List LOp := [
⟨some 31, .binOp .lss 3 (.tmp 30) (.tmp 29) 3, none⟩]
def f14_r5 : List LOp := [
⟨some 32, .move (.tmp 30), none⟩,
⟨some 5, .assign (.tmp 32), none⟩]
def f14_r6 : List LOp := [
⟨some 33, .fieldAddr 27 (.tmp 2) 2, none⟩,
⟨some 34, .load 25 (.tmp 33), none⟩,
⟨some 35, .move (.tmp 5), none⟩,
⟨some 36, .indexAddr 25 (.tmp 34) (.tmp 35), none⟩,
⟨some 37, .load 27 (.tmp 36), none⟩,
⟨some 38, .fieldAddr 27 (.tmp 3) 2, none⟩,
⟨some 39, .load 25 (.tmp 38), none⟩,
⟨some 40, .move (.tmp 5), none⟩,
⟨some 41, .indexAddr 25 (.tmp 39) (.tmp 40), none⟩,
⟨some 42, .load 27 (.tmp 41), none⟩,
⟨some 43, .call ⟨.value (.func 14), #[.tmp 37, .tmp 42], #[27, 27]⟩, none⟩,
⟨some 44, .unOp .not 4 (.tmp 43), none⟩]
def f14_r7 : List LOp := [
⟨some 4, .assign (.const (.bool false)), none⟩]
def f14_r8 : List LOp := [
⟨some 45, .binOp .add 3 (.tmp 30) (.const (.int .i64 1)) 3, none⟩,
⟨some 30, .move (.tmp 45), none⟩]
def f14_l9 : LC := (.seq (.reg f14_r4 [] none) (.seq (.cond (.tmp 31) .skip (.exit 0)) (.seq (.block 1 (.seq (.reg f14_r5 [] none) (.seq (.reg f14_r6 [] (some 10)) (.cond (.tmp 44) (.seq (.reg f14_r7 [] none) .ret) .skip)))) (.reg f14_r8 [] none))))
def f14_i9 (t2 t3 t29 t30 : D) : List D := [.any, .any, t2, t3, .any, .any, .any, .any, .any, .any, .any, .any, .any, .any, .any, .any, .any, .any, .any, .any, .any, .any, .any, .any, .any, .any, .any, .any, .any, t29, t30, .any, .any, .any, .any, .any, .any, .any, .any, .any, .any, .any, .any, .any, .any, .any]
def f14_r10 : List LOp := [
⟨some 4, .assign (.const (.bool true)), none⟩]
def f14_c : LC := (.seq (.reg f14_r0 [] none) (.seq (.seq (.reg f14_r1 [] none) (.cond (.tmp 26) (.seq (.reg f14_r2 [] none) .ret) .skip)) (.seq (.seq (.reg f14_r3 [] none) (.block 0 (.loop f14_l9))) (.seq (.reg f14_r10 [] none) .ret))))
theorem f14_lc : Tryz.f14.body.map lc = some f14_c.st := by kernel_rfl
theorem f14_res : Tryz.f14.results.toList = [.tmp 4] := by kernel_rfl
theorem f14_nt : Tryz.f14.ntmps = 46 := by kernel_rfl
theorem f14_nm : (Tryz.f14.name == "runtime.NumGoroutine") = false := by kernel_rfl
def f15_r0 : List LOp := [
⟨some 2, .box 27 (.tmp 0), none⟩,
⟨some 4, .assign (.const (.slice none 0 0)), none⟩,
⟨some 5, .assign (.const (.int .i64 0)), none⟩]
def f15_r1 : List LOp := [
⟨some 10, .load 27 (.tmp 2), none⟩,
⟨some 11, .buildSlice 25 1 #[(0, .tmp 10)], none⟩,
⟨some 12, .call ⟨.value (.func 29), #[.tmp 11], #[25]⟩, none⟩,
⟨some 13, .unOp .not 4 (.tmp 12), none⟩]
def f15_r2 : List LOp := [
⟨some 4, .assign (.const (.slice none 0 0)), none⟩,
⟨some 5, .assign (.const (.int .i64 1)), none⟩]
def f15_r3 : List LOp := [
⟨some 14, .load 27 (.tmp 2), none⟩,
⟨some 15, .call ⟨.value (.func 33), #[.tmp 14], #[27]⟩, none⟩,
⟨some 16, .buildSlice 25 1 #[(0, .tmp 15)], none⟩,
⟨some 6, .assign (.tmp 16), none⟩]
def f15_r4 : List LOp := [
⟨some 17, .move (.tmp 1), none⟩,
⟨some 18, .call ⟨.builtin .len, #[.tmp 17], #[9]⟩, none⟩,
⟨some 19, .move (.const (.int .i64 0)), none⟩]
def f15_r5 : List LOp := [
⟨some 20, .binOp .lss 3 (.tmp 19) (.tmp 18) 3, none⟩]
def f15_r6 : List LOp := [
⟨some 21, .move (.tmp 19), none⟩,
⟨some 7, .assign (.tmp 21), none⟩]
def f15_r7 : List LOp := [
⟨some 23, .move (.tmp 6), none⟩,
⟨some 24, .move (.tmp 7), none⟩,
⟨some 25, .indexAddr 25 (.tmp 23) (.tmp 24), none⟩,
⟨some 26, .load 27 (.tmp 25), none⟩,
⟨some 27, .move (.tmp 1), none⟩,
⟨some 28, .move (.tmp 7), none⟩,
⟨some 29, .index 9 (.tmp 27) (.tmp 28), none⟩,
⟨some 30, .call ⟨.value (.func 12), #[.tmp 26, .tmp 29], #[27, 5]⟩, none⟩,
⟨some 22, .move (.tmp 30), none⟩,
⟨some 31, .extract (.tmp 22) 0, none⟩,
⟨some 32, .extract (.tmp 22) 1, none⟩,
⟨some 8, .alloc 27, none⟩,
⟨none, .store 27 (.tmp 8) (.tmp 31), none⟩,
⟨some 9, .assign (.tmp 32), none⟩]
def f15_r8 : List LOp := [
⟨some 33, .move (.tmp 9), none⟩,
⟨some 34, .binOp .neq 30 (.tmp 33) (.const (.int .i64 0)) 30, none⟩]
def f15_r9 : List LOp := [
⟨some 35, .move (.tmp 9), none⟩,
⟨some 4, .assign (.const (.slice none 0 0)), none⟩,
⟨some 5, .assign (.tmp 35), none⟩]
def f15_r10 : List LOp := [
⟨some 36, .move (.tmp 6), none⟩,
⟨some 37, .load 27 (.tmp 8), none⟩,
⟨some 38, .buildSlice 25 1 #[(0, .tmp 37)], none⟩,
⟨some 39, .call ⟨.builtin .append, #[.tmp 36, .tmp 38], #[25, 25]⟩, none⟩,
⟨some 6, .assign (.tmp 39), none⟩]
def f15_r11 : List LOp := [
⟨some 40, .binOp .add 3 (.tmp 19) (.const (.int .i64 1)) 3, none⟩,
⟨some 19, .move (.tmp 40), none⟩]
def f15_l12 : LC := (.seq (.reg f15_r5 [] none) (.seq (.cond (.tmp 20) .skip (.exit 0)) (.seq (.block 1 (.seq (.reg f15_r6 [] none) (.seq (.rega f15_r7 [] 13) (.seq (.seq (.reg f15_r8 [] none) (.cond (.tmp 34) (.seq (.reg f15_r9 [] none) .ret) .skip)) (.reg f15_r10 [] none))))) (.reg f15_r11 [] none))))
def f15_i12 (t1 t6 t18 t19 : D) : List D := [.any, t1, .any, .any, .any, .any, t6, .any, .any, .any, .any, .any, .any, .any, .any, .any, .any, .any, t18, t19, .any, .any, .any, .any, .any, .any, .any, .any, .any, .any, .any, .any, .any, .any, .any, .any, .any, .any, .any, .any, .any, .any]
def f15_r13 : List LOp := [
⟨some 41, .move (.tmp 6), none⟩,
⟨some 4, .assign (.tmp 41), none⟩,
⟨some 5, .assign (.const (.int .i64 0)), none⟩]
def f15_c : LC := (.seq (.reg f15_r0 [] none) (.seq (.seq (.reg f15_r1 [] none) (.cond (.tmp 13) (.seq (.reg f15_r2 [] none) .ret) .skip)) (.seq (.reg f15_r3 [2] none) (.seq (.seq (.reg f15_r4 [] none) (.block 0 (.loop f15_l12))) (.seq (.reg f15_r13 [] none) .ret)))))
theorem f15_lc : Tryz.f15.body.map lc = some f15_c.st := by kernel_rfl
theorem f15_res : Tryz.f15.results.toList = [.tmp 4, .tmp 5] := by kernel_rfl
theorem f15_nt : Tryz.f15.ntmps = 42 := by kernel_rfl
theorem f15_nm : (Tryz.f15.name == "runtime.NumGoroutine") = false := by kernel_rfl
def f16_r0 : List LOp := [
⟨some 2, .box 27 (.tmp 0), none⟩,
⟨some 4, .assign (.const (.slice none 0 0)), none⟩,
⟨some 5, .assign (.const (.int .i64 0)), none⟩]
def f16_r1 : List LOp := [
⟨some 12, .buildSlice 25 0 #[], none⟩,
⟨some 6, .assign (.tmp 12), none⟩]
def f16_r2 : List LOp := [
⟨some 13, .load 27 (.tmp 2), none⟩,
⟨some 14, .call ⟨.value (.func 31), #[.tmp 13], #[27]⟩, none⟩,
⟨some 15, .unOp .not 4 (.tmp 14), none⟩]
def f16_r3 : List LOp := [
⟨some 16, .move (.tmp 6), none⟩,
⟨some 4, .assign (.tmp 16), none⟩,
⟨some 5, .assign (.const (.int .i64 1)), none⟩]
def f16_r4 : List LOp := [
⟨some 17, .load 27 (.tmp 2), none⟩,
⟨some 18, .call ⟨.value (.func 35), #[.tmp 17], #[27]⟩, none⟩,
⟨some 7, .alloc 27, none⟩,
⟨none, .store 27 (.tmp 7) (.tmp 18), none⟩]
def f16_r5 : List LOp := [
⟨some 19, .load 27 (.tmp 7), none⟩,
⟨some 20, .buildSlice 25 1 #[(0, .tmp 19)], none⟩,
⟨some 8, .assign (.tmp 20), none⟩]
def f16_r6 : List LOp := [
⟨some 9, .assign (.const (.int .i64 0)), none⟩]
def f16_r7 : List LOp := [
⟨some 21, .move (.tmp 9), none⟩,
⟨some 22, .move (.tmp 1), none⟩,
⟨some 23, .call ⟨.builtin .len, #[.tmp 22], #[9]⟩, none⟩,
⟨some 24, .binOp .lss 3 (.tmp 21) (.tmp 23) 3, none⟩]
def f16_r8 : List LOp := [
⟨some 28, .load 27 (.tmp 7), none⟩,
⟨some 29, .move (.tmp 1), none⟩,
⟨some 30, .move (.tmp 9), none⟩,
⟨some 31, .index 9 (.tmp 29) (.tmp 30), none⟩,
⟨some 32, .call ⟨.value (.func 13), #[.tmp 28, .tmp 31], #[27, 5]⟩, none⟩,
⟨some 27, .move (.tmp 32), none⟩,
⟨some 33, .extract (.tmp 27) 0, none⟩,
⟨some 34, .extract (.tmp 27) 1, none⟩,
⟨some 10, .alloc 27, none⟩,
⟨none, .store 27 (.tmp 10) (.tmp 33), none⟩,
⟨some 11, .assign (.tmp 34), none⟩]
def f16_r9 : List LOp := [
⟨some 35, .move (.tmp 11), none⟩,
⟨some 36, .binOp .neq 3 (.tmp 35) (.const (.int .i64 0)) 3, none⟩]
def f16_r10 : List LOp := [
⟨some 37, .move (.tmp 6), none⟩,
⟨some 38, .move (.tmp 11), none⟩,
⟨some 4, .assign (.tmp 37), none⟩,
⟨some 5, .assign (.tmp 38), none⟩]
def f16_r11 : List LOp := [
⟨some 39, .load 27 (.tmp 10), none⟩,
⟨none, .store 27 (.tmp 7) (.tmp 39), none⟩]
def f16_r12 : List LOp := [
⟨some 40, .move (.tmp 8), none⟩,
⟨some 41, .load 27 (.tmp 7), none⟩,
⟨some 42, .buildSlice 25 1 #[(0, .tmp 41)], none⟩,
⟨some 43, .call ⟨.builtin .append, #[.tmp 40, .tmp 42], #[25, 25]⟩, none⟩,
⟨some 8, .assign (.tmp 43), none⟩]
def f16_r13 : List LOp := [
⟨some 25, .move (.tmp 9), none⟩,
⟨some 26, .binOp .add 3 (.tmp 25) (.const (.int .i64 1)) 3, none⟩,
⟨some 9, .assign (.tmp 26), none⟩]
def f16_l14 : LC := (.seq (.seq (.reg f16_r7 [] none) (.cond (.tmp 24) .skip (.exit 0))) (.seq (.block 1 (.seq (.rega f16_r8 [] 10) (.seq (.seq (.reg f16_r9 [] none) (.cond (.tmp 36) (.seq (.reg f16_r10 [] none) .ret) .skip)) (.seq (.reg f16_r11 [] none) (.reg f16_r12 [] none))))) (.reg f16_r13 [] none)))
def f16_i14 (t1 t6 t7 t8 t9 : D) : List D := [.any, t1, .any, .any, .any, .any, t6, t7, t8, t9, .any, .any, .any, .any, .any, .any, .any, .any, .any, .any, .any, .any, .any, .any, .any, .any, .any, .any, .any, .any, .any, .any, .any, .any, .any, .any, .any, .any, .any, .any, .any, .any, .any, .any, .any]
def f16_r15 : List LOp := [
⟨some 44, .move (.tmp 8), none⟩,
⟨some 4, .assign (.tmp 44), none⟩,
⟨some 5, .assign (.const (.int .i64 0)), none⟩]
def f16_c : LC := (.seq (.reg f16_r0 [] none) (.seq (.reg f16_r1 [0] none) (.seq (.seq (.reg f16_r2 [] none) (.cond (.tmp 15) (.seq (.reg f16_r3 [] none) .ret) .skip)) (.seq (.reg f16_r4 [] none) (.seq (.reg f16_r5 [1] none) (.seq (.seq (.reg f16_r6 [] none) (.block 0 (.loop f16_l14))) (.seq (.reg f16_r15 [] none) .ret)))))))
theorem f16_lc : Tryz.f16.body.map lc = some f16_c.st := by kernel_rfl
theorem f16_res : Tryz.f16.results.toList = [.tmp 4, .tmp 5] := by kernel_rfl
theorem f16_nt : Tryz.f16.ntmps = 45 := by kernel_rfl
theorem f16_nm : (Tryz.f16.name == "runtime.NumGoroutine") = false := by kernel_rfl
def f20_r0 : List LOp := [
⟨some 2, .assign (.const (.bool false)), none⟩]
def f20_r1 : List LOp := [
⟨some 3, .move (.tmp 0), none⟩,
⟨some 4, .call ⟨.value (.func 38), #[.tmp 3, .func 39], #[25, 59]⟩, none⟩,
⟨some 5, .unOp .not 4 (.tmp 4), none⟩,
⟨some 2, .assign (.tmp 5), none⟩]
def f20_c : LC := (.seq (.reg f20_r0 [] none) (.seq (.reg f20_r1 [] none) .ret))
theorem f20_lc : Tryz.f20.body.map lc = some f20_c.st := by kernel_rfl
theorem f20_res : Tryz.f20.results.toList = [.tmp 2] := by kernel_rfl
theorem f20_nt : Tryz.f20.ntmps = 6 := by kernel_rfl
theorem f20_nm : (Tryz.f20.name == "runtime.NumGoroutine") = false := by kernel_rfl
def f22_r0 : List LOp := [
⟨some 0, .assign (.const (.bool false)), none⟩]
def f22_r1 : List LOp := [
⟨some 7, .call ⟨.value (.func 27), #[.const (.string { data := #[40, 97, 98, 41, 42] })], #[9]⟩, none⟩,
⟨some 6, .move (.tmp 7), none⟩,
⟨some 8, .extract (.tmp 6) 0, none⟩,
⟨some 9, .extract (.tmp 6) 1, none⟩,
⟨some 10, .extract (.tmp 6) 2, none⟩,
⟨some 1, .alloc 27, none⟩,
⟨none, .store 27 (.tmp 1) (.tmp 8), none⟩,
⟨some 2, .assign (.tmp 9), none⟩,
⟨some 3, .assign (.tmp 10), none⟩]
def f22_r2 : List LOp := [
⟨some 12, .load 27 (.tmp 1), none⟩,
⟨some 13, .call ⟨.value (.func 23), #[.tmp 12, .const (.string { data := #[97] })], #[27, 9]⟩, none⟩,
⟨some 11, .move (.tmp 13), none⟩,
⟨some 14, .extract (.tmp 11) 0, none⟩,
⟨some 15, .extract (.tmp 11) 1, none⟩,
⟨some 4, .assign (.tmp 14), none⟩,
⟨some 5, .assign (.tmp 15), none⟩]
def f22_r3 : List LOp := [
⟨some 16, .move (.tmp 3), none⟩,
⟨some 17, .binOp .eql 30 (.tmp 16) (.const (.int .i64 0)) 30, none⟩,
⟨some 18, .move (.tmp 17), none⟩,
⟨some 19, .move (.tmp 5), some (2, true)⟩,
⟨some 20, .binOp .eql 30 (.tmp 19) (.const (.int .i64 0)) 30, some (2, true)⟩,
⟨some 21, .pick (.tmp 18) (.tmp 20) (.const (.bool false)), none⟩,
⟨some 22, .move (.tmp 21), none⟩,
⟨some 23, .move (.tmp 4), some (6, true)⟩,
⟨some 24, .buildSlice 48 2 #[(0, .const (.string { data := #[49, 32, 40, 97, 98, 41, 42] })), (1, .const (.string { data := #[48, 32, 98, 40, 97, 98, 41, 42] }))], some (6, true)⟩,
⟨some 25, .call ⟨.value (.func 25), #[.tmp 23, .tmp 24], #[48, 48]⟩, some (6, true)⟩,
⟨some 26, .pick (.tmp 22) (.tmp 25) (.const (.bool false)), none⟩,
⟨some 0, .assign (.tmp 26), none⟩]
def f22_c : LC := (.seq (.reg f22_r0 [] none) (.seq (.reg f22_r1 [] none) (.seq (.reg f22_r2 [] none) (.seq (.reg f22_r3 [] none) .ret))))
theorem f22_lc : Tryz.f22.body.map lc = some f22_c.st := by kernel_rfl
theorem f22_res : Tryz.f22.results.toList = [.tmp 0] := by kernel_rfl
theorem f22_nt : Tryz.f22.ntmps = 27 := by kernel_rfl
theorem f22_nm : (Tryz.f22.name == "runtime.NumGoroutine") = false := by kernel_rfl
def f23_r0 : List LOp := [
⟨some 2, .box 27 (.tmp 0), none⟩,
⟨some 4, .assign (.const (.slice none 0 0)), none⟩,
⟨some 5, .assign (.const (.int .i64 0)), none⟩]
def f23_r1 : List LOp := [
⟨some 12, .load 27 (.tmp 2), none⟩,
⟨some 13, .move (.tmp 1), none⟩,
⟨some 14, .call ⟨.value (.func 15), #[.tmp 12, .tmp 13], #[27, 9]⟩, none⟩,
⟨some 11, .move (.tmp 14), none⟩,
⟨some 15, .extract (.tmp 11) 0, none⟩,
⟨some 16, .extract (.tmp 11) 1, none⟩,
⟨some 6, .assign (.tmp 15), none⟩,
⟨some 7, .assign (.tmp 16), none⟩]
def f23_r2 : List LOp := [
⟨some 17, .move (.tmp 7), none⟩,
⟨some 18, .binOp .neq 30 (.tmp 17) (.const (.int .i64 0)) 30, none⟩]
def f23_r3 : List LOp := [
⟨some 19, .move (.tmp 7), none⟩,
⟨some 4, .assign (.const (.slice none 0 0)), none⟩,
⟨some 5, .assign (.tmp 19), none⟩]
def f23_r4 : List LOp := [
⟨some 8, .assign (.const (.slice none 0 0)), none⟩]
def f23_r5 : List LOp := [
⟨some 20, .move (.tmp 6), none⟩,
⟨some 21, .call ⟨.builtin .len, #[.tmp 20], #[25]⟩, none⟩,
⟨some 22, .move (.const (.int .i64 0)), none⟩]
def f23_r6 : List LOp := [
⟨some 23, .binOp .lss 3 (.tmp 22) (.tmp 21) 3, none⟩]
def f23_r7 : List LOp := [
⟨some 24, .indexAddr 25 (.tmp 20) (.tmp 22), none⟩,
⟨some 25, .load 27 (.tmp 24), none⟩,
⟨some 10, .alloc 27, none⟩,
⟨none, .store 27 (.tmp 10) (.tmp 25), none⟩]
def f23_r8 : List LOp := [
⟨some 26, .move (.tmp 8), none⟩,
⟨some 27, .load 27 (.tmp 10), none⟩,
⟨some 28, .buildSlice 25 1 #[(0, .tmp 27)], none⟩,
⟨some 29, .call ⟨.value (.func 20), #[.tmp 28], #[25]⟩, none⟩,
⟨some 30, .call ⟨.value (.func 41), #[.tmp 29], #[4]⟩, none⟩,
⟨some 31, .load 27 (.tmp 10), none⟩,
⟨some 32, .call ⟨.value (.func 28), #[.tmp 31], #[27]⟩, none⟩,
⟨some 33, .binOp .add 9 (.tmp 30) (.tmp 32) 9, none⟩,
⟨some 34, .buildSlice 48 1 #[(0, .tmp 33)], none⟩,
⟨some 35, .call ⟨.builtin .append, #[.tmp 26, .tmp 34], #[48, 48]⟩, none⟩,
⟨some 8, .assign (.tmp 35), none⟩]
def f23_r9 : List LOp := [
⟨some 36, .binOp .add 3 (.tmp 22) (.const (.int .i64 1)) 3, none⟩,
⟨some 22, .move (.tmp 36), none⟩]
def f23_l10 : LC := (.seq (.reg f23_r6 [] none) (.seq (.cond (.tmp 23) .skip (.exit 0)) (.seq (.block 1 (.seq (.reg f23_r7 [] none) (.reg f23_r8 [] (some 9)))) (.reg f23_r9 [] none))))
def f23_i10 (t8 t20 t21 t22 : D) : List D := [.any, .any, .any, .any, .any, .any, .any, .any, t8, .any, .any, .any, .any, .any, .any, .any, .any, .any, .any, .any, t20, t21, t22, .any, .any, .any, .any, .any, .any, .any, .any, .any, .any, .any, .any, .any, .any, .any]
def f23_r11 : List LOp := [
⟨some 37, .move (.tmp 8), none⟩,
⟨some 4, .assign (.tmp 37), none⟩,
⟨some 5, .assign (.const (.int .i64 0)), none⟩]
def f23_c : LC := (.seq (.reg f23_r0 [] none) (.seq (.reg f23_r1 [] none) (.seq (.seq (.reg f23_r2 [] none) (.cond (.tmp 18) (.seq (.reg f23_r3 [] none) .ret) .skip)) (.seq (.reg f23_r4 [] none) (.seq (.seq (.reg f23_r5 [] none) (.block 0 (.loop f23_l10))) (.seq (.reg f23_r11 [] none) .ret))))))
theorem f23_lc : Tryz.f23.body.map lc = some f23_c.st := by kernel_rfl
theorem f23_res : Tryz.f23.results.toList = [.tmp 4, .tmp 5] := by kernel_rfl
theorem f23_nt : Tryz.f23.ntmps = 38 := by kernel_rfl
theorem f23_nm : (Tryz.f23.name == "runtime.NumGoroutine") = false := by kernel_rfl
def f24_r0 : List LOp := [
⟨some 2, .box 27 (.tmp 0), none⟩,
⟨some 4, .assign (.const (.slice none 0 0)), none⟩,
⟨some 5, .assign (.const (.int .i64 0)), none⟩]
def f24_r1 : List LOp := [
⟨some 10, .buildSlice 48 0 #[], none⟩,
⟨some 6, .assign (.tmp 10), none⟩]
def f24_r2 : List LOp := [
⟨some 12, .load 27 (.tmp 2), none⟩,
⟨some 13, .move (.tmp 1), none⟩,
⟨some 14, .call ⟨.value (.func 16), #[.tmp 12, .tmp 13], #[27, 9]⟩, none⟩,
⟨some 11, .move (.tmp 14), none⟩,
⟨some 15, .extract (.tmp 11) 0, none⟩,
⟨some 16, .extract (.tmp 11) 1, none⟩,
⟨some 7, .assign (.tmp 15), none⟩,
⟨some 8, .assign (.tmp 16), none⟩]
def f24_r3 : List LOp := [
⟨some 17, .move (.tmp 7), none⟩,
⟨some 18, .call ⟨.builtin .len, #[.tmp 17], #[25]⟩, none⟩,
⟨some 19, .move (.const (.int .i64 0)), none⟩]
def f24_r4 : List LOp := [
⟨some 20, .binOp .lss 3 (.tmp 19) (.tmp 18) 3, none⟩]
def f24_r5 : List LOp := [
⟨some 21, .move (.tmp 19), none⟩,
⟨some 9, .assign (.tmp 21), none⟩]
def f24_r6 : List LOp := [
⟨some 22, .move (.tmp 6), none⟩,
⟨some 23, .move (.tmp 7), none⟩,
⟨some 24, .move (.tmp 9), none⟩,
⟨some 25, .indexAddr 25 (.tmp 23) (.tmp 24), none⟩,
⟨some 26, .load 27 (.tmp 25), none⟩,
⟨some 27, .call ⟨.value (.func 43), #[.tmp 26], #[27]⟩, none⟩,
⟨some 28, .move (.tmp 7), none⟩,
⟨some 29, .move (.tmp 9), none⟩,
⟨some 30, .indexAddr 25 (.tmp 28) (.tmp 29), none⟩,
⟨some 31, .load 27 (.tmp 30), none⟩,
⟨some 32, .call ⟨.value (.func 44), #[.tmp 31], #[27]⟩, none⟩,
⟨some 33, .call ⟨.value (.func 42), #[.tmp 27, .tmp 32], #[4, 9]⟩, none⟩,
⟨some 34, .buildSlice 48 1 #[(0, .tmp 33)], none⟩,
⟨some 35, .call ⟨.builtin .append, #[.tmp 22, .tmp 34], #[48, 48]⟩, none⟩,
⟨some 6, .assign (.tmp 35), none⟩]
def f24_r7 : List LOp := [
⟨some 36, .binOp .add 3 (.tmp 19) (.const (.int .i64 1)) 3, none⟩,
⟨some 19, .move (.tmp 36), none⟩]
def f24_l8 : LC := (.seq (.reg f24_r4 [] none) (.seq (.cond (.tmp 20) .skip (.exit 0)) (.seq (.block 1 (.seq (.reg f24_r5 [] none) (.reg f24_r6 [] (some 13)))) (.reg f24_r7 [] none))))
def f24_i8 (t6 t7 t8 t18 t19 : D) : List D := [.any, .any, .any, .any, .any, .any, t6, t7, t8, .any, .any, .any, .any, .any, .any, .any, .any, .any, t18, t19, .any, .any, .any, .any, .any, .any, .any, .any, .any, .any, .any, .any, .any, .any, .any, .any, .any, .any, .any]
def f24_r9 : List LOp := [
⟨some 37, .move (.tmp 6), none⟩,
⟨some 38, .move (.tmp 8), none⟩,
⟨some 4, .assign (.tmp 37), none⟩,
⟨some 5, .assign (.tmp 38), none⟩]
def f24_c : LC := (.seq (.reg f24_r0 [] none) (.seq (.reg f24_r1 [0] none) (.seq (.reg f24_r2 [] none) (.seq (.seq (.reg f24_r3 [] none) (.block 0 (.loop f24_l8))) (.seq (.reg f24_r9 [] none) .ret)))))
theorem f24_lc : Tryz.f24.body.map lc = some f24_c.st := by kernel_rfl
theorem f24_res : Tryz.f24.results.toList = [.tmp 4, .tmp 5] := by kernel_rfl
theorem f24_nt : Tryz.f24.ntmps = 39 := by kernel_rfl
theorem f24_nm : (Tryz.f24.name == "runtime.NumGoroutine") = false := by kernel_rfl
def f25_r0 : List LOp := [
⟨some 4, .assign (.const (.bool false)), none⟩]
def f25_r1 : List LOp := [
⟨some 6, .move (.tmp 0), none⟩,
⟨some 7, .call ⟨.builtin .len, #[.tmp 6], #[48]⟩, none⟩,
⟨some 8, .move (.tmp 1), none⟩,
⟨some 9, .call ⟨.builtin .len, #[.tmp 8], #[48]⟩, none⟩,
⟨some 10, .binOp .neq 3 (.tmp 7) (.tmp 9) 3, none⟩]
def f25_r2 : List LOp := [
⟨some 4, .assign (.const (.bool false)), none⟩]
def f25_r3 : List LOp := [
⟨some 11, .move (.tmp 0), none⟩,
⟨some 12, .call ⟨.builtin .len, #[.tmp 11], #[48]⟩, none⟩,
⟨some 13, .move (.const (.int .i64 0)), none⟩]
def f25_r4 : List LOp := [
⟨some 14, .binOp .lss 3 (.tmp 13) (.tmp 12) 3, none⟩]
def f25_r5 : List LOp := [
⟨some 15, .move (.tmp 13), none⟩,
⟨some 5, .assign (.tmp 15), none⟩]
def f25_r6 : List LOp := [
⟨some 16, .move (.tmp 0), none⟩,
⟨some 17, .move (.tmp 5), none⟩,
⟨some 18, .indexAddr 48 (.tmp 16) (.tmp 17), none⟩,
⟨some 19, .load 9 (.tmp 18), none⟩,
⟨some 20, .move (.tmp 1), none⟩,
⟨some 21, .move (.tmp 5), none⟩,
⟨some 22, .indexAddr 48 (.tmp 20) (.tmp 21), none⟩,
⟨some 23, .load 9 (.tmp 22), none⟩,
⟨some 24, .binOp .neq 9 (.tmp 19) (.tmp 23) 9, none⟩]
def f25_r7 : List LOp := [
⟨some 4, .assign (.const (.bool false)), none⟩]
def f25_r8 : List LOp := [
⟨some 25, .binOp .add 3 (.tmp 13) (.const (.int .i64 1)) 3, none⟩,
⟨some 13, .move (.tmp 25), none⟩]
def f25_l9 : LC := (.seq (.reg f25_r4 [] none) (.seq (.cond (.tmp 14) .skip (.exit 0)) (.seq (.block 1 (.seq (.reg f25_r5 [] none) (.seq (.reg f25_r6 [] (some 8)) (.cond (.tmp 24) (.seq (.reg f25_r7 [] none) .ret) .skip)))) (.reg f25_r8 [] none))))
def f25_i9 (t0 t1 t12 t13 : D) : List D := [t0, t1, .any, .any, .any, .any, .any, .any, .any, .any, .any, .any, t12, t13, .any, .any, .any, .any, .any, .any, .any, .any, .any, .any, .any, .any]
def f25_r10 : List LOp := [
⟨some 4, .assign (.const (.bool true)), none⟩]
def f25_c : LC := (.seq (.reg f25_r0 [] none) (.seq (.seq (.reg f25_r1 [] none) (.cond (.tmp 10) (.seq (.reg f25_r2 [] none) .ret) .skip)) (.seq (.seq (.reg f25_r3 [] none) (.block 0 (.loop f25_l9))) (.seq (.reg f25_r10 [] none) .ret))))
theorem f25_lc : Tryz.f25.body.map lc = some f25_c.st := by kernel_rfl
theorem f25_res : Tryz.f25.results.toList = [.tmp 4] := by kernel_rfl
theorem f25_nt : Tryz.f25.ntmps = 26 := by kernel_rfl
theorem f25_nm : (Tryz.f25.name == "runtime.NumGoroutine") = false := by kernel_rfl
def f30_r0 : List LOp := [
⟨some 2, .box 27 (.tmp 0), none⟩,
⟨some 4, .alloc 27, none⟩]
def f30_r1 : List LOp := [
⟨some 8, .fieldAddr 27 (.tmp 2) 0, none⟩,
⟨some 9, .load 5 (.tmp 8), none⟩]
def f30_r2 : List LOp := [
⟨some 11, .binOp .eql 5 (.tmp 9) (.const (.int .u8 3)) 5, none⟩,
⟨some 10, .assign (.tmp 11), none⟩]
def f30_r3 : List LOp := [
⟨some 12, .fieldAddr 27 (.tmp 2) 1, none⟩,
⟨some 13, .load 24 (.tmp 12), none⟩,
⟨some 14, .move (.tmp 1), none⟩,
⟨some 15, .call ⟨.value (.func 51), #[.tmp 13, .tmp 14], #[24, 5]⟩, none⟩]
def f30_r4 : List LOp := [
⟨some 16, .call ⟨.value (.func 52), #[.const (.slice none 0 0)], #[25]⟩, none⟩,
⟨none, .store 27 (.tmp 4) (.tmp 16), none⟩]
def f30_r5 : List LOp := [
⟨some 18, .binOp .eql 5 (.tmp 9) (.const (.int .u8 4)) 5, none⟩,
⟨some 17, .assign (.tmp 18), none⟩]
def f30_r6 : List LOp := [
⟨some 19, .fieldAddr 27 (.tmp 2) 2, none⟩,
⟨some 20, .load 25 (.tmp 19), none⟩,
⟨some 21, .indexAddr 25 (.tmp 20) (.const (.int .i64 0)), none⟩,
⟨some 22, .load 27 (.tmp 21), none⟩,
⟨some 23, .fieldAddr 27 (.tmp 2) 2, none⟩,
⟨some 24, .load 25 (.tmp 23), none⟩,
⟨some 25, .indexAddr 25 (.tmp 24) (.const (.int .i64 1)), none⟩,
⟨some 26, .load 27 (.tmp 25), none⟩,
⟨some 5, .alloc 27, none⟩,
⟨some 6, .alloc 27, none⟩,
⟨none, .store 27 (.tmp 5) (.tmp 22), none⟩,
⟨none, .store 27 (.tmp 6) (.tmp 26), none⟩]
def f30_r7 : List LOp := [
⟨some 27, .load 27 (.tmp 5), none⟩,
⟨some 28, .move (.tmp 1), none⟩,
⟨some 29, .call ⟨.value (.func 30), #[.tmp 27, .tmp 28], #[27, 5]⟩, none⟩,
⟨some 30, .load 27 (.tmp 6), none⟩,
⟨some 31, .buildSlice 25 2 #[(0, .tmp 29), (1, .tmp 30)], none⟩,
⟨some 32, .call ⟨.value (.func 52), #[.tmp 31], #[25]⟩, none⟩,
⟨some 7, .alloc 27, none⟩,
⟨none, .store 27 (.tmp 7) (.tmp 32), none⟩]
def f30_r8 : List LOp := [
⟨some 33, .load 27 (.tmp 5), none⟩,
⟨some 34, .buildSlice 25 1 #[(0, .tmp 33)], none⟩,
⟨some 35, .call ⟨.value (.func 20), #[.tmp 34], #[25]⟩, none⟩]
def f30_r9 : List LOp := [
⟨some 36, .load 27 (.tmp 7), none⟩,
⟨some 37, .load 27 (.tmp 6), none⟩,
⟨some 38, .move (.tmp 1), none⟩,
⟨some 39, .call ⟨.value (.func 30), #[.tmp 37, .tmp 38], #[27, 5]⟩, none⟩,
⟨some 40, .buildSlice 25 2 #[(0, .tmp 36), (1, .tmp 39)], none⟩,
⟨some 41, .call ⟨.value (.func 53), #[.tmp 40], #[25]⟩, none⟩,
⟨none, .store 27 (.tmp 4) (.tmp 41), none⟩]
def f30_r10 : List LOp := [
⟨some 42, .load 27 (.tmp 7), none⟩,
⟨none, .store 27 (.tmp 4) (.tmp 42), none⟩]
def f30_r11 : List LOp := [
⟨some 44, .binOp .eql 5 (.tmp 9) (.const (.int .u8 5)) 5, none⟩,
⟨some 43, .assign (.tmp 44), none⟩]
def f30_r12 : List LOp := [
⟨some 45, .fieldAddr 27 (.tmp 2) 2, none⟩,
⟨some 46, .load 25 (.tmp 45), none⟩,
⟨some 47, .indexAddr 25 (.tmp 46) (.const (.int .i64 0)), none⟩,
⟨some 48, .load 27 (.tmp 47), none⟩,
⟨some 49, .move (.tmp 1), none⟩,
⟨some 50, .call ⟨.value (.func 30), #[.tmp 48, .tmp 49], #[27, 5]⟩, none⟩,
⟨some 51, .fieldAddr 27 (.tmp 2) 2, none⟩,
⟨some 52, .load 25 (.tmp 51), none⟩,
⟨some 53, .indexAddr 25 (.tmp 52) (.const (.int .i64 1)), none⟩,
⟨some 54, .load 27 (.tmp 53), none⟩,
⟨some 55, .move (.tmp 1), none⟩,
⟨some 56, .call ⟨.value (.func 30), #[.tmp 54, .tmp 55], #[27, 5]⟩, none⟩,
⟨some 57, .buildSlice 25 2 #[(0, .tmp 50), (1, .tmp 56)], none⟩,
⟨some 58, .call ⟨.value (.func 53), #[.tmp 57], #[25]⟩, none⟩,
⟨none, .store 27 (.tmp 4) (.tmp 58), none⟩]
def f30_r13 : List LOp := [
⟨some 60, .binOp .eql 5 (.tmp 9) (.const (.int .u8 6)) 5, none⟩,
⟨some 59, .assign (.tmp 60), none⟩]
def f30_r14 : List LOp := [
⟨some 61, .fieldAddr 27 (.tmp 2) 2, none⟩,
⟨some 62, .load 25 (.tmp 61), none⟩,
⟨some 63, .indexAddr 25 (.tmp 62) (.const (.int .i64 0)), none⟩,
⟨some 64, .load 27 (.tmp 63), none⟩,
⟨some 65, .move (.tmp 1), none⟩,
⟨some 66, .call ⟨.value (.func 30), #[.tmp 64, .tmp 65], #[27, 5]⟩, none⟩,
⟨some 67, .load 27 (.tmp 2), none⟩,
⟨some 68, .buildSlice 25 2 #[(0, .tmp 66), (1, .tmp 67)], none⟩,
⟨some 69, .call ⟨.value (.func 52), #[.tmp 68], #[25]⟩, none⟩,
⟨none, .store 27 (.tmp 4) (.tmp 69), none⟩]
def f30_r15 : List LOp := [
⟨some 70, .call ⟨.value (.func 53), #[.const (.slice none 0 0)], #[25]⟩, none⟩,
⟨none, .store 27 (.tmp 4) (.tmp 70), none⟩]
def f30_c : LC := (.seq (.reg f30_r0 [] none) (.seq (.seq (.reg f30_r1 [] none) (.block 0 (.seq (.reg f30_r2 [] none) (.cond (.tmp 10) (.seq (.reg f30_r3 [] none) (.cond (.tmp 15) (.seq (.reg f30_r4 [] none) .ret) .skip)) (.seq (.reg f30_r5 [] none) (.cond (.tmp 17) (.seq (.rega f30_r6 [] 11) (.seq (.rega f30_r7 [] 7) (.seq (.seq (.reg f30_r8 [] none) (.cond (.tmp 35) (.seq (.reg f30_r9 [] (some 4)) .ret) .skip)) (.seq (.reg f30_r10 [] none) .ret)))) (.seq (.reg f30_r11 [] none) (.cond (.tmp 43) (.seq (.reg f30_r12 [] (some 11)) .ret) (.seq (.reg f30_r13 [] none) (.cond (.tmp 59) (.seq (.reg f30_r14 [] (some 7)) .ret) .skip)))))))))) (.seq (.reg f30_r15 [] none) .ret)))
theorem f30_lc : Tryz.f30.body.map lc = some f30_c.st := by kernel_rfl
theorem f30_res : Tryz.f30.results.toList = [.cell 4 27] := by kernel_rfl
theorem f30_nt : Tryz.f30.ntmps = 71 := by kernel_rfl
theorem f30_nm : (Tryz.f30.name == "runtime.NumGoroutine") = false := by kernel_rfl
def f32_r0 : List LOp := [
⟨some 2, .box 27 (.tmp 0), none⟩,
⟨some 4, .alloc 27, none⟩]
def f32_r1 : List LOp := [
⟨some 7, .fieldAddr 27 (.tmp 2) 0, none⟩,
⟨some 8, .load 5 (.tmp 7), none⟩,
⟨some 9, .binOp .eql 5 (.tmp 8) (.const (.int .u8 3)) 5, none⟩,
⟨some 10, .move (.tmp 9), none⟩,
⟨some 11, .fieldAddr 27 (.tmp 2) 1, some (3, true)⟩,
⟨some 12, .load 24 (.tmp 11), some (3, true)⟩,
⟨some 13, .move (.tmp 1), some (3, true)⟩,
⟨some 14, .convert 5 3 (.tmp 13), some (3, true)⟩,
⟨some 15, .call ⟨.value (.func 55), #[.tmp 12, .tmp 14], #[24, 3]⟩, some (3, true)⟩,
⟨some 16, .pick (.tmp 10) (.tmp 15) (.const (.bool false)), none⟩]
def f32_r2 : List LOp := [
⟨some 17, .call ⟨.value (.func 56), #[.const (.int .u8 2)], #[5]⟩, none⟩,
⟨none, .store 27 (.tmp 4) (.tmp 17), none⟩]
def f32_r3 : List LOp := [
⟨some 18, .fieldAddr 27 (.tmp 2) 0, none⟩,
⟨some 19, .load 5 (.tmp 18), none⟩,
⟨some 20, .binOp .lss 5 (.tmp 19) (.const (.int .u8 4)) 5, none⟩]
def f32_r4 : List LOp := [
⟨some 21, .call ⟨.value (.func 56), #[.const (.int .u8 1)], #[5]⟩, none⟩,
⟨none, .store 27 (.tmp 4) (.tmp 21), none⟩]
def f32_r5 : List LOp := [
⟨some 22, .fieldAddr 27 (.tmp 2) 2, none⟩,
⟨some 23, .load 25 (.tmp 22), none⟩,
⟨some 24, .indexAddr 25 (.tmp 23) (.const (.int .i64 0)), none⟩,
⟨some 25, .load 27 (.tmp 24), none⟩,
⟨some 26, .move (.tmp 1), none⟩,
⟨some 27, .call ⟨.value (.func 32), #[.tmp 25, .tmp 26], #[27, 5]⟩, none⟩,
⟨some 5, .alloc 27, none⟩,
⟨none, .store 27 (.tmp 5) (.tmp 27), none⟩]
def f32_r6 : List LOp := [
⟨some 28, .fieldAddr 27 (.tmp 2) 0, none⟩,
⟨some 29, .load 5 (.tmp 28), none⟩,
⟨some 30, .binOp .eql 5 (.tmp 29) (.const (.int .u8 6)) 5, none⟩]
def f32_r7 : List LOp := [
⟨some 31, .load 27 (.tmp 5), none⟩,
⟨some 32, .load 27 (.tmp 2), none⟩,
⟨some 33, .call ⟨.value (.func 57), #[.const (.int .u8 4), .tmp 31, .tmp 32], #[5, 27, 27]⟩, none⟩,
⟨none, .store 27 (.tmp 4) (.tmp 33), none⟩]
def f32_r8 : List LOp := [
⟨some 34, .fieldAddr 27 (.tmp 2) 0, none⟩,
⟨some 35, .load 5 (.tmp 34), none⟩,
⟨some 36, .binOp .eql 5 (.tmp 35) (.const (.int .u8 5)) 5, none⟩]
def f32_r9 : List LOp := [
⟨some 37, .load 27 (.tmp 5), none⟩,
⟨some 38, .fieldAddr 27 (.tmp 2) 2, none⟩,
⟨some 39, .load 25 (.tmp 38), none⟩,
⟨some 40, .indexAddr 25 (.tmp 39) (.const (.int .i64 1)), none⟩,
⟨some 41, .load 27 (.tmp 40), none⟩,
⟨some 42, .move (.tmp 1), none⟩,
⟨some 43, .call ⟨.value (.func 32), #[.tmp 41, .tmp 42], #[27, 5]⟩, none⟩,
⟨some 44, .call ⟨.value (.func 57), #[.const (.int .u8 5), .tmp 37, .tmp 43], #[5, 27, 27]⟩, none⟩,
⟨none, .store 27 (.tmp 4) (.tmp 44), none⟩]
def f32_r10 : List LOp := [
⟨some 45, .load 27 (.tmp 5), none⟩,
⟨some 46, .fieldAddr 27 (.tmp 2) 2, none⟩,
⟨some 47, .load 25 (.tmp 46), none⟩,
⟨some 48, .indexAddr 25 (.tmp 47) (.const (.int .i64 1)), none⟩,
⟨some 49, .load 27 (.tmp 48), none⟩,
⟨some 50, .call ⟨.value (.func 57), #[.const (.int .u8 4), .tmp 45, .tmp 49], #[5, 27, 27]⟩, none⟩,
⟨some 6, .alloc 27, none⟩,
⟨none, .store 27 (.tmp 6) (.tmp 50), none⟩]
def f32_r11 : List LOp := [
⟨some 51, .fieldAddr 27 (.tmp 2) 2, none⟩,
⟨some 52, .load 25 (.tmp 51), none⟩,
⟨some 53, .indexAddr 25 (.tmp 52) (.const (.int .i64 0)), none⟩,
⟨some 54, .load 27 (.tmp 53), none⟩,
⟨some 55, .call ⟨.value (.func 43), #[.tmp 54], #[27]⟩, none⟩]
def f32_r12 : List LOp := [
⟨some 56, .load 27 (.tmp 6), none⟩,
⟨some 57, .fieldAddr 27 (.tmp 2) 2, none⟩,
⟨some 58, .load 25 (.tmp 57), none⟩,
⟨some 59, .indexAddr 25 (.tmp 58) (.const (.int .i64 1)), none⟩,
⟨some 60, .load 27 (.tmp 59), none⟩,
⟨some 61, .move (.tmp 1), none⟩,
⟨some 62, .call ⟨.value (.func 32), #[.tmp 60, .tmp 61], #[27, 5]⟩, none⟩,
⟨some 63, .call ⟨.value (.func 57), #[.const (.int .u8 5), .tmp 56, .tmp 62], #[5, 27, 27]⟩, none⟩,
⟨none, .store 27 (.tmp 4) (.tmp 63), none⟩]
def f32_r13 : List LOp := [
⟨some 64, .load 27 (.tmp 6), none⟩,
⟨none, .store 27 (.tmp 4) (.tmp 64), none⟩]
def f32_c : LC := (.seq (.reg f32_r0 [] none) (.seq (.seq (.reg f32_r1 [] none) (.cond (.tmp 16) (.seq (.reg f32_r2 [] none) .ret) .skip)) (.seq (.seq (.reg f32_r3 [] none) (.cond (.tmp 20) (.seq (.reg f32_r4 [] none) .ret) .skip)) (.seq (.reg f32_r5 [] none) (.seq (.seq (.reg f32_r6 [] none) (.cond (.tmp 30) (.seq (.reg f32_r7 [] none) .ret) .skip)) (.seq (.seq (.reg f32_r8 [] none) (.cond (.tmp 36) (.seq (.reg f32_r9 [] (some 7)) .ret) .skip)) (.seq (.rega f32_r10 [] 7) (.seq (.seq (.reg f32_r11 [] none) (.cond (.tmp 55) (.seq (.reg f32_r12 [] (some 7)) .ret) .skip)) (.seq (.reg f32_r13 [] none) .ret)))))))))
theorem f32_lc : Tryz.f32.body.map lc = some f32_c.st := by kernel_rfl
theorem f32_res : Tryz.f32.results.toList = [.cell 4 27] := by kernel_rfl
theorem f32_nt : Tryz.f32.ntmps = 65 := by kernel_rfl
theorem f32_nm : (Tryz.f32.name == "runtime.NumGoroutine") = false := by kernel_rfl
def f33_r0 : List LOp := [
⟨some 1, .box 27 (.tmp 0), none⟩,
⟨some 2, .alloc 27, none⟩]
def f33_r1 : List LOp := [
⟨some 3, .load 27 (.tmp 1), none⟩,
⟨some 4, .buildSlice 25 1 #[(0, .tmp 3)], none⟩,
⟨some 5, .call ⟨.value (.func 29), #[.tmp 4], #[25]⟩, none⟩,
⟨some 6, .unOp .not 4 (.tmp 5), none⟩]
def f33_r2 : List LOp := [
⟨some 7, .build 27 #[], none⟩,
⟨none, .store 27 (.tmp 2) (.tmp 7), none⟩]
def f33_r3 : List LOp := [
⟨some 8, .load 27 (.tmp 1), none⟩,
⟨some 9, .call ⟨.value (.func 58), #[.tmp 8], #[27]⟩, none⟩,
⟨none, .store 27 (.tmp 2) (.tmp 9), none⟩]
def f33_c : LC := (.seq (.reg f33_r0 [] none) (.seq (.seq (.reg f33_r1 [] none) (.cond (.tmp 6) (.seq (.reg f33_r2 [] none) .ret) .skip)) (.seq (.reg f33_r3 [] none) .ret)))
theorem f33_lc : Tryz.f33.body.map lc = some f33_c.st := by kernel_rfl
theorem f33_res : Tryz.f33.results.toList = [.cell 2 27] := by kernel_rfl
theorem f33_nt : Tryz.f33.ntmps = 10 := by kernel_rfl
theorem f33_nm : (Tryz.f33.name == "runtime.NumGoroutine") = false := by kernel_rfl
def f34_r0 : List LOp := [
⟨some 1, .box 27 (.tmp 0), none⟩,
⟨some 2, .alloc 27, none⟩]
def f34_r1 : List LOp := [
⟨some 3, .load 27 (.tmp 1), none⟩,
⟨some 4, .call ⟨.value (.func 31), #[.tmp 3], #[27]⟩, none⟩,
⟨some 5, .unOp .not 4 (.tmp 4), none⟩]
def f34_r2 : List LOp := [
⟨some 6, .build 27 #[], none⟩,
⟨none, .store 27 (.tmp 2) (.tmp 6), none⟩]
def f34_r3 : List LOp := [
⟨some 7, .load 27 (.tmp 1), none⟩,
⟨some 8, .call ⟨.value (.func 35), #[.tmp 7], #[27]⟩, none⟩,
⟨none, .store 27 (.tmp 2) (.tmp 8), none⟩]
def f34_c : LC := (.seq (.reg f34_r0 [] none) (.seq (.seq (.reg f34_r1 [] none) (.cond (.tmp 5) (.seq (.reg f34_r2 [] none) .ret) .skip)) (.seq (.reg f34_r3 [] none) .ret)))
theorem f34_lc : Tryz.f34.body.map lc = some f34_c.st := by kernel_rfl
theorem f34_res : Tryz.f34.results.toList = [.cell 2 27] := by kernel_rfl
theorem f34_nt : Tryz.f34.ntmps = 9 := by kernel_rfl
theorem f34_nm : (Tryz.f34.name == "runtime.NumGoroutine") = false := by kernel_rfl
def f35_r0 : List LOp := [
⟨some 1, .box 27 (.tmp 0), none⟩,
⟨some 2, .alloc 27, none⟩]
def f35_r1 : List LOp := [
⟨some 3, .fieldAddr 27 (.tmp 1) 0, none⟩,
⟨some 4, .load 5 (.tmp 3), none⟩,
⟨some 5, .binOp .eql 5 (.tmp 4) (.const (.int .u8 4)) 5, none⟩]
def f35_r2 : List LOp := [
⟨some 6, .fieldAddr 27 (.tmp 1) 2, none⟩,
⟨some 7, .load 25 (.tmp 6), none⟩,
⟨some 8, .indexAddr 25 (.tmp 7) (.const (.int .i64 0)), none⟩,
⟨some 9, .load 27 (.tmp 8), none⟩,
⟨some 10, .call ⟨.value (.func 35), #[.tmp 9], #[27]⟩, none⟩,
⟨some 11, .fieldAddr 27 (.tmp 1) 2, none⟩,
⟨some 12, .load 25 (.tmp 11), none⟩,
⟨some 13, .indexAddr 25 (.tmp 12) (.const (.int .i64 1)), none⟩,
⟨some 14, .load 27 (.tmp 13), none⟩,
⟨some 15, .call ⟨.value (.func 35), #[.tmp 14], #[27]⟩, none⟩,
⟨some 16, .call ⟨.value (.func 59), #[.tmp 10, .tmp 15], #[27, 27]⟩, none⟩,
⟨none, .store 27 (.tmp 2) (.tmp 16), none⟩]
def f35_r3 : List LOp := [
⟨some 17, .fieldAddr 27 (.tmp 1) 0, none⟩,
⟨some 18, .load 5 (.tmp 17), none⟩,
⟨some 19, .binOp .eql 5 (.tmp 18) (.const (.int .u8 5)) 5, none⟩]
def f35_r4 : List LOp := [
⟨some 20, .fieldAddr 27 (.tmp 1) 2, none⟩,
⟨some 21, .load 25 (.tmp 20), none⟩,
⟨some 22, .indexAddr 25 (.tmp 21) (.const (.int .i64 0)), none⟩,
⟨some 23, .load 27 (.tmp 22), none⟩,
⟨some 24, .call ⟨.value (.func 35), #[.tmp 23], #[27]⟩, none⟩,
⟨some 25, .fieldAddr 27 (.tmp 1) 2, none⟩,
⟨some 26, .load 25 (.tmp 25), none⟩,
⟨some 27, .indexAddr 25 (.tmp 26) (.const (.int .i64 1)), none⟩,
⟨some 28, .load 27 (.tmp 27), none⟩,
⟨some 29, .call ⟨.value (.func 35), #[.tmp 28], #[27]⟩, none⟩,
⟨some 30, .buildSlice 25 2 #[(0, .tmp 24), (1, .tmp 29)], none⟩,
⟨some 31, .call ⟨.value (.func 60), #[.tmp 30], #[25]⟩, none⟩,
⟨none, .store 27 (.tmp 2) (.tmp 31), none⟩]
def f35_r5 : List LOp := [
⟨some 32, .fieldAddr 27 (.tmp 1) 0, none⟩,
⟨some 33, .load 5 (.tmp 32), none⟩,
⟨some 34, .binOp .eql 5 (.tmp 33) (.const (.int .u8 6)) 5, none⟩]
def f35_r6 : List LOp := [
⟨some 35, .fieldAddr 27 (.tmp 1) 2, none⟩,
⟨some 36, .load 25 (.tmp 35), none⟩,
⟨some 37, .indexAddr 25 (.tmp 36) (.const (.int .i64 0)), none⟩,
⟨some 38, .load 27 (.tmp 37), none⟩,
⟨some 39, .call ⟨.value (.func 35), #[.tmp 38], #[27]⟩, none⟩,
⟨some 40, .call ⟨.value (.func 61), #[.tmp 39], #[27]⟩, none⟩,
⟨none, .store 27 (.tmp 2) (.tmp 40), none⟩]
def f35_r7 : List LOp := [
⟨some 41, .load 27 (.tmp 1), none⟩,
⟨none, .store 27 (.tmp 2) (.tmp 41), none⟩]
def f35_c : LC := (.seq (.reg f35_r0 [] none) (.seq (.seq (.reg f35_r1 [] none) (.cond (.tmp 5) (.seq (.reg f35_r2 [] (some 9)) .ret) .skip)) (.seq (.seq (.reg f35_r3 [] none) (.cond (.tmp 19) (.seq (.reg f35_r4 [] (some 9)) .ret) .skip)) (.seq (.seq (.reg f35_r5 [] none) (.cond (.tmp 34) (.seq (.reg f35_r6 [] none) .ret) .skip)) (.seq (.reg f35_r7 [] none) .ret)))))
theorem f35_lc : Tryz.f35.body.map lc = some f35_c.st := by kernel_rfl
theorem f35_res : Tryz.f35.results.toList = [.cell 2 27] := by kernel_rfl
theorem f35_nt : Tryz.f35.ntmps = 42 := by kernel_rfl
theorem f35_nm : (Tryz.f35.name == "runtime.NumGoroutine") = false := by kernel_rfl
def f39_r0 : List LOp := [
⟨some 1, .box 27 (.tmp 0), none⟩,
⟨some 2, .assign (.const (.bool false)), none⟩]
def f39_r1 : List LOp := [
⟨some 3, .load 27 (.tmp 1), none⟩,
⟨some 4, .buildSlice 25 1 #[(0, .tmp 3)], none⟩,
⟨some 5, .call ⟨.value (.func 29), #[.tmp 4], #[25]⟩, none⟩,
⟨some 6, .unOp .not 4 (.tmp 5), none⟩,
⟨some 7, .move (.tmp 6), none⟩,
⟨some 8, .load 27 (.tmp 1), some (4, false)⟩,
⟨some 9, .call ⟨.value (.func 40), #[.tmp 8], #[27]⟩, some (4, false)⟩,
⟨some 10, .unOp .not 4 (.tmp 9), some (4, false)⟩,
⟨some 11, .pick (.tmp 7) (.const (.bool true)) (.tmp 10), none⟩,
⟨some 2, .assign (.tmp 11), none⟩]
def f39_c : LC := (.seq (.reg f39_r0 [] none) (.seq (.reg f39_r1 [] none) .ret))
theorem f39_lc : Tryz.f39.body.map lc = some f39_c.st := by kernel_rfl
theorem f39_res : Tryz.f39.results.toList = [.tmp 2] := by kernel_rfl
theorem f39_nt : Tryz.f39.ntmps = 12 := by kernel_rfl
theorem f39_nm : (Tryz.f39.name == "runtime.NumGoroutine") = false := by kernel_rfl
def f40_r0 : List LOp := [
⟨some 1, .box 27 (.tmp 0), none⟩,
⟨some 2, .assign (.const (.bool false)), none⟩]
def f40_r1 : List LOp := [
⟨some 3, .fieldAddr 27 (.tmp 1) 0, none⟩,
⟨some 4, .load 5 (.tmp 3), none⟩]
def f40_r2 : List LOp := [
⟨some 6, .binOp .eql 5 (.tmp 4) (.const (.int .u8 2)) 5, none⟩,
⟨some 5, .assign (.tmp 6), none⟩]
def f40_r3 : List LOp := [
⟨some 7, .binOp .eql 5 (.tmp 4) (.const (.int .u8 6)) 5, none⟩,
⟨some 5, .assign (.tmp 7), none⟩]
def f40_r4 : List LOp := [
⟨some 2, .assign (.const (.bool true)), none⟩]
def f40_r5 : List LOp := [
⟨some 9, .binOp .eql 5 (.tmp 4) (.const (.int .u8 4)) 5, none⟩,
⟨some 8, .assign (.tmp 9), none⟩]
def f40_r6 : List LOp := [
⟨some 10, .fieldAddr 27 (.tmp 1) 2, none⟩,
⟨some 11, .load 25 (.tmp 10), none⟩,
⟨some 12, .indexAddr 25 (.tmp 11) (.const (.int .i64 0)), none⟩,
⟨some 13, .load 27 (.tmp 12), none⟩,
⟨some 14, .call ⟨.value (.func 40), #[.tmp 13], #[27]⟩, none⟩,
⟨some 15, .move (.tmp 14), none⟩,
⟨some 16, .fieldAddr 27 (.tmp 1) 2, some (5, true)⟩,
⟨some 17, .load 25 (.tmp 16), some (5, true)⟩,
⟨some 18, .indexAddr 25 (.tmp 17) (.const (.int .i64 1)), some (5, true)⟩,
⟨some 19, .load 27 (.tmp 18), some (5, true)⟩,
⟨some 20, .call ⟨.value (.func 40), #[.tmp 19], #[27]⟩, some (5, true)⟩,
⟨some 21, .pick (.tmp 15) (.tmp 20) (.const (.bool false)), none⟩,
⟨some 2, .assign (.tmp 21), none⟩]
def f40_r7 : List LOp := [
⟨some 23, .binOp .eql 5 (.tmp 4) (.const (.int .u8 5)) 5, none⟩,
⟨some 22, .assign (.tmp 23), none⟩]
def f40_r8 : List LOp := [
⟨some 24, .fieldAddr 27 (.tmp 1) 2, none⟩,
⟨some 25, .load 25 (.tmp 24), none⟩,
⟨some 26, .indexAddr 25 (.tmp 25) (.const (.int .i64 0)), none⟩,
⟨some 27, .load 27 (.tmp 26), none⟩,
⟨some 28, .call ⟨.value (.func 40), #[.tmp 27], #[27]⟩, none⟩,
⟨some 29, .move (.tmp 28), none⟩,
⟨some 30, .fieldAddr 27 (.tmp 1) 2, some (5, false)⟩,
⟨some 31, .load 25 (.tmp 30), some (5, false)⟩,
⟨some 32, .indexAddr 25 (.tmp 31) (.const (.int .i64 1)), some (5, false)⟩,
⟨some 33, .load 27 (.tmp 32), some (5, false)⟩,
⟨some 34, .call ⟨.value (.func 40), #[.tmp 33], #[27]⟩, some (5, false)⟩,
⟨some 35, .pick (.tmp 29) (.const (.bool true)) (.tmp 34), none⟩,
⟨some 2, .assign (.tmp 35), none⟩]
def f40_r9 : List LOp := [
⟨some 2, .assign (.const (.bool false)), none⟩]
def f40_c : LC := (.seq (.reg f40_r0 [] none) (.seq (.seq (.reg f40_r1 [] none) (.block 0 (.seq (.seq (.reg f40_r2 [] none) (.cond (.tmp 5) .skip (.reg f40_r3 [] none))) (.cond (.tmp 5) (.seq (.reg f40_r4 [] none) .ret) (.seq (.reg f40_r5 [] none) (.cond (.tmp 8) (.seq (.reg f40_r6 [] none) .ret) (.seq (.reg f40_r7 [] none) (.cond (.tmp 22) (.seq (.reg f40_r8 [] none) .ret) .skip)))))))) (.seq (.reg f40_r9 [] none) .ret)))
theorem f40_lc : Tryz.f40.body.map lc = some f40_c.st := by kernel_rfl
theorem f40_res : Tryz.f40.results.toList = [.tmp 2] := by kernel_rfl
theorem f40_nt : Tryz.f40.ntmps = 36 := by kernel_rfl
theorem f40_nm : (Tryz.f40.name == "runtime.NumGoroutine") = false := by kernel_rfl
def f41_r0 : List LOp := [
⟨some 2, .assign (.const (.string { data := #[] })), none⟩]
def f41_r1 : List LOp := [
⟨some 3, .move (.tmp 0), none⟩]
def f41_r2 : List LOp := [
⟨some 2, .assign (.const (.string { data := #[49, 32] })), none⟩]
def f41_r3 : List LOp := [
⟨some 2, .assign (.const (.string { data := #[48, 32] })), none⟩]
def f41_c : LC := (.seq (.reg f41_r0 [] none) (.seq (.seq (.reg f41_r1 [] none) (.cond (.tmp 3) (.seq (.reg f41_r2 [] none) .ret) .skip)) (.seq (.reg f41_r3 [] none) .ret)))
theorem f41_lc : Tryz.f41.body.map lc = some f41_c.st := by kernel_rfl
theorem f41_res : Tryz.f41.results.toList = [.tmp 2] := by kernel_rfl
theorem f41_nt : Tryz.f41.ntmps = 4 := by kernel_rfl
theorem f41_nm : (Tryz.f41.name == "runtime.NumGoroutine") = false := by kernel_rfl
def f42_r0 : List LOp := [
⟨some 4, .assign (.const (.string { data := #[] })), none⟩]
def f42_r1 : List LOp := [
⟨some 5, .move (.tmp 0), none⟩]
def f42_r2 : List LOp := [
⟨some 6, .move (.tmp 1), none⟩,
⟨some 7, .binOp .add 9 (.const (.string { data := #[49, 32] })) (.tmp 6) 9, none⟩,
⟨some 4, .assign (.tmp 7), none⟩]
def f42_r3 : List LOp := [
⟨some 8, .move (.tmp 1), none⟩,
⟨some 9, .binOp .add 9 (.const (.string { data := #[48, 32] })) (.tmp 8) 9, none⟩,
⟨some 4, .assign (.tmp 9), none⟩]
def f42_c : LC := (.seq (.reg f42_r0 [] none) (.seq (.seq (.reg f42_r1 [] none) (.cond (.tmp 5) (.seq (.reg f42_r2 [] none) .ret) .skip)) (.seq (.reg f42_r3 [] none) .ret)))
theorem f42_lc : Tryz.f42.body.map lc = some f42_c.st := by kernel_rfl
theorem f42_res : Tryz.f42.results.toList = [.tmp 4] := by kernel_rfl
theorem f42_nt : Tryz.f42.ntmps = 10 := by kernel_rfl
theorem f42_nm : (Tryz.f42.name == "runtime.NumGoroutine") = false := by kernel_rfl
def f43_r0 : List LOp := [
⟨some 1, .box 27 (.tmp 0), none⟩,
⟨some 2, .assign (.const (.bool false)), none⟩]
def f43_r1 : List LOp := [
⟨some 3, .fieldAddr 27 (.tmp 1) 0, none⟩,
⟨some 4, .load 5 (.tmp 3), none⟩,
⟨some 5, .binOp .eql 5 (.tmp 4) (.const (.int .u8 4)) 5, none⟩]
def f43_r2 : List LOp := [
⟨some 6, .fieldAddr 27 (.tmp 1) 2, none⟩,
⟨some 7, .load 25 (.tmp 6), none⟩,
⟨some 8, .indexAddr 25 (.tmp 7) (.const (.int .i64 0)), none⟩,
⟨some 9, .load 27 (.tmp 8), none⟩,
⟨some 10, .call ⟨.value (.func 43), #[.tmp 9], #[27]⟩, none⟩,
⟨some 11, .move (.tmp 10), none⟩,
⟨some 12, .fieldAddr 27 (.tmp 1) 2, some (5, true)⟩,
⟨some 13, .load 25 (.tmp 12), some (5, true)⟩,
⟨some 14, .indexAddr 25 (.tmp 13) (.const (.int .i64 1)), some (5, true)⟩,
⟨some 15, .load 27 (.tmp 14), some (5, true)⟩,
⟨some 16, .call ⟨.value (.func 43), #[.tmp 15], #[27]⟩, some (5, true)⟩,
⟨some 17, .pick (.tmp 11) (.tmp 16) (.const (.bool false)), none⟩,
⟨some 2, .assign (.tmp 17), none⟩]
def f43_r3 : List LOp := [
⟨some 18, .fieldAddr 27 (.tmp 1) 0, none⟩,
⟨some 19, .load 5 (.tmp 18), none⟩,
⟨some 20, .binOp .eql 5 (.tmp 19) (.const (.int .u8 5)) 5, none⟩]
def f43_r4 : List LOp := [
⟨some 21, .fieldAddr 27 (.tmp 1) 2, none⟩,
⟨some 22, .load 25 (.tmp 21), none⟩,
⟨some 23, .indexAddr 25 (.tmp 22) (.const (.int .i64 0)), none⟩,
⟨some 24, .load 27 (.tmp 23), none⟩,
⟨some 25, .call ⟨.value (.func 43), #[.tmp 24], #[27]⟩, none⟩,
⟨some 26, .move (.tmp 25), none⟩,
⟨some 27, .fieldAddr 27 (.tmp 1) 2, some (5, false)⟩,
⟨some 28, .load 25 (.tmp 27), some (5, false)⟩,
⟨some 29, .indexAddr 25 (.tmp 28) (.const (.int .i64 1)), some (5, false)⟩,
⟨some 30, .load 27 (.tmp 29), some (5, false)⟩,
⟨some 31, .call ⟨.value (.func 43), #[.tmp 30], #[27]⟩, some (5, false)⟩,
⟨some 32, .pick (.tmp 26) (.const (.bool true)) (.tmp 31), none⟩,
⟨some 2, .assign (.tmp 32), none⟩]
def f43_r5 : List LOp := [
⟨some 33, .fieldAddr 27 (.tmp 1) 0, none⟩,
⟨some 34, .load 5 (.tmp 33), none⟩,
⟨some 35, .binOp .eql 5 (.tmp 34) (.const (.int .u8 2)) 5, none⟩,
⟨some 36, .move (.tmp 35), none⟩,
⟨some 37, .fieldAddr 27 (.tmp 1) 0, some (3, false)⟩,
⟨some 38, .load 5 (.tmp 37), some (3, false)⟩,
⟨some 39, .binOp .eql 5 (.tmp 38) (.const (.int .u8 6)) 5, some (3, false)⟩,
⟨some 40, .pick (.tmp 36) (.const (.bool true)) (.tmp 39), none⟩,
⟨some 2, .assign (.tmp 40), none⟩]
def f43_c : LC := (.seq (.reg f43_r0 [] none) (.seq (.seq (.reg f43_r1 [] none) (.cond (.tmp 5) (.seq (.reg f43_r2 [] none) .ret) .skip)) (.seq (.seq (.reg f43_r3 [] none) (.cond (.tmp 20) (.seq (.reg f43_r4 [] none) .ret) .skip)) (.seq (.reg f43_r5 [] none) .ret))))
theorem f43_lc : Tryz.f43.body.map lc = some f43_c.st := by kernel_rfl
theorem f43_res : Tryz.f43.results.toList = [.tmp 2] := by kernel_rfl
theorem f43_nt : Tryz.f43.ntmps = 41 := by kernel_rfl
theorem f43_nm : (Tryz.f43.name == "runtime.NumGoroutine") = false := by kernel_rfl
def f51_r0 : List LOp := [
⟨some 2, .box 24 (.tmp 0), none⟩,
⟨some 4, .assign (.const (.bool false)), none⟩]
def f51_r1 : List LOp := [
⟨some 5, .move (.tmp 1), none⟩,
⟨some 6, .binOp .quo 5 (.tmp 5) (.const (.int .u8 64)) 5, none⟩,
⟨some 7, .indexAddr 24 (.tmp 2) (.tmp 6), none⟩,
⟨some 8, .load 22 (.tmp 7), none⟩,
⟨some 9, .move (.tmp 1), none⟩,
⟨some 10, .binOp .rem 5 (.tmp 9) (.const (.int .u8 64)) 5, none⟩,
⟨some 11, .binOp .shr 22 (.tmp 8) (.tmp 10) 5, none⟩,
⟨some 12, .binOp .and 22 (.tmp 11) (.const (.int .u64 1)) 22, none⟩,
⟨some 13, .binOp .eql 22 (.tmp 12) (.const (.int .u64 1)) 22, none⟩,
⟨some 4, .assign (.tmp 13), none⟩]
def f51_c : LC := (.seq (.reg f51_r0 [] none) (.seq (.reg f51_r1 [] none) .ret))
theorem f51_lc : Tryz.f51.body.map lc = some f51_c.st := by kernel_rfl
theorem f51_res : Tryz.f51.results.toList = [.tmp 4] := by kernel_rfl
theorem f51_nt : Tryz.f51.ntmps = 14 := by kernel_rfl
theorem f51_nm : (Tryz.f51.name == "runtime.NumGoroutine") = false := by kernel_rfl
def f56_r0 : List LOp := [
⟨some 2, .alloc 27, none⟩]
def f56_r1 : List LOp := [
⟨some 3, .move (.tmp 0), none⟩,
⟨some 4, .build 27 #[(0, .tmp 3)], none⟩,
⟨none, .store 27 (.tmp 2) (.tmp 4), none⟩]
def f56_c : LC := (.seq (.reg f56_r0 [] none) (.seq (.reg f56_r1 [] none) .ret))
theorem f56_lc : Tryz.f56.body.map lc = some f56_c.st := by kernel_rfl
theorem f56_res : Tryz.f56.results.toList = [.cell 2 27] := by kernel_rfl
theorem f56_nt : Tryz.f56.ntmps = 5 := by kernel_rfl
theorem f56_nm : (Tryz.f56.name == "runtime.NumGoroutine") = false := by kernel_rfl
def f57_r0 : List LOp := [
⟨some 4, .box 27 (.tmp 1), none⟩,
⟨some 5, .box 27 (.tmp 2), none⟩,
⟨some 6, .alloc 27, none⟩]
def f57_r1 : List LOp := [
⟨some 7, .move (.tmp 0), none⟩,
⟨some 8, .load 27 (.tmp 4), none⟩,
⟨some 9, .load 27 (.tmp 5), none⟩,
⟨some 10, .buildSlice 25 2 #[(0, .tmp 8), (1, .tmp 9)], none⟩,
⟨some 11, .build 27 #[(0, .tmp 7), (2, .tmp 10)], none⟩,
⟨none, .store 27 (.tmp 6) (.tmp 11), none⟩]
def f57_c : LC := (.seq (.reg f57_r0 [] none) (.seq (.reg f57_r1 [] none) .ret))
theorem f57_lc : Tryz.f57.body.map lc = some f57_c.st := by kernel_rfl
theorem f57_res : Tryz.f57.results.toList = [.cell 6 27] := by kernel_rfl
theorem f57_nt : Tryz.f57.ntmps = 12 := by kernel_rfl
theorem f57_nm : (Tryz.f57.name == "runtime.NumGoroutine") = false := by kernel_rfl
def f58_r0 : List LOp := [
⟨some 1, .box 27 (.tmp 0), none⟩,
⟨some 2, .alloc 27, none⟩]
def f58_r1 : List LOp := [
⟨some 3, .fieldAddr 27 (.tmp 1) 0, none⟩,
⟨some 4, .load 5 (.tmp 3), none⟩]
def f58_r2 : List LOp := [
⟨some 6, .binOp .eql 5 (.tmp 4) (.const (.int .u8 4)) 5, none⟩,
⟨some 5, .assign (.tmp 6), none⟩]
def f58_r3 : List LOp := [
⟨some 7, .fieldAddr 27 (.tmp 1) 2, none⟩,
⟨some 8, .load 25 (.tmp 7), none⟩,
⟨some 9, .indexAddr 25 (.tmp 8) (.const (.int .i64 0)), none⟩,
⟨some 10, .load 27 (.tmp 9), none⟩,
⟨some 11, .call ⟨.value (.func 58), #[.tmp 10], #[27]⟩, none⟩,
⟨some 12, .fieldAddr 27 (.tmp 1) 2, none⟩,
⟨some 13, .load 25 (.tmp 12), none⟩,
⟨some 14, .indexAddr 25 (.tmp 13) (.const (.int .i64 1)), none⟩,
⟨some 15, .load 27 (.tmp 14), none⟩,
⟨some 16, .call ⟨.value (.func 58), #[.tmp 15], #[27]⟩, none⟩,
⟨some 17, .call ⟨.value (.func 74), #[.tmp 11, .tmp 16], #[27, 27]⟩, none⟩,
⟨none, .store 27 (.tmp 2) (.tmp 17), none⟩]
def f58_r4 : List LOp := [
⟨some 19, .binOp .eql 5 (.tmp 4) (.const (.int .u8 5)) 5, none⟩,
⟨some 18, .assign (.tmp 19), none⟩]
def f58_r5 : List LOp := [
⟨some 20, .fieldAddr 27 (.tmp 1) 2, none⟩,
⟨some 21, .load 25 (.tmp 20), none⟩,
⟨some 22, .indexAddr 25 (.tmp 21) (.const (.int .i64 0)), none⟩,
⟨some 23, .load 27 (.tmp 22), none⟩,
⟨some 24, .call ⟨.value (.func 58), #[.tmp 23], #[27]⟩, none⟩,
⟨some 25, .fieldAddr 27 (.tmp 1) 2, none⟩,
⟨some 26, .load 25 (.tmp 25), none⟩,
⟨some 27, .indexAddr 25 (.tmp 26) (.const (.int .i64 1)), none⟩,
⟨some 28, .load 27 (.tmp 27), none⟩,
⟨some 29, .call ⟨.value (.func 58), #[.tmp 28], #[27]⟩, none⟩,
⟨some 30, .buildSlice 25 2 #[(0, .tmp 24), (1, .tmp 29)], none⟩,
⟨some 31, .call ⟨.value (.func 75), #[.tmp 30], #[25]⟩, none⟩,
⟨none, .store 27 (.tmp 2) (.tmp 31), none⟩]
def f58_r6 : List LOp := [
⟨some 33, .binOp .eql 5 (.tmp 4) (.const (.int .u8 6)) 5, none⟩,
⟨some 32, .assign (.tmp 33), none⟩]
def f58_r7 : List LOp := [
⟨some 34, .fieldAddr 27 (.tmp 1) 2, none⟩,
⟨some 35, .load 25 (.tmp 34), none⟩,
⟨some 36, .indexAddr 25 (.tmp 35) (.const (.int .i64 0)), none⟩,
⟨some 37, .load 27 (.tmp 36), none⟩,
⟨some 38, .call ⟨.value (.func 58), #[.tmp 37], #[27]⟩, none⟩,
⟨some 39, .call ⟨.value (.func 76), #[.tmp 38], #[27]⟩, none⟩,
⟨none, .store 27 (.tmp 2) (.tmp 39), none⟩]
def f58_r8 : List LOp := [
⟨some 40, .load 27 (.tmp 1), none⟩,
⟨none, .store 27 (.tmp 2) (.tmp 40), none⟩]
def f58_c : LC := (.seq (.reg f58_r0 [] none) (.seq (.seq (.reg f58_r1 [] none) (.block 0 (.seq (.reg f58_r2 [] none) (.cond (.tmp 5) (.seq (.reg f58_r3 [] (some 9)) .ret) (.seq (.reg f58_r4 [] none) (.cond (.tmp 18) (.seq (.reg f58_r5 [] (some 9)) .ret) (.seq (.reg f58_r6 [] none) (.cond (.tmp 32) (.seq (.reg f58_r7 [] none) .ret) .skip)))))))) (.seq (.reg f58_r8 [] none) .ret)))
theorem f58_lc : Tryz.f58.body.map lc = some f58_c.st := by kernel_rfl
theorem f58_res : Tryz.f58.results.toList = [.cell 2 27] := by kernel_rfl
theorem f58_nt : Tryz.f58.ntmps = 41 := by kernel_rfl
theorem f58_nm : (Tryz.f58.name == "runtime.NumGoroutine") = false := by kernel_rfl
def f59_r0 : List LOp := [
⟨some 2, .box 27 (.tmp 0), none⟩,
⟨some 3, .box 27 (.tmp 1), none⟩,
⟨some 4, .alloc 27, none⟩]
def f59_r1 : List LOp := [
⟨some 5, .fieldAddr 27 (.tmp 2) 0, none⟩,
⟨some 6, .load 5 (.tmp 5), none⟩,
⟨some 7, .binOp .eql 5 (.tmp 6) (.const (.int .u8 1)) 5, none⟩,
⟨some 8, .move (.tmp 7), none⟩,
⟨some 9, .fieldAddr 27 (.tmp 3) 0, some (3, false)⟩,
⟨some 10, .load 5 (.tmp 9), some (3, false)⟩,
⟨some 11, .binOp .eql 5 (.tmp 10) (.const (.int .u8 1)) 5, some (3, false)⟩,
⟨some 12, .pick (.tmp 8) (.const (.bool true)) (.tmp 11), none⟩]
def f59_r2 : List LOp := [
⟨some 13, .call ⟨.value (.func 56), #[.const (.int .u8 1)], #[5]⟩, none⟩,
⟨none, .store 27 (.tmp 4) (.tmp 13), none⟩]
def f59_r3 : List LOp := [
⟨some 14, .fieldAddr 27 (.tmp 2) 0, none⟩,
⟨some 15, .load 5 (.tmp 14), none⟩,
⟨some 16, .binOp .eql 5 (.tmp 15) (.const (.int .u8 2)) 5, none⟩]
def f59_r4 : List LOp := [
⟨some 17, .load 27 (.tmp 3), none⟩,
⟨none, .store 27 (.tmp 4) (.tmp 17), none⟩]
def f59_r5 : List LOp := [
⟨some 18, .fieldAddr 27 (.tmp 3) 0, none⟩,
⟨some 19, .load 5 (.tmp 18), none⟩,
⟨some 20, .binOp .eql 5 (.tmp 19) (.const (.int .u8 2)) 5, none⟩]
def f59_r6 : List LOp := [
⟨some 21, .load 27 (.tmp 2), none⟩,
⟨none, .store 27 (.tmp 4) (.tmp 21), none⟩]
def f59_r7 : List LOp := [
⟨some 22, .fieldAddr 27 (.tmp 2) 0, none⟩,
⟨some 23, .load 5 (.tmp 22), none⟩,
⟨some 24, .binOp .eql 5 (.tmp 23) (.const (.int .u8 4)) 5, none⟩]
def f59_r8 : List LOp := [
⟨some 25, .fieldAddr 27 (.tmp 2) 2, none⟩,
⟨some 26, .load 25 (.tmp 25), none⟩,
⟨some 27, .indexAddr 25 (.tmp 26) (.const (.int .i64 0)), none⟩,
⟨some 28, .load 27 (.tmp 27), none⟩,
⟨some 29, .fieldAddr 27 (.tmp 2) 2, none⟩,
⟨some 30, .load 25 (.tmp 29), none⟩,
⟨some 31, .indexAddr 25 (.tmp 30) (.const (.int .i64 1)), none⟩,
⟨some 32, .load 27 (.tmp 31), none⟩,
⟨some 33, .load 27 (.tmp 3), none⟩,
⟨some 34, .call ⟨.value (.func 59), #[.tmp 32, .tmp 33], #[27, 27]⟩, none⟩,
⟨some 35, .call ⟨.value (.func 59), #[.tmp 28, .tmp 34], #[27, 27]⟩, none⟩,
⟨none, .store 27 (.tmp 4) (.tmp 35), none⟩]
def f59_r9 : List LOp := [
⟨some 36, .load 27 (.tmp 2), none⟩,
⟨some 37, .load 27 (.tmp 3), none⟩,
⟨some 38, .call ⟨.value (.func 57), #[.const (.int .u8 4), .tmp 36, .tmp 37], #[5, 27, 27]⟩, none⟩,
⟨none, .store 27 (.tmp 4) (.tmp 38), none⟩]
def f59_c : LC := (.seq (.reg f59_r0 [] none) (.seq (.seq (.reg f59_r1 [] none) (.cond (.tmp 12) (.seq (.reg f59_r2 [] none) .ret) .skip)) (.seq (.seq (.reg f59_r3 [] none) (.cond (.tmp 16) (.seq (.reg f59_r4 [] none) .ret) .skip)) (.seq (.seq (.reg f59_r5 [] none) (.cond (.tmp 20) (.seq (.reg f59_r6 [] none) .ret) .skip)) (.seq (.seq (.reg f59_r7 [] none) (.cond (.tmp 24) (.seq (.reg f59_r8 [] (some 10)) .ret) .skip)) (.seq (.reg f59_r9 [] none) .ret))))))
theorem f59_lc : Tryz.f59.body.map lc = some f59_c.st := by kernel_rfl
theorem f59_res : Tryz.f59.results.toList = [.cell 4 27] := by kernel_rfl
theorem f59_nt : Tryz.f59.ntmps = 39 := by kernel_rfl
theorem f59_nm : (Tryz.f59.name == "runtime.NumGoroutine") = false := by kernel_rfl
def f60_r0 : List LOp := [
⟨some 2, .alloc 27, none⟩]
def f60_r1 : List LOp := [
⟨some 8, .buildSlice 25 0 #[], none⟩,
⟨some 3, .assign (.tmp 8), none⟩]
def f60_r2 : List LOp := [
⟨some 9, .move (.tmp 0), none⟩,
⟨some 10, .call ⟨.builtin .len, #[.tmp 9], #[25]⟩, none⟩,
⟨some 11, .move (.const (.int .i64 0)), none⟩]
def f60_r3 : List LOp := [
⟨some 12, .binOp .lss 3 (.tmp 11) (.tmp 10) 3, none⟩]
def f60_r4 : List LOp := [
⟨some 13, .move (.tmp 11), none⟩,
⟨some 4, .assign (.tmp 13), none⟩]
def f60_r5 : List LOp := [
⟨some 14, .move (.tmp 3), none⟩,
⟨some 15, .move (.tmp 0), none⟩,
⟨some 16, .move (.tmp 4), none⟩,
⟨some 17, .indexAddr 25 (.tmp 15) (.tmp 16), none⟩,
⟨some 18, .load 27 (.tmp 17), none⟩,
⟨some 19, .call ⟨.value (.func 77), #[.tmp 18], #[27]⟩, none⟩,
⟨some 20, .call ⟨.builtin .append, #[.tmp 14, .tmp 19], #[25, 25]⟩, none⟩,
⟨some 3, .assign (.tmp 20), none⟩]
def f60_r6 : List LOp := [
⟨some 21, .binOp .add 3 (.tmp 11) (.const (.int .i64 1)) 3, none⟩,
⟨some 11, .move (.tmp 21), none⟩]
def f60_l7 : LC := (.seq (.reg f60_r3 [] none) (.seq (.cond (.tmp 12) .skip (.exit 0)) (.seq (.block 1 (.seq (.reg f60_r4 [] none) (.reg f60_r5 [] none))) (.reg f60_r6 [] none))))
def f60_i7 (t0 t2 t3 t10 t11 : D) : List D := [t0, .any, t2, t3, .any, .any, .any, .any, .any, .any, t10, t11, .any, .any, .any, .any, .any, .any, .any, .any, .any, .any, .any, .any, .any, .any, .any, .any, .any, .any, .any, .any, .any, .any, .any, .any, .any, .any, .any, .any, .any, .any, .any, .any, .any, .any, .any, .any, .any, .any, .any, .any, .any, .any, .any, .any, .any, .any, .any, .any, .any, .any]
def f60_r8 : List LOp := [
⟨some 22, .build 24 #[], none⟩,
⟨some 5, .alloc 24, none⟩,
⟨none, .store 24 (.tmp 5) (.tmp 22), none⟩]
def f60_r9 : List LOp := [
⟨some 23, .buildSlice 25 0 #[], none⟩,
⟨some 6, .assign (.tmp 23), none⟩]
def f60_r10 : List LOp := [
⟨some 24, .move (.tmp 3), none⟩,
⟨some 25, .call ⟨.builtin .len, #[.tmp 24], #[25]⟩, none⟩,
⟨some 26, .move (.const (.int .i64 0)), none⟩]
def f60_r11 : List LOp := [
⟨some 27, .binOp .lss 3 (.tmp 26) (.tmp 25) 3, none⟩]
def f60_r12 : List LOp := [
⟨some 28, .move (.tmp 26), none⟩,
⟨some 7, .assign (.tmp 28), none⟩]
def f60_r13 : List LOp := [
⟨some 29, .move (.tmp 3), none⟩,
⟨some 30, .move (.tmp 7), none⟩,
⟨some 31, .indexAddr 25 (.tmp 29) (.tmp 30), none⟩,
⟨some 32, .fieldAddr 27 (.tmp 31) 0, none⟩,
⟨some 33, .load 5 (.tmp 32), none⟩,
⟨some 34, .binOp .eql 5 (.tmp 33) (.const (.int .u8 3)) 5, none⟩]
def f60_r14 : List LOp := [
⟨some 35, .load 24 (.tmp 5), none⟩,
⟨some 36, .move (.tmp 3), none⟩,
⟨some 37, .move (.tmp 7), none⟩,
⟨some 38, .indexAddr 25 (.tmp 36) (.tmp 37), none⟩,
⟨some 39, .fieldAddr 27 (.tmp 38) 1, none⟩,
⟨some 40, .load 24 (.tmp 39), none⟩,
⟨some 41, .call ⟨.value (.func 78), #[.tmp 35, .tmp 40], #[24, 24]⟩, none⟩,
⟨none, .store 24 (.tmp 5) (.tmp 41), none⟩]
def f60_r15 : List LOp := [
⟨some 42, .move (.tmp 6), none⟩,
⟨some 43, .move (.tmp 3), none⟩,
⟨some 44, .move (.tmp 7), none⟩,
⟨some 45, .indexAddr 25 (.tmp 43) (.tmp 44), none⟩,
⟨some 46, .load 27 (.tmp 45), none⟩,
⟨some 47, .buildSlice 25 1 #[(0, .tmp 46)], none⟩,
⟨some 48, .call ⟨.builtin .append, #[.tmp 42, .tmp 47], #[25, 25]⟩, none⟩,
⟨some 6, .assign (.tmp 48), none⟩]
def f60_r16 : List LOp := [
⟨some 49, .binOp .add 3 (.tmp 26) (.const (.int .i64 1)) 3, none⟩,
⟨some 26, .move (.tmp 49), none⟩]
def f60_l17 : LC := (.seq (.reg f60_r11 [] none) (.seq (.cond (.tmp 27) .skip (.exit 2)) (.seq (.block 3 (.seq (.reg f60_r12 [] none) (.seq (.reg f60_r13 [] none) (.cond (.tmp 34) (.reg f60_r14 [] (some 6)) (.reg f60_r15 [] none))))) (.reg f60_r16 [] none))))
def f60_i17 (t2 t3 t5 t6 t25 t26 : D) : List D := [.any, .any, t2, t3, .any, t5, t6, .any, .any, .any, .any, .any, .any, .any, .any, .any, .any, .any, .any, .any, .any, .any, .any, .any, .any, t25, t26, .any, .any, .any, .any, .any, .any, .any, .any, .any, .any, .any, .any, .any, .any, .any, .any, .any, .any, .any, .any, .any, .any, .any, .any, .any, .any, .any, .any, .any, .any, .any, .any, .any, .any, .any]
def f60_r18 : List LOp := [
⟨some 50, .load 24 (.tmp 5), none⟩,
⟨some 51, .build 24 #[], none⟩,
⟨some 52, .binOp .neq 24 (.tmp 50) (.tmp 51) 24, none⟩]
def f60_r19 : List LOp := [
⟨some 53, .move (.tmp 6), none⟩,
⟨some 54, .load 24 (.tmp 5), none⟩,
⟨some 55, .call ⟨.value (.func 79), #[.tmp 54], #[24]⟩, none⟩,
⟨some 56, .buildSlice 25 1 #[(0, .tmp 55)], none⟩,
⟨some 57, .call ⟨.builtin .append, #[.tmp 53, .tmp 56], #[25, 25]⟩, none⟩,
⟨some 6, .assign (.tmp 57), none⟩]
def f60_r20 : List LOp := [
⟨some 58, .move (.tmp 6), none⟩,
⟨some 59, .call ⟨.value (.func 82), #[.tmp 58], #[25]⟩, none⟩,
⟨some 60, .call ⟨.value (.func 81), #[.tmp 59], #[25]⟩, none⟩,
⟨some 61, .call ⟨.value (.func 80), #[.const (.int .u8 5), .tmp 60], #[5, 25]⟩, none⟩,
⟨none, .store 27 (.tmp 2) (.tmp 61), none⟩]
def f60_c : LC := (.seq (.reg f60_r0 [] none) (.seq (.reg f60_r1 [0] none) (.seq (.seq (.reg f60_r2 [] none) (.block 0 (.loop f60_l7))) (.seq (.reg f60_r8 [] none) (.seq (.reg f60_r9 [0] none) (.seq (.seq (.reg f60_r10 [] none) (.block 2 (.loop f60_l17))) (.seq (.seq (.reg f60_r18 [] none) (.cond (.tmp 52) (.reg f60_r19 [] none) .skip)) (.seq (.reg f60_r20 [] none) .ret))))))))
theorem f60_lc : Tryz.f60.body.map lc = some f60_c.st := by kernel_rfl
theorem f60_res : Tryz.f60.results.toList = [.cell 2 27] := by kernel_rfl
theorem f60_nt : Tryz.f60.ntmps = 62 := by kernel_rfl
theorem f60_nm : (Tryz.f60.name == "runtime.NumGoroutine") = false := by kernel_rfl
def f61_r0 : List LOp := [
⟨some 1, .box 27 (.tmp 0), none⟩,
⟨some 2, .alloc 27, none⟩]
def f61_r1 : List LOp := [
⟨some 3, .fieldAddr 27 (.tmp 1) 0, none⟩,
⟨some 4, .load 5 (.tmp 3), none⟩,
⟨some 5, .binOp .eql 5 (.tmp 4) (.const (.int .u8 1)) 5, none⟩,
⟨some 6, .move (.tmp 5), none⟩,
⟨some 7, .fieldAddr 27 (.tmp 1) 0, some (3, false)⟩,
⟨some 8, .load 5 (.tmp 7), some (3, false)⟩,
⟨some 9, .binOp .eql 5 (.tmp 8) (.const (.int .u8 2)) 5, some (3, false)⟩,
⟨some 10, .pick (.tmp 6) (.const (.bool true)) (.tmp 9), none⟩]
def f61_r2 : List LOp := [
⟨some 11, .call ⟨.value (.func 56), #[.const (.int .u8 2)], #[5]⟩, none⟩,
⟨none, .store 27 (.tmp 2) (.tmp 11), none⟩]
def f61_r3 : List LOp := [
⟨some 12, .fieldAddr 27 (.tmp 1) 0, none⟩,
⟨some 13, .load 5 (.tmp 12), none⟩,
⟨some 14, .binOp .eql 5 (.tmp 13) (.const (.int .u8 6)) 5, none⟩]
def f61_r4 : List LOp := [
⟨some 15, .load 27 (.tmp 1), none⟩,
⟨none, .store 27 (.tmp 2) (.tmp 15), none⟩]
def f61_r5 : List LOp := [
⟨some 16, .load 27 (.tmp 1), none⟩,
⟨some 17, .call ⟨.value (.func 83), #[.tmp 16], #[27]⟩, none⟩,
⟨none, .store 27 (.tmp 2) (.tmp 17), none⟩]
def f61_c : LC := (.seq (.reg f61_r0 [] none) (.seq (.seq (.reg f61_r1 [] none) (.cond (.tmp 10) (.seq (.reg f61_r2 [] none) .ret) .skip)) (.seq (.seq (.reg f61_r3 [] none) (.cond (.tmp 14) (.seq (.reg f61_r4 [] none) .ret) .skip)) (.seq (.reg f61_r5 [] none) .ret))))
theorem f61_lc : Tryz.f61.body.map lc = some f61_c.st := by kernel_rfl
theorem f61_res : Tryz.f61.results.toList = [.cell 2 27] := by kernel_rfl
theorem f61_nt : Tryz.f61.ntmps = 18 := by kernel_rfl
theorem f61_nm : (Tryz.f61.name == "runtime.NumGoroutine") = false := by kernel_rfl
def f74_r0 : List LOp := [
⟨some 2, .box 27 (.tmp 0), none⟩,
⟨some 3, .box 27 (.tmp 1), none⟩,
⟨some 4, .alloc 27, none⟩]
def f74_r1 : List LOp := [
⟨some 6, .fieldAddr 27 (.tmp 2) 0, none⟩,
⟨some 7, .load 5 (.tmp 6), none⟩,
⟨some 8, .binOp .eql 5 (.tmp 7) (.const (.int .u8 1)) 5, none⟩,
⟨some 9, .move (.tmp 8), none⟩,
⟨some 10, .fieldAddr 27 (.tmp 3) 0, some (3, false)⟩,
⟨some 11, .load 5 (.tmp 10), some (3, false)⟩,
⟨some 12, .binOp .eql 5 (.tmp 11) (.const (.int .u8 1)) 5, some (3, false)⟩,
⟨some 13, .pick (.tmp 9) (.const (.bool true)) (.tmp 12), none⟩,
⟨some 5, .assign (.tmp 13), none⟩]
def f74_r2 : List LOp := [
⟨some 14, .call ⟨.value (.func 53), #[.const (.slice none 0 0)], #[25]⟩, none⟩,
⟨none, .store 27 (.tmp 4) (.tmp 14), none⟩]
def f74_r3 : List LOp := [
⟨some 16, .fieldAddr 27 (.tmp 2) 0, none⟩,
⟨some 17, .load 5 (.tmp 16), none⟩,
⟨some 18, .binOp .eql 5 (.tmp 17) (.const (.int .u8 2)) 5, none⟩,
⟨some 15, .assign (.tmp 18), none⟩]
def f74_r4 : List LOp := [
⟨some 19, .load 27 (.tmp 3), none⟩,
⟨none, .store 27 (.tmp 4) (.tmp 19), none⟩]
def f74_r5 : List LOp := [
⟨some 21, .fieldAddr 27 (.tmp 3) 0, none⟩,
⟨some 22, .load 5 (.tmp 21), none⟩,
⟨some 23, .binOp .eql 5 (.tmp 22) (.const (.int .u8 2)) 5, none⟩,
⟨some 20, .assign (.tmp 23), none⟩]
def f74_r6 : List LOp := [
⟨some 24, .load 27 (.tmp 2), none⟩,
⟨none, .store 27 (.tmp 4) (.tmp 24), none⟩]
def f74_r7 : List LOp := [
⟨some 26, .fieldAddr 27 (.tmp 2) 0, none⟩,
⟨some 27, .load 5 (.tmp 26), none⟩,
⟨some 28, .binOp .eql 5 (.tmp 27) (.const (.int .u8 4)) 5, none⟩,
⟨some 25, .assign (.tmp 28), none⟩]
def f74_r8 : List LOp := [
⟨some 29, .fieldAddr 27 (.tmp 2) 2, none⟩,
⟨some 30, .load 25 (.tmp 29), none⟩,
⟨some 31, .indexAddr 25 (.tmp 30) (.const (.int .i64 0)), none⟩,
⟨some 32, .load 27 (.tmp 31), none⟩,
⟨some 33, .fieldAddr 27 (.tmp 2) 2, none⟩,
⟨some 34, .load 25 (.tmp 33), none⟩,
⟨some 35, .indexAddr 25 (.tmp 34) (.const (.int .i64 1)), none⟩,
⟨some 36, .load 27 (.tmp 35), none⟩,
⟨some 37, .load 27 (.tmp 3), none⟩,
⟨some 38, .call ⟨.value (.func 74), #[.tmp 36, .tmp 37], #[27, 27]⟩, none⟩,
⟨some 39, .call ⟨.value (.func 74), #[.tmp 32, .tmp 38], #[27, 27]⟩, none⟩,
⟨none, .store 27 (.tmp 4) (.tmp 39), none⟩]
def f74_r9 : List LOp := [
⟨some 40, .load 27 (.tmp 2), none⟩,
⟨some 41, .load 27 (.tmp 3), none⟩,
⟨some 42, .buildSlice 25 2 #[(0, .tmp 40), (1, .tmp 41)], none⟩,
⟨some 43, .call ⟨.value (.func 52), #[.tmp 42], #[25]⟩, none⟩,
⟨none, .store 27 (.tmp 4) (.tmp 43), none⟩]
def f74_c : LC := (.seq (.reg f74_r0 [] none) (.seq (.block 0 (.seq (.reg f74_r1 [] none) (.cond (.tmp 5) (.seq (.reg f74_r2 [] none) .ret) (.seq (.reg f74_r3 [] none) (.cond (.tmp 15) (.seq (.reg f74_r4 [] none) .ret) (.seq (.reg f74_r5 [] none) (.cond (.tmp 20) (.seq (.reg f74_r6 [] none) .ret) (.seq (.reg f74_r7 [] none) (.cond (.tmp 25) (.seq (.reg f74_r8 [] (some 10)) .ret) .skip))))))))) (.seq (.reg f74_r9 [] none) .ret)))
theorem f74_lc : Tryz.f74.body.map lc = some f74_c.st := by kernel_rfl
theorem f74_res : Tryz.f74.results.toList = [.cell 4 27] := by kernel_rfl
theorem f74_nt : Tryz.f74.ntmps = 44 := by kernel_rfl
theorem f74_nm : (Tryz.f74.name == "runtime.NumGoroutine") = false := by kernel_rfl
def f75_r0 : List LOp := [
⟨some 2, .alloc 27, none⟩]
def f75_r1 : List LOp := [
⟨some 3, .alloc 24, none⟩]
def f75_r2 : List LOp := [
⟨some 5, .move (.tmp 0), none⟩,
⟨some 6, .call ⟨.value (.func 95), #[.tmp 5], #[25]⟩, none⟩,
⟨some 7, .makeFunc (.func 96) #[] #[.tmp 3], none⟩,
⟨some 8, .call ⟨.value (.func 94), #[.tmp 6, .tmp 7], #[25, 59]⟩, none⟩,
⟨some 4, .assign (.tmp 8), none⟩]
def f75_r3 : List LOp := [
⟨some 9, .load 24 (.tmp 3), none⟩,
⟨some 10, .build 24 #[], none⟩,
⟨some 11, .binOp .neq 24 (.tmp 9) (.tmp 10) 24, none⟩]
def f75_r4 : List LOp := [
⟨some 12, .move (.tmp 4), none⟩,
⟨some 13, .load 24 (.tmp 3), none⟩,
⟨some 14, .call ⟨.value (.func 98), #[.tmp 13], #[24]⟩, none⟩,
⟨some 15, .buildSlice 25 1 #[(0, .tmp 14)], none⟩,
⟨some 16, .call ⟨.builtin .append, #[.tmp 12, .tmp 15], #[25, 25]⟩, none⟩,
⟨some 4, .assign (.tmp 16), none⟩]
def f75_r5 : List LOp := [
⟨some 17, .move (.tmp 4), none⟩,
⟨some 18, .call ⟨.value (.func 100), #[.tmp 17], #[25]⟩, none⟩,
⟨some 19, .call ⟨.value (.func 99), #[.tmp 18], #[25]⟩, none⟩,
⟨some 20, .call ⟨.value (.func 53), #[.tmp 19], #[25]⟩, none⟩,
⟨none, .store 27 (.tmp 2) (.tmp 20), none⟩]
def f75_c : LC := (.seq (.reg f75_r0 [] none) (.seq (.reg f75_r1 [] none) (.seq (.reg f75_r2 [] none) (.seq (.seq (.reg f75_r3 [] none) (.cond (.tmp 11) (.reg f75_r4 [] none) .skip)) (.seq (.reg f75_r5 [] none) .ret)))))
theorem f75_lc : Tryz.f75.body.map lc = some f75_c.st := by kernel_rfl
theorem f75_res : Tryz.f75.results.toList = [.cell 2 27] := by kernel_rfl
theorem f75_nt : Tryz.f75.ntmps = 21 := by kernel_rfl
theorem f75_nm : (Tryz.f75.name == "runtime.NumGoroutine") = false := by kernel_rfl
def f76_r0 : List LOp := [
⟨some 1, .box 27 (.tmp 0), none⟩,
⟨some 2, .alloc 27, none⟩]
def f76_r1 : List LOp := [
⟨some 3, .fieldAddr 27 (.tmp 1) 0, none⟩,
⟨some 4, .load 5 (.tmp 3), none⟩]
def f76_r2 : List LOp := [
⟨some 6, .binOp .eql 5 (.tmp 4) (.const (.int .u8 1)) 5, none⟩,
⟨some 5, .assign (.tmp 6), none⟩]
def f76_r3 : List LOp := [
⟨some 7, .binOp .eql 5 (.tmp 4) (.const (.int .u8 2)) 5, none⟩,
⟨some 5, .assign (.tmp 7), none⟩]
def f76_r4 : List LOp := [
⟨some 8, .call ⟨.value (.func 52), #[.const (.slice none 0 0)], #[25]⟩, none⟩,
⟨none, .store 27 (.tmp 2) (.tmp 8), none⟩]
def f76_r5 : List LOp := [
⟨some 10, .binOp .eql 5 (.tmp 4) (.const (.int .u8 6)) 5, none⟩,
⟨some 9, .assign (.tmp 10), none⟩]
def f76_r6 : List LOp := [
⟨some 11, .load 27 (.tmp 1), none⟩,
⟨none, .store 27 (.tmp 2) (.tmp 11), none⟩]
def f76_r7 : List LOp := [
⟨some 12, .load 27 (.tmp 1), none⟩,
⟨some 13, .call ⟨.value (.func 101), #[.tmp 12], #[27]⟩, none⟩,
⟨none, .store 27 (.tmp 2) (.tmp 13), none⟩]
def f76_c : LC := (.seq (.reg f76_r0 [] none) (.seq (.seq (.reg f76_r1 [] none) (.block 0 (.seq (.seq (.reg f76_r2 [] none) (.cond (.tmp 5) .skip (.reg f76_r3 [] none))) (.cond (.tmp 5) (.seq (.reg f76_r4 [] none) .ret) (.seq (.reg f76_r5 [] none) (.cond (.tmp 9) (.seq (.reg f76_r6 [] none) .ret) .skip)))))) (.seq (.reg f76_r7 [] none) .ret)))
theorem f76_lc : Tryz.f76.body.map lc = some f76_c.st := by kernel_rfl
theorem f76_res : Tryz.f76.results.toList = [.cell 2 27] := by kernel_rfl
theorem f76_nt : Tryz.f76.ntmps = 14 := by kernel_rfl
theorem f76_nm : (Tryz.f76.name == "runtime.NumGoroutine") = false := by kernel_rfl
def f77_r0 : List LOp := [
⟨some 1, .box 27 (.tmp 0), none⟩,
⟨some 2, .assign (.const (.slice none 0 0)), none⟩]
def f77_r1 : List LOp := [
⟨some 3, .fieldAddr 27 (.tmp 1) 0, none⟩,
⟨some 4, .load 5 (.tmp 3), none⟩,
⟨some 5, .binOp .eql 5 (.tmp 4) (.const (.int .u8 1)) 5, none⟩]
def f77_r2 : List LOp := [
⟨some 6, .buildSlice 25 0 #[], none⟩,
⟨some 2, .assign (.tmp 6), none⟩]
def f77_r3 : List LOp := [
⟨some 7, .fieldAddr 27 (.tmp 1) 0, none⟩,
⟨some 8, .load 5 (.tmp 7), none⟩,
⟨some 9, .binOp .eql 5 (.tmp 8) (.const (.int .u8 5)) 5, none⟩]
def f77_r4 : List LOp := [
⟨some 10, .fieldAddr 27 (.tmp 1) 2, none⟩,
⟨some 11, .load 25 (.tmp 10), none⟩,
⟨some 12, .indexAddr 25 (.tmp 11) (.const (.int .i64 0)), none⟩,
⟨some 13, .load 27 (.tmp 12), none⟩,
⟨some 14, .call ⟨.value (.func 77), #[.tmp 13], #[27]⟩, none⟩,
⟨some 15, .fieldAddr 27 (.tmp 1) 2, none⟩,
⟨some 16, .load 25 (.tmp 15), none⟩,
⟨some 17, .indexAddr 25 (.tmp 16) (.const (.int .i64 1)), none⟩,
⟨some 18, .load 27 (.tmp 17), none⟩,
⟨some 19, .call ⟨.value (.func 77), #[.tmp 18], #[27]⟩, none⟩,
⟨some 20, .call ⟨.builtin .append, #[.tmp 14, .tmp 19], #[25, 25]⟩, none⟩,
⟨some 2, .assign (.tmp 20), none⟩]
def f77_r5 : List LOp := [
⟨some 21, .load 27 (.tmp 1), none⟩,
⟨some 22, .buildSlice 25 1 #[(0, .tmp 21)], none⟩,
⟨some 2, .assign (.tmp 22), none⟩]
def f77_c : LC := (.seq (.reg f77_r0 [] none) (.seq (.seq (.reg f77_r1 [] none) (.cond (.tmp 5) (.seq (.reg f77_r2 [0] none) .ret) .skip)) (.seq (.seq (.reg f77_r3 [] none) (.cond (.tmp 9) (.seq (.reg f77_r4 [] (some 9)) .ret) .skip)) (.seq (.reg f77_r5 [1] none) .ret))))
theorem f77_lc : Tryz.f77.body.map lc = some f77_c.st := by kernel_rfl
theorem f77_res : Tryz.f77.results.toList = [.tmp 2] := by kernel_rfl
theorem f77_nt : Tryz.f77.ntmps = 23 := by kernel_rfl
theorem f77_nm : (Tryz.f77.name == "runtime.NumGoroutine") = false := by kernel_rfl
def f78_r0 : List LOp := [
⟨some 2, .box 24 (.tmp 0), none⟩,
⟨some 3, .box 24 (.tmp 1), none⟩,
⟨some 4, .alloc 24, none⟩]
def f78_r1 : List LOp := [
⟨some 7, .load 24 (.tmp 2), none⟩,
⟨some 5, .alloc 24, none⟩,
⟨none, .store 24 (.tmp 5) (.tmp 7), none⟩]
def f78_r2 : List LOp := [
⟨some 6, .assign (.const (.int .i64 0)), none⟩]
def f78_r3 : List LOp := [
⟨some 8, .move (.tmp 6), none⟩,
⟨some 9, .binOp .lss 3 (.tmp 8) (.const (.int .i64 256)) 3, none⟩]
def f78_r4 : List LOp := [
⟨some 12, .load 24 (.tmp 3), none⟩,
⟨some 13, .move (.tmp 6), none⟩,
⟨some 14, .call ⟨.value (.func 55), #[.tmp 12, .tmp 13], #[24, 3]⟩, none⟩]
def f78_r5 : List LOp := [
⟨some 15, .load 24 (.tmp 5), none⟩,
⟨some 16, .move (.tmp 6), none⟩,
⟨some 17, .call ⟨.value (.func 102), #[.tmp 15, .tmp 16], #[24, 3]⟩, none⟩,
⟨none, .store 24 (.tmp 5) (.tmp 17), none⟩]
def f78_r6 : List LOp := [
⟨some 10, .move (.tmp 6), none⟩,
⟨some 11, .binOp .add 3 (.tmp 10) (.const (.int .i64 1)) 3, none⟩,
⟨some 6, .assign (.tmp 11), none⟩]
def f78_l7 : LC := (.seq (.seq (.reg f78_r3 [] none) (.cond (.tmp 9) .skip (.exit 0))) (.seq (.block 1 (.seq (.reg f78_r4 [] none) (.cond (.tmp 14) (.reg f78_r5 [] none) .skip))) (.reg f78_r6 [] none)))
def f78_i7 (t3 t4 t5 t6 : D) : List D := [.any, .any, .any, t3, t4, t5, t6, .any, .any, .any, .any, .any, .any, .any, .any, .any, .any, .any, .any]
def f78_r8 : List LOp := [
⟨some 18, .load 24 (.tmp 5), none⟩,
⟨none, .store 24 (.tmp 4) (.tmp 18), none⟩]
def f78_c : LC := (.seq (.reg f78_r0 [] none) (.seq (.reg f78_r1 [] none) (.seq (.seq (.reg f78_r2 [] none) (.block 0 (.loop f78_l7))) (.seq (.reg f78_r8 [] none) .ret))))
theorem f78_lc : Tryz.f78.body.map lc = some f78_c.st := by kernel_rfl
theorem f78_res : Tryz.f78.results.toList = [.cell 4 24] := by kernel_rfl
theorem f78_nt : Tryz.f78.ntmps = 19 := by kernel_rfl
theorem f78_nm : (Tryz.f78.name == "runtime.NumGoroutine") = false := by kernel_rfl
def f79_r0 : List LOp := [
⟨some 1, .box 24 (.tmp 0), none⟩,
⟨some 2, .alloc 27, none⟩]
def f79_r1 : List LOp := [
⟨some 3, .load 24 (.tmp 1), none⟩,
⟨some 4, .build 24 #[], none⟩,
⟨some 5, .binOp .eql 24 (.tmp 3) (.tmp 4) 24, none⟩]
def f79_r2 : List LOp := [
⟨some 6, .call ⟨.value (.func 56), #[.const (.int .u8 1)], #[5]⟩, none⟩,
⟨none, .store 27 (.tmp 2) (.tmp 6), none⟩]
def f79_r3 : List LOp := [
⟨some 7, .load 24 (.tmp 1), none⟩,
⟨some 8, .build 27 #[(0, .const (.int .u8 3)), (1, .tmp 7)], none⟩,
⟨none, .store 27 (.tmp 2) (.tmp 8), none⟩]
def f79_c : LC := (.seq (.reg f79_r0 [] none) (.seq (.seq (.reg f79_r1 [] none) (.cond (.tmp 5) (.seq (.reg f79_r2 [] none) .ret) .skip)) (.seq (.reg f79_r3 [] none) .ret)))
theorem f79_lc : Tryz.f79.body.map lc = some f79_c.st := by kernel_rfl
theorem f79_res : Tryz.f79.results.toList = [.cell 2 27] := by kernel_rfl
theorem f79_nt : Tryz.f79.ntmps = 9 := by kernel_rfl
theorem f79_nm : (Tryz.f79.name == "runtime.NumGoroutine") = false := by kernel_rfl
def f80_r0 : List LOp := [
⟨some 4, .alloc 27, none⟩]
def f80_r1 : List LOp := [
⟨some 5, .move (.tmp 1), none⟩,
⟨some 6, .call ⟨.builtin .len, #[.tmp 5], #[25]⟩, none⟩,
⟨some 7, .binOp .eql 3 (.tmp 6) (.const (.int .i64 0)) 3, none⟩]
def f80_r2 : List LOp := [
⟨some 8, .move (.tmp 0), none⟩,
⟨some 9, .binOp .eql 5 (.tmp 8) (.const (.int .u8 4)) 5, none⟩]
def f80_r3 : List LOp := [
⟨some 10, .call ⟨.value (.func 56), #[.const (.int .u8 2)], #[5]⟩, none⟩,
⟨none, .store 27 (.tmp 4) (.tmp 10), none⟩]
def f80_r4 : List LOp := [
⟨some 11, .call ⟨.value (.func 56), #[.const (.int .u8 1)], #[5]⟩, none⟩,
⟨none, .store 27 (.tmp 4) (.tmp 11), none⟩]
def f80_r5 : List LOp := [
⟨some 12, .move (.tmp 1), none⟩,
⟨some 13, .call ⟨.builtin .len, #[.tmp 12], #[25]⟩, none⟩,
⟨some 14, .binOp .eql 3 (.tmp 13) (.const (.int .i64 1)) 3, none⟩]
def f80_r6 : List LOp := [
⟨some 15, .move (.tmp 1), none⟩,
⟨some 16, .indexAddr 25 (.tmp 15) (.const (.int .i64 0)), none⟩,
⟨some 17, .load 27 (.tmp 16), none⟩,
⟨none, .store 27 (.tmp 4) (.tmp 17), none⟩]
def f80_r7 : List LOp := [
⟨some 18, .move (.tmp 0), none⟩,
⟨some 19, .move (.tmp 1), none⟩,
⟨some 20, .indexAddr 25 (.tmp 19) (.const (.int .i64 0)), none⟩,
⟨some 21, .load 27 (.tmp 20), none⟩,
⟨some 22, .move (.tmp 0), none⟩,
⟨some 23, .move (.tmp 1), none⟩,
⟨some 24, .slice 25 (.tmp 23) (some (.const (.int .i64 1))) none none, none⟩,
⟨some 25, .call ⟨.value (.func 80), #[.tmp 22, .tmp 24], #[5, 25]⟩, none⟩,
⟨some 26, .call ⟨.value (.func 57), #[.tmp 18, .tmp 21, .tmp 25], #[5, 27, 27]⟩, none⟩,
⟨none, .store 27 (.tmp 4) (.tmp 26), none⟩]
def f80_c : LC := (.seq (.reg f80_r0 [] none) (.seq (.seq (.reg f80_r1 [] none) (.cond (.tmp 7) (.seq (.seq (.reg f80_r2 [] none) (.cond (.tmp 9) (.seq (.reg f80_r3 [] none) .ret) .skip)) (.seq (.reg f80_r4 [] none) .ret)) .skip)) (.seq (.seq (.reg f80_r5 [] none) (.cond (.tmp 14) (.seq (.reg f80_r6 [] none) .ret) .skip)) (.seq (.reg f80_r7 [] (some 8)) .ret))))
theorem f80_lc : Tryz.f80.body.map lc = some f80_c.st := by kernel_rfl
theorem f80_res : Tryz.f80.results.toList = [.cell 4 27] := by kernel_rfl
theorem f80_nt : Tryz.f80.ntmps = 27 := by kernel_rfl
theorem f80_nm : (Tryz.f80.name == "runtime.NumGoroutine") = false := by kernel_rfl
def f81_r0 : List LOp := [
⟨some 2, .assign (.const (.slice none 0 0)), none⟩]
def f81_r1 : List LOp := [
⟨some 5, .buildSlice 25 0 #[], none⟩,
⟨some 3, .assign (.tmp 5), none⟩]
def f81_r2 : List LOp := [
⟨some 6, .move (.tmp 0), none⟩,
⟨some 7, .call ⟨.builtin .len, #[.tmp 6], #[25]⟩, none⟩,
⟨some 8, .move (.const (.int .i64 0)), none⟩]
def f81_r3 : List LOp := [
⟨some 9, .binOp .lss 3 (.tmp 8) (.tmp 7) 3, none⟩]
def f81_r4 : List LOp := [
⟨some 10, .move (.tmp 8), none⟩,
⟨some 4, .assign (.tmp 10), none⟩]
def f81_r5 : List LOp := [
⟨some 11, .move (.tmp 3), none⟩,
⟨some 12, .move (.tmp 0), none⟩,
⟨some 13, .move (.tmp 4), none⟩,
⟨some 14, .indexAddr 25 (.tmp 12) (.tmp 13), none⟩,
⟨some 15, .load 27 (.tmp 14), none⟩,
⟨some 16, .call ⟨.value (.func 103), #[.tmp 11, .tmp 15], #[25, 27]⟩, none⟩,
⟨some 17, .unOp .not 4 (.tmp 16), none⟩]
def f81_r6 : List LOp := [
⟨some 18, .move (.tmp 3), none⟩,
⟨some 19, .move (.tmp 0), none⟩,
⟨some 20, .move (.tmp 4), none⟩,
⟨some 21, .indexAddr 25 (.tmp 19) (.tmp 20), none⟩,
⟨some 22, .load 27 (.tmp 21), none⟩,
⟨some 23, .buildSlice 25 1 #[(0, .tmp 22)], none⟩,
⟨some 24, .call ⟨.builtin .append, #[.tmp 18, .tmp 23], #[25, 25]⟩, none⟩,
⟨some 3, .assign (.tmp 24), none⟩]
def f81_r7 : List LOp := [
⟨some 25, .binOp .add 3 (.tmp 8) (.const (.int .i64 1)) 3, none⟩,
⟨some 8, .move (.tmp 25), none⟩]
def f81_l8 : LC := (.seq (.reg f81_r3 [] none) (.seq (.cond (.tmp 9) .skip (.exit 0)) (.seq (.block 1 (.seq (.reg f81_r4 [] none) (.seq (.reg f81_r5 [] none) (.cond (.tmp 17) (.reg f81_r6 [] none) .skip)))) (.reg f81_r7 [] none))))
def f81_i8 (t0 t3 t7 t8 : D) : List D := [t0, .any, .any, t3, .any, .any, .any, t7, t8, .any, .any, .any, .any, .any, .any, .any, .any, .any, .any, .any, .any, .any, .any, .any, .any, .any, .any]
def f81_r9 : List LOp := [
⟨some 26, .move (.tmp 3), none⟩,
⟨some 2, .assign (.tmp 26), none⟩]
def f81_c : LC := (.seq (.reg f81_r0 [] none) (.seq (.reg f81_r1 [0] none) (.seq (.seq (.reg f81_r2 [] none) (.block 0 (.loop f81_l8))) (.seq (.reg f81_r9 [] none) .ret))))
theorem f81_lc : Tryz.f81.body.map lc = some f81_c.st := by kernel_rfl
theorem f81_res : Tryz.f81.results.toList = [.tmp 2] := by kernel_rfl
theorem f81_nt : Tryz.f81.ntmps = 27 := by kernel_rfl
theorem f81_nm : (Tryz.f81.name == "runtime.NumGoroutine") = false := by kernel_rfl
def f82_r0 : List LOp := [
⟨some 2, .assign (.const (.slice none 0 0)), none⟩]
def f82_r1 : List LOp := [
⟨some 8, .buildSlice 25 0 #[], none⟩,
⟨some 3, .assign (.tmp 8), none⟩]
def f82_r2 : List LOp := [
⟨some 9, .move (.tmp 0), none⟩,
⟨some 10, .call ⟨.builtin .len, #[.tmp 9], #[25]⟩, none⟩,
⟨some 11, .move (.const (.int .i64 0)), none⟩]
def f82_r3 : List LOp := [
⟨some 12, .binOp .lss 3 (.tmp 11) (.tmp 10) 3, none⟩]
def f82_r4 : List LOp := [
⟨some 13, .move (.tmp 11), none⟩,
⟨some 4, .assign (.tmp 13), none⟩]
def f82_r5 : List LOp := [
⟨some 14, .buildSlice 25 0 #[], none⟩,
⟨some 5, .assign (.tmp 14), none⟩]
def f82_r6 : List LOp := [
⟨some 6, .assign (.const (.bool false)), none⟩]
def f82_r7 : List LOp := [
⟨some 15, .move (.tmp 3), none⟩,
⟨some 16, .call ⟨.builtin .len, #[.tmp 15], #[25]⟩, none⟩,
⟨some 17, .move (.const (.int .i64 0)), none⟩]
def f82_r8 : List LOp := [
⟨some 18, .binOp .lss 3 (.tmp 17) (.tmp 16) 3, none⟩]
def f82_r9 : List LOp := [
⟨some 19, .move (.tmp 17), none⟩,
⟨some 7, .assign (.tmp 19), none⟩]
def f82_r10 : List LOp := [
⟨some 20, .move (.tmp 6), none⟩,
⟨some 21, .unOp .not 4 (.tmp 20), none⟩,
⟨some 22, .move (.tmp 21), none⟩,
⟨some 23, .move (.tmp 0), some (2, true)⟩,
⟨some 24, .move (.tmp 4), some (2, true)⟩,
⟨some 25, .indexAddr 25 (.tmp 23) (.tmp 24), some (2, true)⟩,
⟨some 26, .load 27 (.tmp 25), some (2, true)⟩,
⟨some 27, .move (.tmp 3), some (2, true)⟩,
⟨some 28, .move (.tmp 7), some (2, true)⟩,
⟨some 29, .indexAddr 25 (.tmp 27) (.tmp 28), some (2, true)⟩,
⟨some 30, .load 27 (.tmp 29), some (2, true)⟩,
⟨some 31, .call ⟨.value (.func 104), #[.tmp 26, .tmp 30], #[27, 27]⟩, some (2, true)⟩,
⟨some 32, .binOp .lss 3 (.tmp 31) (.const (.int .i64 0)) 3, some (2, true)⟩,
⟨some 33, .pick (.tmp 22) (.tmp 32) (.const (.bool false)), none⟩]
def f82_r11 : List LOp := [
⟨some 34, .move (.tmp 5), none⟩,
⟨some 35, .move (.tmp 0), none⟩,
⟨some 36, .move (.tmp 4), none⟩,
⟨some 37, .indexAddr 25 (.tmp 35) (.tmp 36), none⟩,
⟨some 38, .load 27 (.tmp 37), none⟩,
⟨some 39, .buildSlice 25 1 #[(0, .tmp 38)], none⟩,
⟨some 40, .call ⟨.builtin .append, #[.tmp 34, .tmp 39], #[25, 25]⟩, none⟩,
⟨some 5, .assign (.tmp 40), none⟩]
def f82_r12 : List LOp := [
⟨some 6, .assign (.const (.bool true)), none⟩]
def f82_r13 : List LOp := [
⟨some 41, .move (.tmp 5), none⟩,
⟨some 42, .move (.tmp 3), none⟩,
⟨some 43, .move (.tmp 7), none⟩,
⟨some 44, .indexAddr 25 (.tmp 42) (.tmp 43), none⟩,
⟨some 45, .load 27 (.tmp 44), none⟩,
⟨some 46, .buildSlice 25 1 #[(0, .tmp 45)], none⟩,
⟨some 47, .call ⟨.builtin .append, #[.tmp 41, .tmp 46], #[25, 25]⟩, none⟩,
⟨some 5, .assign (.tmp 47), none⟩]
def f82_r14 : List LOp := [
⟨some 48, .binOp .add 3 (.tmp 17) (.const (.int .i64 1)) 3, none⟩,
⟨some 17, .move (.tmp 48), none⟩]
def f82_l15 : LC := (.seq (.reg f82_r8 [] none) (.seq (.cond (.tmp 18) .skip (.exit 2)) (.seq (.block 3 (.seq (.reg f82_r9 [] none) (.seq (.seq (.reg f82_r10 [] (some 11)) (.cond (.tmp 33) (.seq (.reg f82_r11 [] none) (.reg f82_r12 [] none)) .skip)) (.reg f82_r13 [] none)))) (.reg f82_r14 [] none))))
def f82_i15 (t0 t3 t4 t5 t6 t10 t11 t16 t17 : D) : List D := [t0, .any, .any, t3, t4, t5, t6, .any, .any, .any, t10, t11, .any, .any, .any, .any, t16, t17, .any, .any, .any, .any, .any, .any, .any, .any, .any, .any, .any, .any, .any, .any, .any, .any, .any, .any, .any, .any, .any, .any, .any, .any, .any, .any, .any, .any, .any, .any, .any, .any, .any, .any, .any, .any, .any, .any, .any, .any, .any, .any, .any]
def f82_r16 : List LOp := [
⟨some 49, .move (.tmp 6), none⟩,
⟨some 50, .unOp .not 4 (.tmp 49), none⟩]
def f82_r17 : List LOp := [
⟨some 51, .move (.tmp 5), none⟩,
⟨some 52, .move (.tmp 0), none⟩,
⟨some 53, .move (.tmp 4), none⟩,
⟨some 54, .indexAddr 25 (.tmp 52) (.tmp 53), none⟩,
⟨some 55, .load 27 (.tmp 54), none⟩,
⟨some 56, .buildSlice 25 1 #[(0, .tmp 55)], none⟩,
⟨some 57, .call ⟨.builtin .append, #[.tmp 51, .tmp 56], #[25, 25]⟩, none⟩,
⟨some 5, .assign (.tmp 57), none⟩]
def f82_r18 : List LOp := [
⟨some 58, .move (.tmp 5), none⟩,
⟨some 3, .assign (.tmp 58), none⟩]
def f82_r19 : List LOp := [
⟨some 59, .binOp .add 3 (.tmp 11) (.const (.int .i64 1)) 3, none⟩,
⟨some 11, .move (.tmp 59), none⟩]
def f82_l20 : LC := (.seq (.reg f82_r3 [] none) (.seq (.cond (.tmp 12) .skip (.exit 0)) (.seq (.block 1 (.seq (.reg f82_r4 [] none) (.seq (.reg f82_r5 [0] none) (.seq (.reg f82_r6 [] none) (.seq (.seq (.reg f82_r7 [] none) (.block 2 (.loop f82_l15))) (.seq (.seq (.reg f82_r16 [] none) (.cond (.tmp 50) (.reg f82_r17 [] none) .skip)) (.reg f82_r18 [] none))))))) (.reg f82_r19 [] none))))
def f82_i20 (t0 t3 t10 t11 : D) : List D := [t0, .any, .any, t3, .any, .any, .any, .any, .any, .any, t10, t11, .any, .any, .any, .any, .any, .any, .any, .any, .any, .any, .any, .any, .any, .any, .any, .any, .any, .any, .any, .any, .any, .any, .any, .any, .any, .any, .any, .any, .any, .any, .any, .any, .any, .any, .any, .any, .any, .any, .any, .any, .any, .any, .any, .any, .any, .any, .any, .any, .any]
def f82_r21 : List LOp := [
⟨some 60, .move (.tmp 3), none⟩,
⟨some 2, .assign (.tmp 60), none⟩]
def f82_c : LC := (.seq (.reg f82_r0 [] none) (.seq (.reg f82_r1 [0] none) (.seq (.seq (.reg f82_r2 [] none) (.block 0 (.loop f82_l20))) (.seq (.reg f82_r21 [] none) .ret))))
theorem f82_lc : Tryz.f82.body.map lc = some f82_c.st := by kernel_rfl
theorem f82_res : Tryz.f82.results.toList = [.tmp 2] := by kernel_rfl
theorem f82_nt : Tryz.f82.ntmps = 61 := by kernel_rfl
theorem f82_nm : (Tryz.f82.name == "runtime.NumGoroutine") = false := by kernel_rfl
def f83_r0 : List LOp := [
⟨some 1, .box 27 (.tmp 0), none⟩,
⟨some 2, .alloc 27, none⟩]
def f83_r1 : List LOp := [
⟨some 3, .load 27 (.tmp 1), none⟩,
⟨some 4, .buildSlice 25 1 #[(0, .tmp 3)], none⟩,
⟨some 5, .build 27 #[(0, .const (.int .u8 6)), (2, .tmp 4)], none⟩,
⟨none, .store 27 (.tmp 2) (.tmp 5), none⟩]
def f83_c : LC := (.seq (.reg f83_r0 [] none) (.seq (.reg f83_r1 [] none) .ret))
theorem f83_lc : Tryz.f83.body.map lc = some f83_c.st := by kernel_rfl
theorem f83_res : Tryz.f83.results.toList = [.cell 2 27] := by kernel_rfl
theorem f83_nt : Tryz.f83.ntmps = 6 := by kernel_rfl
theorem f83_nm : (Tryz.f83.name == "runtime.NumGoroutine") = false := by kernel_rfl
def f94_r0 : List LOp := [
⟨some 4, .assign (.const (.slice none 0 0)), none⟩]
def f94_r1 : List LOp := [
⟨some 8, .move (.tmp 0), none⟩,
⟨some 9, .move (.tmp 1), none⟩,
⟨some 10, .call ⟨.value (.func 62), #[.tmp 8, .tmp 9], #[25, 59]⟩, none⟩,
⟨some 5, .assign (.tmp 10), none⟩]
def f94_r2 : List LOp := [
⟨some 11, .move (.tmp 5), none⟩,
⟨some 12, .binOp .eql 3 (.tmp 11) (.const (.int .i64 (-1))) 3, none⟩]
def f94_r3 : List LOp := [
⟨some 13, .move (.tmp 0), none⟩,
⟨some 4, .assign (.tmp 13), none⟩]
def f94_r4 : List LOp := [
⟨some 14, .move (.tmp 5), none⟩,
⟨some 15, .binOp .add 3 (.tmp 14) (.const (.int .i64 1)) 3, none⟩,
⟨some 6, .assign (.tmp 15), none⟩]
def f94_r5 : List LOp := [
⟨some 16, .move (.tmp 6), none⟩,
⟨some 17, .move (.tmp 0), none⟩,
⟨some 18, .call ⟨.builtin .len, #[.tmp 17], #[25]⟩, none⟩,
⟨some 19, .binOp .lss 3 (.tmp 16) (.tmp 18) 3, none⟩]
def f94_r6 : List LOp := [
⟨some 22, .move (.tmp 0), none⟩,
⟨some 23, .move (.tmp 6), none⟩,
⟨some 24, .indexAddr 25 (.tmp 22) (.tmp 23), none⟩,
⟨some 25, .load 27 (.tmp 24), none⟩,
⟨some 7, .alloc 27, none⟩,
⟨none, .store 27 (.tmp 7) (.tmp 25), none⟩]
def f94_r7 : List LOp := [
⟨some 26, .move (.tmp 1), none⟩,
⟨some 27, .load 27 (.tmp 7), none⟩,
⟨some 28, .call ⟨.value (.tmp 26), #[.tmp 27], #[27]⟩, none⟩,
⟨some 29, .unOp .not 4 (.tmp 28), none⟩]
def f94_r8 : List LOp := [
⟨some 30, .move (.tmp 0), none⟩,
⟨some 31, .move (.tmp 5), none⟩,
⟨some 32, .load 27 (.tmp 7), none⟩,
⟨some 33, .indexAddr 25 (.tmp 30) (.tmp 31), none⟩,
⟨none, .store 27 (.tmp 33) (.tmp 32), none⟩]
def f94_r9 : List LOp := [
⟨some 34, .move (.tmp 5), none⟩,
⟨some 35, .binOp .add 3 (.tmp 34) (.const (.int .i64 1)) 3, none⟩,
⟨some 5, .assign (.tmp 35), none⟩]
def f94_r10 : List LOp := [
⟨some 20, .move (.tmp 6), none⟩,
⟨some 21, .binOp .add 3 (.tmp 20) (.const (.int .i64 1)) 3, none⟩,
⟨some 6, .assign (.tmp 21), none⟩]
def f94_l11 : LC := (.seq (.seq (.reg f94_r5 [] none) (.cond (.tmp 19) .skip (.exit 0))) (.seq (.block 1 (.seq (.reg f94_r6 [] none) (.seq (.reg f94_r7 [] none) (.cond (.tmp 29) (.seq (.reg f94_r8 [] none) (.reg f94_r9 [] none)) .skip)))) (.reg f94_r10 [] none)))
def f94_i11 (t0 t1 t5 t6 : D) : List D := [t0, t1, .any, .any, .any, t5, t6, .any, .any, .any, .any, .any, .any, .any, .any, .any, .any, .any, .any, .any, .any, .any, .any, .any, .any, .any, .any, .any, .any, .any, .any, .any, .any, .any, .any, .any, .any, .any, .any, .any, .any, .any]
def f94_r12 : List LOp := [
⟨some 36, .move (.tmp 0), none⟩,
⟨some 37, .move (.tmp 5), none⟩,
⟨some 38, .slice 25 (.tmp 36) (some (.tmp 37)) none none, none⟩,
⟨none, .call ⟨.builtin .clear, #[.tmp 38], #[25]⟩, none⟩]
def f94_r13 : List LOp := [
⟨some 39, .move (.tmp 0), none⟩,
⟨some 40, .move (.tmp 5), none⟩,
⟨some 41, .slice 25 (.tmp 39) none (some (.tmp 40)) none, none⟩,
⟨some 4, .assign (.tmp 41), none⟩]
def f94_c : LC := (.seq (.reg f94_r0 [] none) (.seq (.reg f94_r1 [] none) (.seq (.seq (.reg f94_r2 [] none) (.cond (.tmp 12) (.seq (.reg f94_r3 [] none) .ret) .skip)) (.seq (.seq (.reg f94_r4 [] none) (.block 0 (.loop f94_l11))) (.seq (.reg f94_r12 [] none) (.seq (.reg f94_r13 [] none) .ret))))))
theorem f94_lc : Tryz.f94.body.map lc = some f94_c.st := by kernel_rfl
theorem f94_res : Tryz.f94.results.toList = [.tmp 4] := by kernel_rfl
theorem f94_nt : Tryz.f94.ntmps = 42 := by kernel_rfl
theorem f94_nm : (Tryz.f94.name == "runtime.NumGoroutine") = false := by kernel_rfl
def f95_r0 : List LOp := [
⟨some 2, .assign (.const (.slice none 0 0)), none⟩]
def f95_r1 : List LOp := [
⟨some 3, .assign (.const (.slice none 0 0)), none⟩]
def f95_r2 : List LOp := [
⟨some 6, .move (.tmp 0), none⟩,
⟨some 7, .call ⟨.builtin .len, #[.tmp 6], #[25]⟩, none⟩,
⟨some 8, .move (.const (.int .i64 0)), none⟩]
def f95_r3 : List LOp := [
⟨some 9, .binOp .lss 3 (.tmp 8) (.tmp 7) 3, none⟩]
def f95_r4 : List LOp := [
⟨some 10, .indexAddr 25 (.tmp 6) (.tmp 8), none⟩,
⟨some 11, .load 27 (.tmp 10), none⟩,
⟨some 5, .alloc 27, none⟩,
⟨none, .store 27 (.tmp 5) (.tmp 11), none⟩]
def f95_r5 : List LOp := [
⟨some 12, .fieldAddr 27 (.tmp 5) 0, none⟩,
⟨some 13, .load 5 (.tmp 12), none⟩]
def f95_r6 : List LOp := [
⟨some 19, .binOp .eql 5 (.tmp 13) (.const (.int .u8 1)) 5, none⟩,
⟨some 18, .assign (.tmp 19), none⟩]
def f95_r7 : List LOp := [
⟨some 21, .binOp .eql 5 (.tmp 13) (.const (.int .u8 5)) 5, none⟩,
⟨some 20, .assign (.tmp 21), none⟩]
def f95_r8 : List LOp := [
⟨some 22, .move (.tmp 3), none⟩,
⟨some 23, .fieldAddr 27 (.tmp 5) 2, none⟩,
⟨some 24, .load 25 (.tmp 23), none⟩,
⟨some 25, .call ⟨.value (.func 95), #[.tmp 24], #[25]⟩, none⟩,
⟨some 26, .call ⟨.builtin .append, #[.tmp 22, .tmp 25], #[25, 25]⟩, none⟩,
⟨some 3, .assign (.tmp 26), none⟩]
def f95_r9 : List LOp := [
⟨some 14, .move (.tmp 3), none⟩,
⟨some 15, .load 27 (.tmp 5), none⟩,
⟨some 16, .buildSlice 25 1 #[(0, .tmp 15)], none⟩,
⟨some 17, .call ⟨.builtin .append, #[.tmp 14, .tmp 16], #[25, 25]⟩, none⟩,
⟨some 3, .assign (.tmp 17), none⟩]
def f95_r10 : List LOp := [
⟨some 27, .binOp .add 3 (.tmp 8) (.const (.int .i64 1)) 3, none⟩,
⟨some 8, .move (.tmp 27), none⟩]
def f95_l11 : LC := (.seq (.reg f95_r3 [] none) (.seq (.cond (.tmp 9) .skip (.exit 0)) (.seq (.block 1 (.seq (.reg f95_r4 [] none) (.seq (.reg f95_r5 [] none) (.block 2 (.seq (.reg f95_r6 [] none) (.cond (.tmp 18) .skip (.seq (.reg f95_r7 [] none) (.cond (.tmp 20) (.reg f95_r8 [] none) (.reg f95_r9 [] none))))))))) (.reg f95_r10 [] none))))
def f95_i11 (t3 t6 t7 t8 : D) : List D := [.any, .any, .any, t3, .any, .any, t6, t7, t8, .any, .any, .any, .any, .any, .any, .any, .any, .any, .any, .any, .any, .any, .any, .any, .any, .any, .any, .any, .any]
def f95_r12 : List LOp := [
⟨some 28, .move (.tmp 3), none⟩,
⟨some 2, .assign (.tmp 28), none⟩]
def f95_c : LC := (.seq (.reg f95_r0 [] none) (.seq (.reg f95_r1 [] none) (.seq (.seq (.reg f95_r2 [] none) (.block 0 (.loop f95_l11))) (.seq (.reg f95_r12 [] none) .ret))))
theorem f95_lc : Tryz.f95.body.map lc = some f95_c.st := by kernel_rfl
theorem f95_res : Tryz.f95.results.toList = [.tmp 2] := by kernel_rfl
theorem f95_nt : Tryz.f95.ntmps = 29 := by kernel_rfl
theorem f95_nm : (Tryz.f95.name == "runtime.NumGoroutine") = false := by kernel_rfl
def f96_r0 : List LOp := [
⟨some 2, .box 27 (.tmp 0), none⟩,
⟨some 3, .assign (.const (.bool false)), none⟩]
def f96_r1 : List LOp := [
⟨some 4, .fieldAddr 27 (.tmp 2) 0, none⟩,
⟨some 5, .load 5 (.tmp 4), none⟩,
⟨some 6, .binOp .eql 5 (.tmp 5) (.const (.int .u8 3)) 5, none⟩]
def f96_r2 : List LOp := [
⟨some 7, .load 24 (.tmp 1), none⟩,
⟨some 8, .fieldAddr 27 (.tmp 2) 1, none⟩,
⟨some 9, .load 24 (.tmp 8), none⟩,
⟨some 10, .buildSlice 129 2 #[(0, .tmp 7), (1, .tmp 9)], none⟩,
⟨some 11, .call ⟨.value (.func 97), #[.tmp 10], #[129]⟩, none⟩,
⟨none, .store 24 (.tmp 1) (.tmp 11), none⟩]
def f96_r3 : List LOp := [
⟨some 12, .fieldAddr 27 (.tmp 2) 0, none⟩,
⟨some 13, .load 5 (.tmp 12), none⟩,
⟨some 14, .binOp .eql 5 (.tmp 13) (.const (.int .u8 3)) 5, none⟩,
⟨some 3, .assign (.tmp 14), none⟩]
def f96_c : LC := (.seq (.reg f96_r0 [] none) (.seq (.seq (.reg f96_r1 [] none) (.cond (.tmp 6) (.reg f96_r2 [] none) .skip)) (.seq (.reg f96_r3 [] none) .ret)))
theorem f96_lc : Tryz.f96.body.map lc = some f96_c.st := by kernel_rfl
theorem f96_res : Tryz.f96.results.toList = [.tmp 3] := by kernel_rfl
theorem f96_nt : Tryz.f96.ntmps = 15 := by kernel_rfl
theorem f96_nm : (Tryz.f96.name == "runtime.NumGoroutine") = false := by kernel_rfl
def f99_r0 : List LOp := [
⟨some 2, .assign (.const (.slice none 0 0)), none⟩]
def f99_r1 : List LOp := [
⟨some 3, .assign (.const (.slice none 0 0)), none⟩]
def f99_r2 : List LOp := [
⟨some 6, .move (.tmp 0), none⟩,
⟨some 7, .call ⟨.builtin .len, #[.tmp 6], #[25]⟩, none⟩,
⟨some 8, .move (.const (.int .i64 0)), none⟩]
def f99_r3 : List LOp := [
⟨some 9, .binOp .lss 3 (.tmp 8) (.tmp 7) 3, none⟩]
def f99_r4 : List LOp := [
⟨some 10, .indexAddr 25 (.tmp 6) (.tmp 8), none⟩,
⟨some 11, .load 27 (.tmp 10), none⟩,
⟨some 5, .alloc 27, none⟩,
⟨none, .store 27 (.tmp 5) (.tmp 11), none⟩]
def f99_r5 : List LOp := [
⟨some 12, .move (.tmp 3), none⟩,
⟨some 13, .makeFunc (.func 114) #[] #[.tmp 5], none⟩,
⟨some 14, .call ⟨.value (.func 38), #[.tmp 12, .tmp 13], #[25, 59]⟩, none⟩,
⟨some 15, .unOp .not 4 (.tmp 14), none⟩]
def f99_r6 : List LOp := [
⟨some 16, .move (.tmp 3), none⟩,
⟨some 17, .load 27 (.tmp 5), none⟩,
⟨some 18, .buildSlice 25 1 #[(0, .tmp 17)], none⟩,
⟨some 19, .call ⟨.builtin .append, #[.tmp 16, .tmp 18], #[25, 25]⟩, none⟩,
⟨some 3, .assign (.tmp 19), none⟩]
def f99_r7 : List LOp := [
⟨some 20, .binOp .add 3 (.tmp 8) (.const (.int .i64 1)) 3, none⟩,
⟨some 8, .move (.tmp 20), none⟩]
def f99_l8 : LC := (.seq (.reg f99_r3 [] none) (.seq (.cond (.tmp 9) .skip (.exit 0)) (.seq (.block 1 (.seq (.reg f99_r4 [] none) (.seq (.reg f99_r5 [] none) (.cond (.tmp 15) (.reg f99_r6 [] none) .skip)))) (.reg f99_r7 [] none))))
def f99_i8 (t3 t6 t7 t8 : D) : List D := [.any, .any, .any, t3, .any, .any, t6, t7, t8, .any, .any, .any, .any, .any, .any, .any, .any, .any, .any, .any, .any, .any]
def f99_r9 : List LOp := [
⟨some 21, .move (.tmp 3), none⟩,
⟨some 2, .assign (.tmp 21), none⟩]
def f99_c : LC := (.seq (.reg f99_r0 [] none) (.seq (.reg f99_r1 [] none) (.seq (.seq (.reg f99_r2 [] none) (.block 0 (.loop f99_l8))) (.seq (.reg f99_r9 [] none) .ret))))
theorem f99_lc : Tryz.f99.body.map lc = some f99_c.st := by kernel_rfl
theorem f99_res : Tryz.f99.results.toList = [.tmp 2] := by kernel_rfl
theorem f99_nt : Tryz.f99.ntmps = 22 := by kernel_rfl
theorem f99_nm : (Tryz.f99.name == "runtime.NumGoroutine") = false := by kernel_rfl
def f100_r0 : List LOp := [
⟨some 2, .assign (.const (.slice none 0 0)), none⟩]
def f100_r1 : List LOp := [
⟨some 3, .move (.tmp 0), none⟩,
⟨some 4, .call ⟨.value (.func 117), #[.tmp 3], #[25]⟩, none⟩,
⟨some 5, .call ⟨.value (.func 116), #[.tmp 4, .func 115], #[132, 120]⟩, none⟩,
⟨some 2, .assign (.tmp 5), none⟩]
def f100_c : LC := (.seq (.reg f100_r0 [] none) (.seq (.reg f100_r1 [] none) .ret))
theorem f100_lc : Tryz.f100.body.map lc = some f100_c.st := by kernel_rfl
theorem f100_res : Tryz.f100.results.toList = [.tmp 2] := by kernel_rfl
theorem f100_nt : Tryz.f100.ntmps = 6 := by kernel_rfl
theorem f100_nm : (Tryz.f100.name == "runtime.NumGoroutine") = false := by kernel_rfl
def f102_r0 : List LOp := [
⟨some 2, .box 24 (.tmp 0), none⟩,
⟨some 4, .alloc 24, none⟩]
def f102_r1 : List LOp := [
⟨some 7, .load 24 (.tmp 2), none⟩,
⟨some 8, .move (.tmp 1), none⟩,
⟨some 9, .call ⟨.value (.func 55), #[.tmp 7, .tmp 8], #[24, 3]⟩, none⟩]
def f102_r2 : List LOp := [
⟨some 10, .load 24 (.tmp 2), none⟩,
⟨none, .store 24 (.tmp 4) (.tmp 10), none⟩]
def f102_r3 : List LOp := [
⟨some 5, .assign (.const (.int .u64 1)), none⟩]
def f102_r4 : List LOp := [
⟨some 6, .assign (.const (.int .i64 0)), none⟩]
def f102_r5 : List LOp := [
⟨some 11, .move (.tmp 6), none⟩,
⟨some 12, .move (.tmp 1), none⟩,
⟨some 13, .binOp .rem 3 (.tmp 12) (.const (.int .i64 64)) 3, none⟩,
⟨some 14, .binOp .lss 3 (.tmp 11) (.tmp 13) 3, none⟩]
def f102_r6 : List LOp := [
⟨some 17, .move (.tmp 5), none⟩,
⟨some 18, .binOp .mul 22 (.const (.int .u64 2)) (.tmp 17) 22, none⟩,
⟨some 5, .assign (.tmp 18), none⟩]
def f102_r7 : List LOp := [
⟨some 15, .move (.tmp 6), none⟩,
⟨some 16, .binOp .add 3 (.tmp 15) (.const (.int .i64 1)) 3, none⟩,
⟨some 6, .assign (.tmp 16), none⟩]
def f102_l8 : LC := (.seq (.seq (.reg f102_r5 [] none) (.cond (.tmp 14) .skip (.exit 0))) (.seq (.block 1 (.reg f102_r6 [] none)) (.reg f102_r7 [] none)))
def f102_i8 (t1 t2 t4 t5 t6 : D) : List D := [.any, t1, t2, .any, t4, t5, t6, .any, .any, .any, .any, .any, .any, .any, .any, .any, .any, .any, .any, .any, .any, .any, .any, .any, .any, .any, .any, .any, .any]
def f102_r9 : List LOp := [
⟨some 19, .move (.tmp 1), none⟩,
⟨some 20, .binOp .quo 3 (.tmp 19) (.const (.int .i64 64)) 3, none⟩,
⟨some 21, .move (.tmp 1), none⟩,
⟨some 22, .binOp .quo 3 (.tmp 21) (.const (.int .i64 64)) 3, none⟩,
⟨some 23, .indexAddr 24 (.tmp 2) (.tmp 22), none⟩,
⟨some 24, .load 22 (.tmp 23), none⟩,
⟨some 25, .move (.tmp 5), none⟩,
⟨some 26, .binOp .add 22 (.tmp 24) (.tmp 25) 22, none⟩,
⟨some 27, .indexAddr 24 (.tmp 2) (.tmp 20), none⟩,
⟨none, .store 22 (.tmp 27) (.tmp 26), none⟩]
def f102_r10 : List LOp := [
⟨some 28, .load 24 (.tmp 2), none⟩,
⟨none, .store 24 (.tmp 4) (.tmp 28), none⟩]
def f102_c : LC := (.seq (.reg f102_r0 [0] none) (.seq (.seq (.reg f102_r1 [] none) (.cond (.tmp 9) (.seq (.reg f102_r2 [] none) .ret) .skip)) (.seq (.reg f102_r3 [] none) (.seq (.seq (.reg f102_r4 [] none) (.block 0 (.loop f102_l8))) (.seq (.reg f102_r9 [] none) (.seq (.reg f102_r10 [] none) .ret))))))
theorem f102_lc : Tryz.f102.body.map lc = some f102_c.st := by kernel_rfl
theorem f102_res : Tryz.f102.results.toList = [.cell 4 24] := by kernel_rfl
theorem f102_nt : Tryz.f102.ntmps = 29 := by kernel_rfl
theorem f102_nm : (Tryz.f102.name == "runtime.NumGoroutine") = false := by kernel_rfl
def f103_r0 : List LOp := [
⟨some 3, .box 27 (.tmp 1), none⟩,
⟨some 4, .assign (.const (.bool false)), none⟩]
def f103_r1 : List LOp := [
⟨some 6, .move (.tmp 0), none⟩,
⟨some 7, .call ⟨.builtin .len, #[.tmp 6], #[25]⟩, none⟩,
⟨some 8, .move (.const (.int .i64 0)), none⟩]
def f103_r2 : List LOp := [
⟨some 9, .binOp .lss 3 (.tmp 8) (.tmp 7) 3, none⟩]
def f103_r3 : List LOp := [
⟨some 10, .move (.tmp 8), none⟩,
⟨some 5, .assign (.tmp 10), none⟩]
def f103_r4 : List LOp := [
⟨some 11, .move (.tmp 0), none⟩,
⟨some 12, .move (.tmp 5), none⟩,
⟨some 13, .indexAddr 25 (.tmp 11) (.tmp 12), none⟩,
⟨some 14, .load 27 (.tmp 13), none⟩,
⟨some 15, .load 27 (.tmp 3), none⟩,
⟨some 16, .call ⟨.value (.func 14), #[.tmp 14, .tmp 15], #[27, 27]⟩, none⟩]
def f103_r5 : List LOp := [
⟨some 4, .assign (.const (.bool true)), none⟩]
def f103_r6 : List LOp := [
⟨some 17, .binOp .add 3 (.tmp 8) (.const (.int .i64 1)) 3, none⟩,
⟨some 8, .move (.tmp 17), none⟩]
def f103_l7 : LC := (.seq (.reg f103_r2 [] none) (.seq (.cond (.tmp 9) .skip (.exit 0)) (.seq (.block 1 (.seq (.reg f103_r3 [] none) (.seq (.reg f103_r4 [] (some 5)) (.cond (.tmp 16) (.seq (.reg f103_r5 [] none) .ret) .skip)))) (.reg f103_r6 [] none))))
def f103_i7 (t0 t3 t7 t8 : D) : List D := [t0, .any, .any, t3, .any, .any, .any, t7, t8, .any, .any, .any, .any, .any, .any, .any, .any, .any]
def f103_r8 : List LOp := [
⟨some 4, .assign (.const (.bool false)), none⟩]
def f103_c : LC := (.seq (.reg f103_r0 [] none) (.seq (.seq (.reg f103_r1 [] none) (.block 0 (.loop f103_l7))) (.seq (.reg f103_r8 [] none) .ret)))
theorem f103_lc : Tryz.f103.body.map lc = some f103_c.st := by kernel_rfl
theorem f103_res : Tryz.f103.results.toList = [.tmp 4] := by kernel_rfl
theorem f103_nt : Tryz.f103.ntmps = 18 := by kernel_rfl
theorem f103_nm : (Tryz.f103.name == "runtime.NumGoroutine") = false := by kernel_rfl
def f104_r0 : List LOp := [
⟨some 2, .box 27 (.tmp 0), none⟩,
⟨some 3, .box 27 (.tmp 1), none⟩,
⟨some 4, .assign (.const (.int .i64 0)), none⟩]
def f104_r1 : List LOp := [
⟨some 8, .fieldAddr 27 (.tmp 2) 0, none⟩,
⟨some 9, .load 5 (.tmp 8), none⟩,
⟨some 10, .fieldAddr 27 (.tmp 3) 0, none⟩,
⟨some 11, .load 5 (.tmp 10), none⟩,
⟨some 12, .binOp .lss 5 (.tmp 9) (.tmp 11) 5, none⟩]
def f104_r2 : List LOp := [
⟨some 4, .assign (.const (.int .i64 (-1))), none⟩]
def f104_r3 : List LOp := [
⟨some 13, .fieldAddr 27 (.tmp 2) 0, none⟩,
⟨some 14, .load 5 (.tmp 13), none⟩,
⟨some 15, .fieldAddr 27 (.tmp 3) 0, none⟩,
⟨some 16, .load 5 (.tmp 15), none⟩,
⟨some 17, .binOp .gtr 5 (.tmp 14) (.tmp 16) 5, none⟩]
def f104_r4 : List LOp := [
⟨some 4, .assign (.const (.int .i64 1)), none⟩]
def f104_r5 : List LOp := [
⟨some 18, .fieldAddr 27 (.tmp 2) 1, none⟩,
⟨some 19, .load 24 (.tmp 18), none⟩,
⟨some 20, .fieldAddr 27 (.tmp 3) 1, none⟩,
⟨some 21, .load 24 (.tmp 20), none⟩,
⟨some 22, .call ⟨.value (.func 118), #[.tmp 19, .tmp 21], #[24, 24]⟩, none⟩,
⟨some 5, .assign (.tmp 22), none⟩]
def f104_r6 : List LOp := [
⟨some 23, .move (.tmp 5), none⟩,
⟨some 24, .binOp .neq 3 (.tmp 23) (.const (.int .i64 0)) 3, none⟩]
def f104_r7 : List LOp := [
⟨some 25, .move (.tmp 5), none⟩,
⟨some 4, .assign (.tmp 25), none⟩]
def f104_r8 : List LOp := [
⟨some 26, .fieldAddr 27 (.tmp 2) 2, none⟩,
⟨some 27, .load 25 (.tmp 26), none⟩,
⟨some 28, .call ⟨.builtin .len, #[.tmp 27], #[25]⟩, none⟩,
⟨some 29, .move (.const (.int .i64 0)), none⟩]
def f104_r9 : List LOp := [
⟨some 30, .binOp .lss 3 (.tmp 29) (.tmp 28) 3, none⟩]
def f104_r10 : List LOp := [
⟨some 31, .move (.tmp 29), none⟩,
⟨some 6, .assign (.tmp 31), none⟩]
def f104_r11 : List LOp := [
⟨some 32, .move (.tmp 6), none⟩,
⟨some 33, .fieldAddr 27 (.tmp 3) 2, none⟩,
⟨some 34, .load 25 (.tmp 33), none⟩,
⟨some 35, .call ⟨.builtin .len, #[.tmp 34], #[25]⟩, none⟩,
⟨some 36, .binOp .eql 3 (.tmp 32) (.tmp 35) 3, none⟩]
def f104_r12 : List LOp := [
⟨some 4, .assign (.const (.int .i64 1)), none⟩]
def f104_r13 : List LOp := [
⟨some 37, .fieldAddr 27 (.tmp 2) 2, none⟩,
⟨some 38, .load 25 (.tmp 37), none⟩,
⟨some 39, .move (.tmp 6), none⟩,
⟨some 40, .indexAddr 25 (.tmp 38) (.tmp 39), none⟩,
⟨some 41, .load 27 (.tmp 40), none⟩,
⟨some 42, .fieldAddr 27 (.tmp 3) 2, none⟩,
⟨some 43, .load 25 (.tmp 42), none⟩,
⟨some 44, .move (.tmp 6), none⟩,
⟨some 45, .indexAddr 25 (.tmp 43) (.tmp 44), none⟩,
⟨some 46, .load 27 (.tmp 45), none⟩,
⟨some 47, .call ⟨.value (.func 104), #[.tmp 41, .tmp 46], #[27, 27]⟩, none⟩,
⟨some 7, .assign (.tmp 47), none⟩]
def f104_r14 : List LOp := [
⟨some 48, .move (.tmp 7), none⟩,
⟨some 49, .binOp .neq 3 (.tmp 48) (.const (.int .i64 0)) 3, none⟩]
def f104_r15 : List LOp := [
⟨some 50, .move (.tmp 7), none⟩,
⟨some 4, .assign (.tmp 50), none⟩]
def f104_r16 : List LOp := [
⟨some 51, .binOp .add 3 (.tmp 29) (.const (.int .i64 1)) 3, none⟩,
⟨some 29, .move (.tmp 51), none⟩]
def f104_l17 : LC := (.seq (.reg f104_r9 [] none) (.seq (.cond (.tmp 30) .skip (.exit 0)) (.seq (.block 1 (.seq (.reg f104_r10 [] none) (.seq (.seq (.reg f104_r11 [] none) (.cond (.tmp 36) (.seq (.reg f104_r12 [] none) .ret) .skip)) (.seq (.reg f104_r13 [] (some 10)) (.seq (.reg f104_r14 [] none) (.cond (.tmp 49) (.seq (.reg f104_r15 [] none) .ret) .skip)))))) (.reg f104_r16 [] none))))
def f104_i17 (t2 t3 t28 t29 : D) : List D := [.any, .any, t2, t3, .any, .any, .any, .any, .any, .any, .any, .any, .any, .any, .any, .any, .any, .any, .any, .any, .any, .any, .any, .any, .any, .any, .any, .any, t28, t29, .any, .any, .any, .any, .any, .any, .any, .any, .any, .any, .any, .any, .any, .any, .any, .any, .any, .any, .any, .any, .any, .any, .any, .any, .any, .any, .any, .any, .any]
def f104_r18 : List LOp := [
⟨some 52, .fieldAddr 27 (.tmp 2) 2, none⟩,
⟨some 53, .load 25 (.tmp 52), none⟩,
⟨some 54, .call ⟨.builtin .len, #[.tmp 53], #[25]⟩, none⟩,
⟨some 55, .fieldAddr 27 (.tmp 3) 2, none⟩,
⟨some 56, .load 25 (.tmp 55), none⟩,
⟨some 57, .call ⟨.builtin .len, #[.tmp 56], #[25]⟩, none⟩,
⟨some 58, .binOp .lss 3 (.tmp 54) (.tmp 57) 3, none⟩]
def f104_r19 : List LOp := [
⟨some 4, .assign (.const (.int .i64 (-1))), none⟩]
def f104_r20 : List LOp := [
⟨some 4, .assign (.const (.int .i64 0)), none⟩]
def f104_c : LC := (.seq (.reg f104_r0 [] none) (.seq (.seq (.reg f104_r1 [] none) (.cond (.tmp 12) (.seq (.reg f104_r2 [] none) .ret) .skip)) (.seq (.seq (.reg f104_r3 [] none) (.cond (.tmp 17) (.seq (.reg f104_r4 [] none) .ret) .skip)) (.seq (.reg f104_r5 [] none) (.seq (.seq (.reg f104_r6 [] none) (.cond (.tmp 24) (.seq (.reg f104_r7 [] none) .ret) .skip)) (.seq (.seq (.reg f104_r8 [] none) (.block 0 (.loop f104_l17))) (.seq (.seq (.reg f104_r18 [] none) (.cond (.tmp 58) (.seq (.reg f104_r19 [] none) .ret) .skip)) (.seq (.reg f104_r20 [] none) .ret))))))))
theorem f104_lc : Tryz.f104.body.map lc = some f104_c.st := by kernel_rfl
theorem f104_res : Tryz.f104.results.toList = [.tmp 4] := by kernel_rfl
theorem f104_nt : Tryz.f104.ntmps = 59 := by kernel_rfl
theorem f104_nm : (Tryz.f104.name == "runtime.NumGoroutine") = false := by kernel_rfl
def f114_r0 : List LOp := [
⟨some 2, .box 27 (.tmp 0), none⟩,
⟨some 3, .assign (.const (.bool false)), none⟩]
def f114_r1 : List LOp := [
⟨some 4, .load 27 (.tmp 2), none⟩,
⟨some 5, .load 27 (.tmp 1), none⟩,
⟨some 6, .call ⟨.value (.func 115), #[.tmp 4, .tmp 5], #[27, 27]⟩, none⟩,
⟨some 7, .binOp .eql 3 (.tmp 6) (.const (.int .i64 0)) 3, none⟩,
⟨some 3, .assign (.tmp 7), none⟩]
def f114_c : LC := (.seq (.reg f114_r0 [] none) (.seq (.reg f114_r1 [] none) .ret))
theorem f114_lc : Tryz.f114.body.map lc = some f114_c.st := by kernel_rfl
theorem f114_res : Tryz.f114.results.toList = [.tmp 3] := by kernel_rfl
theorem f114_nt : Tryz.f114.ntmps = 8 := by kernel_rfl
theorem f114_nm : (Tryz.f114.name == "runtime.NumGoroutine") = false := by kernel_rfl
def f115_r0 : List LOp := [
⟨some 2, .box 27 (.tmp 0), none⟩,
⟨some 3, .box 27 (.tmp 1), none⟩,
⟨some 4, .assign (.const (.int .i64 0)), none⟩]
def f115_r1 : List LOp := [
⟨some 5, .fieldAddr 27 (.tmp 2) 0, none⟩,
⟨some 6, .load 5 (.tmp 5), none⟩,
⟨some 7, .fieldAddr 27 (.tmp 3) 0, none⟩,
⟨some 8, .load 5 (.tmp 7), none⟩,
⟨some 9, .call ⟨.value (.func 124), #[.tmp 6, .tmp 8], #[5, 5]⟩, none⟩,
⟨some 10, .fieldAddr 27 (.tmp 2) 1, none⟩,
⟨some 11, .load 24 (.tmp 10), none⟩,
⟨some 12, .fieldAddr 27 (.tmp 3) 1, none⟩,
⟨some 13, .load 24 (.tmp 12), none⟩,
⟨some 14, .call ⟨.value (.func 125), #[.tmp 11, .tmp 13], #[24, 24]⟩, none⟩,
⟨some 15, .fieldAddr 27 (.tmp 2) 2, none⟩,
⟨some 16, .load 25 (.tmp 15), none⟩,
⟨some 17, .fieldAddr 27 (.tmp 3) 2, none⟩,
⟨some 18, .load 25 (.tmp 17), none⟩,
⟨some 19, .call ⟨.value (.func 126), #[.tmp 16, .tmp 18, .func 115], #[25, 25, 120]⟩, none⟩,
⟨some 20, .buildSlice 83 3 #[(0, .tmp 9), (1, .tmp 14), (2, .tmp 19)], none⟩,
⟨some 21, .call ⟨.value (.func 123), #[.tmp 20], #[83]⟩, none⟩,
⟨some 4, .assign (.tmp 21), none⟩]
def f115_c : LC := (.seq (.reg f115_r0 [] none) (.seq (.reg f115_r1 [] (some 14)) .ret))
theorem f115_lc : Tryz.f115.body.map lc = some f115_c.st := by kernel_rfl
theorem f115_res : Tryz.f115.results.toList = [.tmp 4] := by kernel_rfl
theorem f115_nt : Tryz.f115.ntmps = 22 := by kernel_rfl
theorem f115_nm : (Tryz.f115.name == "runtime.NumGoroutine") = false := by kernel_rfl
def f116_r0 : List LOp := [
⟨some 4, .assign (.const (.slice none 0 0)), none⟩]
def f116_r1 : List LOp := [
⟨some 6, .move (.tmp 0), none⟩,
⟨some 7, .call ⟨.value (.func 127), #[.tmp 6], #[132]⟩, none⟩,
⟨some 5, .assign (.tmp 7), none⟩]
def f116_r2 : List LOp := [
⟨some 8, .move (.tmp 5), none⟩,
⟨some 9, .move (.tmp 1), none⟩,
⟨some 10, .call ⟨.value (.func 128), #[.tmp 8, .tmp 9], #[25, 120]⟩, none⟩]
def f116_r3 : List LOp := [
⟨some 11, .move (.tmp 5), none⟩,
⟨some 4, .assign (.tmp 11), none⟩]
def f116_c : LC := (.seq (.reg f116_r0 [] none) (.seq (.reg f116_r1 [] none) (.seq (.reg f116_r2 [] none) (.seq (.reg f116_r3 [] none) .ret))))
theorem f116_lc : Tryz.f116.body.map lc = some f116_c.st := by kernel_rfl
theorem f116_res : Tryz.f116.results.toList = [.tmp 4] := by kernel_rfl
theorem f116_nt : Tryz.f116.ntmps = 12 := by kernel_rfl
theorem f116_nm : (Tryz.f116.name == "runtime.NumGoroutine") = false := by kernel_rfl
def f117_r0 : List LOp := [
⟨some 1, .box 25 (.tmp 0), none⟩,
⟨some 2, .assign (.const .nilFunc), none⟩]
def f117_r1 : List LOp := [
⟨some 3, .makeFunc (.func 129) #[] #[.tmp 1], none⟩,
⟨some 2, .assign (.tmp 3), none⟩]
def f117_c : LC := (.seq (.reg f117_r0 [] none) (.seq (.reg f117_r1 [] none) .ret))
theorem f117_lc : Tryz.f117.body.map lc = some f117_c.st := by kernel_rfl
theorem f117_res : Tryz.f117.results.toList = [.tmp 2] := by kernel_rfl
theorem f117_nt : Tryz.f117.ntmps = 4 := by kernel_rfl
theorem f117_nm : (Tryz.f117.name == "runtime.NumGoroutine") = false := by kernel_rfl
def f118_r0 : List LOp := [
⟨some 2, .box 24 (.tmp 0), none⟩,
⟨some 3, .box 24 (.tmp 1), none⟩,
⟨some 4, .assign (.const (.int .i64 0)), none⟩]
def f118_r1 : List LOp := [
⟨some 5, .assign (.const (.int .i64 0)), none⟩]
def f118_r2 : List LOp := [
⟨some 6, .move (.tmp 5), none⟩,
⟨some 7, .binOp .lss 3 (.tmp 6) (.const (.int .i64 4)) 3, none⟩]
def f118_r3 : List LOp := [
⟨some 10, .move (.tmp 5), none⟩,
⟨some 11, .indexAddr 24 (.tmp 2) (.tmp 10), none⟩,
⟨some 12, .load 22 (.tmp 11), none⟩,
⟨some 13, .move (.tmp 5), none⟩,
⟨some 14, .indexAddr 24 (.tmp 3) (.tmp 13), none⟩,
⟨some 15, .load 22 (.tmp 14), none⟩,
⟨some 16, .binOp .lss 22 (.tmp 12) (.tmp 15) 22, none⟩]
def f118_r4 : List LOp := [
⟨some 4, .assign (.const (.int .i64 (-1))), none⟩]
def f118_r5 : List LOp := [
⟨some 17, .move (.tmp 5), none⟩,
⟨some 18, .indexAddr 24 (.tmp 2) (.tmp 17), none⟩,
⟨some 19, .load 22 (.tmp 18), none⟩,
⟨some 20, .move (.tmp 5), none⟩,
⟨some 21, .indexAddr 24 (.tmp 3) (.tmp 20), none⟩,
⟨some 22, .load 22 (.tmp 21), none⟩,
⟨some 23, .binOp .gtr 22 (.tmp 19) (.tmp 22) 22, none⟩]
def f118_r6 : List LOp := [
⟨some 4, .assign (.const (.int .i64 1)), none⟩]
def f118_r7 : List LOp := [
⟨some 8, .move (.tmp 5), none⟩,
⟨some 9, .binOp .add 3 (.tmp 8) (.const (.int .i64 1)) 3, none⟩,
⟨some 5, .assign (.tmp 9), none⟩]
def f118_l8 : LC := (.seq (.seq (.reg f118_r2 [] none) (.cond (.tmp 7) .skip (.exit 0))) (.seq (.block 1 (.seq (.seq (.reg f118_r3 [] (some 6)) (.cond (.tmp 16) (.seq (.reg f118_r4 [] none) .ret) .skip)) (.seq (.reg f118_r5 [] (some 6)) (.cond (.tmp 23) (.seq (.reg f118_r6 [] none) .ret) .skip)))) (.reg f118_r7 [] none)))
def f118_i8 (t2 t3 t5 : D) : List D := [.any, .any, t2, t3, .any, t5, .any, .any, .any, .any, .any, .any, .any, .any, .any, .any, .any, .any, .any, .any, .any, .any, .any, .any]
def f118_r9 : List LOp := [
⟨some 4, .assign (.const (.int .i64 0)), none⟩]
def f118_c : LC := (.seq (.reg f118_r0 [] none) (.seq (.seq (.reg f118_r1 [] none) (.block 0 (.loop f118_l8))) (.seq (.reg f118_r9 [] none) .ret)))
theorem f118_lc : Tryz.f118.body.map lc = some f118_c.st := by kernel_rfl
theorem f118_res : Tryz.f118.results.toList = [.tmp 4] := by kernel_rfl
theorem f118_nt : Tryz.f118.ntmps = 24 := by kernel_rfl
theorem f118_nm : (Tryz.f118.name == "runtime.NumGoroutine") = false := by kernel_rfl
def f123_r0 : List LOp := [
⟨some 2, .assign (.const (.int .i64 0)), none⟩]
def f123_r1 : List LOp := [
⟨some 3, .assign (.const (.int .i64 0)), none⟩]
def f123_r2 : List LOp := [
⟨some 6, .move (.tmp 0), none⟩,
⟨some 7, .call ⟨.builtin .len, #[.tmp 6], #[83]⟩, none⟩,
⟨some 8, .move (.const (.int .i64 0)), none⟩]
def f123_r3 : List LOp := [
⟨some 9, .binOp .lss 3 (.tmp 8) (.tmp 7) 3, none⟩]
def f123_r4 : List LOp := [
⟨some 10, .indexAddr 83 (.tmp 6) (.tmp 8), none⟩,
⟨some 11, .load 3 (.tmp 10), none⟩,
⟨some 5, .assign (.tmp 11), none⟩]
def f123_r5 : List LOp := [
⟨some 12, .move (.tmp 5), none⟩,
⟨some 13, .move (.tmp 3), none⟩,
⟨some 14, .binOp .neq 3 (.tmp 12) (.tmp 13) 3, none⟩]
def f123_r6 : List LOp := [
⟨some 15, .move (.tmp 5), none⟩,
⟨some 2, .assign (.tmp 15), none⟩]
def f123_r7 : List LOp := [
⟨some 16, .binOp .add 3 (.tmp 8) (.const (.int .i64 1)) 3, none⟩,
⟨some 8, .move (.tmp 16), none⟩]
def f123_l8 : LC := (.seq (.reg f123_r3 [] none) (.seq (.cond (.tmp 9) .skip (.exit 0)) (.seq (.block 1 (.seq (.reg f123_r4 [] none) (.seq (.reg f123_r5 [] none) (.cond (.tmp 14) (.seq (.reg f123_r6 [] none) .ret) .skip)))) (.reg f123_r7 [] none))))
def f123_i8 (t3 t6 t7 t8 : D) : List D := [.any, .any, .any, t3, .any, .any, t6, t7, t8, .any, .any, .any, .any, .any, .any, .any, .any, .any]
def f123_r9 : List LOp := [
⟨some 17, .move (.tmp 3), none⟩,
⟨some 2, .assign (.tmp 17), none⟩]
def f123_c : LC := (.seq (.reg f123_r0 [] none) (.seq (.reg f123_r1 [] none) (.seq (.seq (.reg f123_r2 [] none) (.block 0 (.loop f123_l8))) (.seq (.reg f123_r9 [] none) .ret))))
theorem f123_lc : Tryz.f123.body.map lc = some f123_c.st := by kernel_rfl
theorem f123_res : Tryz.f123.results.toList = [.tmp 2] := by kernel_rfl
theorem f123_nt : Tryz.f123.ntmps = 18 := by kernel_rfl
theorem f123_nm : (Tryz.f123.name == "runtime.NumGoroutine") = false := by kernel_rfl
def f124_r0 : List LOp := [
⟨some 4, .assign (.const (.int .i64 0)), none⟩]
def f124_r1 : List LOp := [
⟨some 7, .move (.tmp 0), none⟩,
⟨some 8, .call ⟨.value (.func 136), #[.tmp 7], #[5]⟩, none⟩,
⟨some 5, .assign (.tmp 8), none⟩]
def f124_r2 : List LOp := [
⟨some 9, .move (.tmp 1), none⟩,
⟨some 10, .call ⟨.value (.func 136), #[.tmp 9], #[5]⟩, none⟩,
⟨some 6, .assign (.tmp 10), none⟩]
def f124_r3 : List LOp := [
⟨some 11, .move (.tmp 5), none⟩]
def f124_r4 : List LOp := [
⟨some 12, .move (.tmp 6), none⟩]
def f124_r5 : List LOp := [
⟨some 4, .assign (.const (.int .i64 0)), none⟩]
def f124_r6 : List LOp := [
⟨some 4, .assign (.const (.int .i64 (-1))), none⟩]
def f124_r7 : List LOp := [
⟨some 13, .move (.tmp 6), none⟩]
def f124_r8 : List LOp := [
⟨some 4, .assign (.const (.int .i64 1)), none⟩]
def f124_r9 : List LOp := [
⟨some 14, .move (.tmp 0), none⟩,
⟨some 15, .move (.tmp 1), none⟩,
⟨some 16, .binOp .lss 5 (.tmp 14) (.tmp 15) 5, none⟩]
def f124_r10 : List LOp := [
⟨some 4, .assign (.const (.int .i64 (-1))), none⟩]
def f124_r11 : List LOp := [
⟨some 17, .move (.tmp 0), none⟩,
⟨some 18, .move (.tmp 1), none⟩,
⟨some 19, .binOp .gtr 5 (.tmp 17) (.tmp 18) 5, none⟩]
def f124_r12 : List LOp := [
⟨some 4, .assign (.const (.int .i64 1)), none⟩]
def f124_r13 : List LOp := [
⟨some 4, .assign (.const (.int .i64 0)), none⟩]
def f124_c : LC := (.seq (.reg f124_r0 [] none) (.seq (.reg f124_r1 [] none) (.seq (.reg f124_r2 [] none) (.seq (.seq (.reg f124_r3 [] none) (.cond (.tmp 11) (.seq (.seq (.reg f124_r4 [] none) (.cond (.tmp 12) (.seq (.reg f124_r5 [] none) .ret) .skip)) (.seq (.reg f124_r6 [] none) .ret)) .skip)) (.seq (.seq (.reg f124_r7 [] none) (.cond (.tmp 13) (.seq (.reg f124_r8 [] none) .ret) .skip)) (.seq (.seq (.reg f124_r9 [] none) (.cond (.tmp 16) (.seq (.reg f124_r10 [] none) .ret) .skip)) (.seq (.seq (.reg f124_r11 [] none) (.cond (.tmp 19) (.seq (.reg f124_r12 [] none) .ret) .skip)) (.seq (.reg f124_r13 [] none) .ret))))))))
theorem f124_lc : Tryz.f124.body.map lc = some f124_c.st := by kernel_rfl
theorem f124_res : Tryz.f124.results.toList = [.tmp 4] := by kernel_rfl
theorem f124_nt : Tryz.f124.ntmps = 20 := by kernel_rfl
theorem f124_nm : (Tryz.f124.name == "runtime.NumGoroutine") = false := by kernel_rfl
def f125_r0 : List LOp := [
⟨some 2, .box 24 (.tmp 0), none⟩,
⟨some 3, .box 24 (.tmp 1), none⟩,
⟨some 4, .assign (.const (.int .i64 0)), none⟩]
def f125_r1 : List LOp := [
⟨some 5, .slice 24 (.tmp 2) none none none, none⟩,
⟨some 6, .slice 24 (.tmp 3) none none none, none⟩,
⟨some 7, .call ⟨.value (.func 137), #[.tmp 5, .tmp 6, .func 138], #[149, 149, 150]⟩, none⟩,
⟨some 4, .assign (.tmp 7), none⟩]
def f125_c : LC := (.seq (.reg f125_r0 [] none) (.seq (.reg f125_r1 [] (some 2)) .ret))
theorem f125_lc : Tryz.f125.body.map lc = some f125_c.st := by kernel_rfl
theorem f125_res : Tryz.f125.results.toList = [.tmp 4] := by kernel_rfl
theorem f125_nt : Tryz.f125.ntmps = 8 := by kernel_rfl
theorem f125_nm : (Tryz.f125.name == "runtime.NumGoroutine") = false := by kernel_rfl
def f126_r0 : List LOp := [
⟨some 6, .assign (.const (.int .i64 0)), none⟩]
def f126_r1 : List LOp := [
⟨some 11, .move (.tmp 0), none⟩,
⟨some 12, .call ⟨.builtin .len, #[.tmp 11], #[25]⟩, none⟩,
⟨some 13, .move (.const (.int .i64 0)), none⟩]
def f126_r2 : List LOp := [
⟨some 14, .binOp .lss 3 (.tmp 13) (.tmp 12) 3, none⟩]
def f126_r3 : List LOp := [
⟨some 15, .move (.tmp 13), none⟩,
⟨some 16, .indexAddr 25 (.tmp 11) (.tmp 13), none⟩,
⟨some 17, .load 27 (.tmp 16), none⟩,
⟨some 8, .alloc 27, none⟩,
⟨some 7, .assign (.tmp 15), none⟩,
⟨none, .store 27 (.tmp 8) (.tmp 17), none⟩]
def f126_r4 : List LOp := [
⟨some 18, .move (.tmp 7), none⟩,
⟨some 19, .move (.tmp 1), none⟩,
⟨some 20, .call ⟨.builtin .len, #[.tmp 19], #[25]⟩, none⟩,
⟨some 21, .binOp .geq 3 (.tmp 18) (.tmp 20) 3, none⟩]
def f126_r5 : List LOp := [
⟨some 6, .assign (.const (.int .i64 1)), none⟩]
def f126_r6 : List LOp := [
⟨some 22, .move (.tmp 1), none⟩,
⟨some 23, .move (.tmp 7), none⟩,
⟨some 24, .indexAddr 25 (.tmp 22) (.tmp 23), none⟩,
⟨some 25, .load 27 (.tmp 24), none⟩,
⟨some 9, .alloc 27, none⟩,
⟨none, .store 27 (.tmp 9) (.tmp 25), none⟩]
def f126_r7 : List LOp := [
⟨some 26, .move (.tmp 2), none⟩,
⟨some 27, .load 27 (.tmp 8), none⟩,
⟨some 28, .load 27 (.tmp 9), none⟩,
⟨some 29, .call ⟨.value (.tmp 26), #[.tmp 27, .tmp 28], #[27, 27]⟩, none⟩,
⟨some 10, .assign (.tmp 29), none⟩]
def f126_r8 : List LOp := [
⟨some 30, .move (.tmp 10), none⟩,
⟨some 31, .binOp .neq 3 (.tmp 30) (.const (.int .i64 0)) 3, none⟩]
def f126_r9 : List LOp := [
⟨some 32, .move (.tmp 10), none⟩,
⟨some 6, .assign (.tmp 32), none⟩]
def f126_r10 : List LOp := [
⟨some 33, .binOp .add 3 (.tmp 13) (.const (.int .i64 1)) 3, none⟩,
⟨some 13, .move (.tmp 33), none⟩]
def f126_l11 : LC := (.seq (.reg f126_r2 [] none) (.seq (.cond (.tmp 14) .skip (.exit 0)) (.seq (.block 1 (.seq (.reg f126_r3 [] none) (.seq (.seq (.reg f126_r4 [] none) (.cond (.tmp 21) (.seq (.reg f126_r5 [] none) .ret) .skip)) (.seq (.reg f126_r6 [] none) (.seq (.reg f126_r7 [] none) (.seq (.reg f126_r8 [] none) (.cond (.tmp 31) (.seq (.reg f126_r9 [] none) .ret) .skip))))))) (.reg f126_r10 [] none))))
def f126_i11 (t0 t1 t2 t11 t12 t13 : D) : List D := [t0, t1, t2, .any, .any, .any, .any, .any, .any, .any, .any, t11, t12, t13, .any, .any, .any, .any, .any, .any, .any, .any, .any, .any, .any, .any, .any, .any, .any, .any, .any, .any, .any, .any, .any, .any, .any, .any, .any]
def f126_r12 : List LOp := [
⟨some 34, .move (.tmp 0), none⟩,
⟨some 35, .call ⟨.builtin .len, #[.tmp 34], #[25]⟩, none⟩,
⟨some 36, .move (.tmp 1), none⟩,
⟨some 37, .call ⟨.builtin .len, #[.tmp 36], #[25]⟩, none⟩,
⟨some 38, .binOp .lss 3 (.tmp 35) (.tmp 37) 3, none⟩]
def f126_r13 : List LOp := [
⟨some 6, .assign (.const (.int .i64 (-1))), none⟩]
def f126_r14 : List LOp := [
⟨some 6, .assign (.const (.int .i64 0)), none⟩]
def f126_c : LC := (.seq (.reg f126_r0 [] none) (.seq (.seq (.reg f126_r1 [] none) (.block 0 (.loop f126_l11))) (.seq (.seq (.reg f126_r12 [] none) (.cond (.tmp 38) (.seq (.reg f126_r13 [] none) .ret) .skip)) (.seq (.reg f126_r14 [] none) .ret))))
theorem f126_lc : Tryz.f126.body.map lc = some f126_c.st := by kernel_rfl
theorem f126_res : Tryz.f126.results.toList = [.tmp 6] := by kernel_rfl
theorem f126_nt : Tryz.f126.ntmps = 39 := by kernel_rfl
theorem f126_nm : (Tryz.f126.name == "runtime.NumGoroutine") = false := by kernel_rfl
def f127_r0 : List LOp := [
⟨some 2, .assign (.const (.slice none 0 0)), none⟩]
def f127_r1 : List LOp := [
⟨some 3, .move (.tmp 0), none⟩,
⟨some 4, .call ⟨.value (.func 139), #[.const (.slice none 0 0), .tmp 3], #[25, 132]⟩, none⟩,
⟨some 2, .assign (.tmp 4), none⟩]
def f127_c : LC := (.seq (.reg f127_r0 [] none) (.seq (.reg f127_r1 [] none) .ret))
theorem f127_lc : Tryz.f127.body.map lc = some f127_c.st := by kernel_rfl
theorem f127_res : Tryz.f127.results.toList = [.tmp 2] := by kernel_rfl
theorem f127_nt : Tryz.f127.ntmps = 5 := by kernel_rfl
theorem f127_nm : (Tryz.f127.name == "runtime.NumGoroutine") = false := by kernel_rfl
def f128_r0 : List LOp := [
⟨some 4, .move (.tmp 0), none⟩,
⟨some 5, .move (.tmp 0), none⟩,
⟨some 6, .call ⟨.builtin .len, #[.tmp 5], #[25]⟩, none⟩,
⟨some 7, .move (.tmp 1), none⟩,
⟨some 8, .call ⟨.value (.func 140), #[.tmp 4, .tmp 6, .tmp 7], #[25, 3, 120]⟩, none⟩]
def f128_c : LC := (.reg f128_r0 [] none)
theorem f128_lc : Tryz.f128.body.map lc = some f128_c.st := by kernel_rfl
theorem f128_res : Tryz.f128.results.toList = [] := by kernel_rfl
theorem f128_nt : Tryz.f128.ntmps = 9 := by kernel_rfl
theorem f128_nm : (Tryz.f128.name == "runtime.NumGoroutine") = false := by kernel_rfl
def f129_r0 : List LOp := [
⟨some 5, .load 25 (.tmp 1), none⟩,
⟨some 6, .call ⟨.builtin .len, #[.tmp 5], #[25]⟩, none⟩,
⟨some 7, .move (.const (.int .i64 0)), none⟩]
def f129_r1 : List LOp := [
⟨some 8, .binOp .lss 3 (.tmp 7) (.tmp 6) 3, none⟩]
def f129_r2 : List LOp := [
⟨some 9, .indexAddr 25 (.tmp 5) (.tmp 7), none⟩,
⟨some 10, .load 27 (.tmp 9), none⟩,
⟨some 4, .alloc 27, none⟩,
⟨none, .store 27 (.tmp 4) (.tmp 10), none⟩]
def f129_r3 : List LOp := [
⟨some 11, .move (.tmp 0), none⟩,
⟨some 12, .load 27 (.tmp 4), none⟩,
⟨some 13, .call ⟨.value (.tmp 11), #[.tmp 12], #[27]⟩, none⟩,
⟨some 14, .unOp .not 4 (.tmp 13), none⟩]
def f129_r4 : List LOp := [
⟨some 15, .binOp .add 3 (.tmp 7) (.const (.int .i64 1)) 3, none⟩,
⟨some 7, .move (.tmp 15), none⟩]
def f129_l5 : LC := (.seq (.reg f129_r1 [] none) (.seq (.cond (.tmp 8) .skip (.exit 0)) (.seq (.block 1 (.seq (.reg f129_r2 [] none) (.seq (.reg f129_r3 [] none) (.cond (.tmp 14) .ret .skip)))) (.reg f129_r4 [] none))))
def f129_i5 (t0 t5 t6 t7 : D) : List D := [t0, .any, .any, .any, .any, t5, t6, t7, .any, .any, .any, .any, .any, .any, .any, .any]
def f129_c : LC := (.seq (.reg f129_r0 [] none) (.block 0 (.loop f129_l5)))
theorem f129_lc : Tryz.f129.body.map lc = some f129_c.st := by kernel_rfl
theorem f129_res : Tryz.f129.results.toList = [] := by kernel_rfl
theorem f129_nt : Tryz.f129.ntmps = 16 := by kernel_rfl
theorem f129_nm : (Tryz.f129.name == "runtime.NumGoroutine") = false := by kernel_rfl
def f136_r0 : List LOp := [
⟨some 2, .assign (.const (.bool false)), none⟩]
def f136_r1 : List LOp := [
⟨some 3, .move (.tmp 0), none⟩,
⟨some 4, .move (.tmp 0), none⟩,
⟨some 5, .binOp .neq 5 (.tmp 3) (.tmp 4) 5, none⟩,
⟨some 2, .assign (.tmp 5), none⟩]
def f136_c : LC := (.seq (.reg f136_r0 [] none) (.seq (.reg f136_r1 [] none) .ret))
theorem f136_lc : Tryz.f136.body.map lc = some f136_c.st := by kernel_rfl
theorem f136_res : Tryz.f136.results.toList = [.tmp 2] := by kernel_rfl
theorem f136_nt : Tryz.f136.ntmps = 6 := by kernel_rfl
theorem f136_nm : (Tryz.f136.name == "runtime.NumGoroutine") = false := by kernel_rfl
def f137_r0 : List LOp := [
⟨some 6, .assign (.const (.int .i64 0)), none⟩]
def f137_r1 : List LOp := [
⟨some 11, .move (.tmp 0), none⟩,
⟨some 12, .call ⟨.builtin .len, #[.tmp 11], #[149]⟩, none⟩,
⟨some 13, .move (.const (.int .i64 0)), none⟩]
def f137_r2 : List LOp := [
⟨some 14, .binOp .lss 3 (.tmp 13) (.tmp 12) 3, none⟩]
def f137_r3 : List LOp := [
⟨some 15, .move (.tmp 13), none⟩,
⟨some 16, .indexAddr 149 (.tmp 11) (.tmp 13), none⟩,
⟨some 17, .load 22 (.tmp 16), none⟩,
⟨some 7, .assign (.tmp 15), none⟩,
⟨some 8, .assign (.tmp 17), none⟩]
def f137_r4 : List LOp := [
⟨some 18, .move (.tmp 7), none⟩,
⟨some 19, .move (.tmp 1), none⟩,
⟨some 20, .call ⟨.builtin .len, #[.tmp 19], #[149]⟩, none⟩,
⟨some 21, .binOp .geq 3 (.tmp 18) (.tmp 20) 3, none⟩]
def f137_r5 : List LOp := [
⟨some 6, .assign (.const (.int .i64 1)), none⟩]
def f137_r6 : List LOp := [
⟨some 22, .move (.tmp 1), none⟩,
⟨some 23, .move (.tmp 7), none⟩,
⟨some 24, .indexAddr 149 (.tmp 22) (.tmp 23), none⟩,
⟨some 25, .load 22 (.tmp 24), none⟩,
⟨some 9, .assign (.tmp 25), none⟩]
def f137_r7 : List LOp := [
⟨some 26, .move (.tmp 2), none⟩,
⟨some 27, .move (.tmp 8), none⟩,
⟨some 28, .move (.tmp 9), none⟩,
⟨some 29, .call ⟨.value (.tmp 26), #[.tmp 27, .tmp 28], #[22, 22]⟩, none⟩,
⟨some 10, .assign (.tmp 29), none⟩]
def f137_r8 : List LOp := [
⟨some 30, .move (.tmp 10), none⟩,
⟨some 31, .binOp .neq 3 (.tmp 30) (.const (.int .i64 0)) 3, none⟩]
def f137_r9 : List LOp := [
⟨some 32, .move (.tmp 10), none⟩,
⟨some 6, .assign (.tmp 32), none⟩]
def f137_r10 : List LOp := [
⟨some 33, .binOp .add 3 (.tmp 13) (.const (.int .i64 1)) 3, none⟩,
⟨some 13, .move (.tmp 33), none⟩]
def f137_l11 : LC := (.seq (.reg f137_r2 [] none) (.seq (.cond (.tmp 14) .skip (.exit 0)) (.seq (.block 1 (.seq (.reg f137_r3 [] none) (.seq (.seq (.reg f137_r4 [] none) (.cond (.tmp 21) (.seq (.reg f137_r5 [] none) .ret) .skip)) (.seq (.reg f137_r6 [] none) (.seq (.reg f137_r7 [] none) (.seq (.reg f137_r8 [] none) (.cond (.tmp 31) (.seq (.reg f137_r9 [] none) .ret) .skip))))))) (.reg f137_r10 [] none))))
def f137_i11 (t0 t1 t2 t11 t12 t13 : D) : List D := [t0, t1, t2, .any, .any, .any, .any, .any, .any, .any, .any, t11, t12, t13, .any, .any, .any, .any, .any, .any, .any, .any, .any, .any, .any, .any, .any, .any, .any, .any, .any, .any, .any, .any, .any, .any, .any, .any, .any]
def f137_r12 : List LOp := [
⟨some 34, .move (.tmp 0), none⟩,
⟨some 35, .call ⟨.builtin .len, #[.tmp 34], #[149]⟩, none⟩,
⟨some 36, .move (.tmp 1), none⟩,
⟨some 37, .call ⟨.builtin .len, #[.tmp 36], #[149]⟩, none⟩,
⟨some 38, .binOp .lss 3 (.tmp 35) (.tmp 37) 3, none⟩]
def f137_r13 : List LOp := [
⟨some 6, .assign (.const (.int .i64 (-1))), none⟩]
def f137_r14 : List LOp := [
⟨some 6, .assign (.const (.int .i64 0)), none⟩]
def f137_c : LC := (.seq (.reg f137_r0 [] none) (.seq (.seq (.reg f137_r1 [] none) (.block 0 (.loop f137_l11))) (.seq (.seq (.reg f137_r12 [] none) (.cond (.tmp 38) (.seq (.reg f137_r13 [] none) .ret) .skip)) (.seq (.reg f137_r14 [] none) .ret))))
theorem f137_lc : Tryz.f137.body.map lc = some f137_c.st := by kernel_rfl
theorem f137_res : Tryz.f137.results.toList = [.tmp 6] := by kernel_rfl
theorem f137_nt : Tryz.f137.ntmps = 39 := by kernel_rfl
theorem f137_nm : (Tryz.f137.name == "runtime.NumGoroutine") = false := by kernel_rfl
def f138_r0 : List LOp := [
⟨some 4, .assign (.const (.int .i64 0)), none⟩]
def f138_r1 : List LOp := [
⟨some 7, .move (.tmp 0), none⟩,
⟨some 8, .call ⟨.value (.func 143), #[.tmp 7], #[22]⟩, none⟩,
⟨some 5, .assign (.tmp 8), none⟩]
def f138_r2 : List LOp := [
⟨some 9, .move (.tmp 1), none⟩,
⟨some 10, .call ⟨.value (.func 143), #[.tmp 9], #[22]⟩, none⟩,
⟨some 6, .assign (.tmp 10), none⟩]
def f138_r3 : List LOp := [
⟨some 11, .move (.tmp 5), none⟩]
def f138_r4 : List LOp := [
⟨some 12, .move (.tmp 6), none⟩]
def f138_r5 : List LOp := [
⟨some 4, .assign (.const (.int .i64 0)), none⟩]
def f138_r6 : List LOp := [
⟨some 4, .assign (.const (.int .i64 (-1))), none⟩]
def f138_r7 : List LOp := [
⟨some 13, .move (.tmp 6), none⟩]
def f138_r8 : List LOp := [
⟨some 4, .assign (.const (.int .i64 1)), none⟩]
def f138_r9 : List LOp := [
⟨some 14, .move (.tmp 0), none⟩,
⟨some 15, .move (.tmp 1), none⟩,
⟨some 16, .binOp .lss 22 (.tmp 14) (.tmp 15) 22, none⟩]
def f138_r10 : List LOp := [
⟨some 4, .assign (.const (.int .i64 (-1))), none⟩]
def f138_r11 : List LOp := [
⟨some 17, .move (.tmp 0), none⟩,
⟨some 18, .move (.tmp 1), none⟩,
⟨some 19, .binOp .gtr 22 (.tmp 17) (.tmp 18) 22, none⟩]
def f138_r12 : List LOp := [
⟨some 4, .assign (.const (.int .i64 1)), none⟩]
def f138_r13 : List LOp := [
⟨some 4, .assign (.const (.int .i64 0)), none⟩]
def f138_c : LC := (.seq (.reg f138_r0 [] none) (.seq (.reg f138_r1 [] none) (.seq (.reg f138_r2 [] none) (.seq (.seq (.reg f138_r3 [] none) (.cond (.tmp 11) (.seq (.seq (.reg f138_r4 [] none) (.cond (.tmp 12) (.seq (.reg f138_r5 [] none) .ret) .skip)) (.seq (.reg f138_r6 [] none) .ret)) .skip)) (.seq (.seq (.reg f138_r7 [] none) (.cond (.tmp 13) (.seq (.reg f138_r8 [] none) .ret) .skip)) (.seq (.seq (.reg f138_r9 [] none) (.cond (.tmp 16) (.seq (.reg f138_r10 [] none) .ret) .skip)) (.seq (.seq (.reg f138_r11 [] none) (.cond (.tmp 19) (.seq (.reg f138_r12 [] none) .ret) .skip)) (.seq (.reg f138_r13 [] none) .ret))))))))
theorem f138_lc : Tryz.f138.body.map lc = some f138_c.st := by kernel_rfl
theorem f138_res : Tryz.f138.results.toList = [.tmp 4] := by kernel_rfl
theorem f138_nt : Tryz.f138.ntmps = 20 := by kernel_rfl
theorem f138_nm : (Tryz.f138.name == "runtime.NumGoroutine") = false := by kernel_rfl
def f139_r0 : List LOp := [
⟨some 2, .box 25 (.tmp 0), none⟩,
⟨some 4, .assign (.const (.slice none 0 0)), none⟩]
def f139_r1 : List LOp := [
⟨some 6, .move (.tmp 1), none⟩]
def f139_r2 : List LOp := [
⟨some 5, .alloc 27, none⟩,
⟨none, .store 27 (.tmp 5) (.tmp 7), none⟩]
def f139_r3 : List LOp := [
⟨some 8, .load 25 (.tmp 2), none⟩,
⟨some 9, .load 27 (.tmp 5), none⟩,
⟨some 10, .call ⟨.builtin .len, #[.tmp 8], #[25]⟩, none⟩,
⟨some 11, .buildSlice 25 1 #[(0, .const (.agg #[.int .u8 0, .int .u64 0, .int .u64 0, .int .u64 0, .int .u64 0, .slice none 0 0]))], none⟩,
⟨some 12, .call ⟨.builtin .append, #[.tmp 8, .tmp 11], #[25, 25]⟩, none⟩,
⟨some 13, .indexAddr 25 (.tmp 12) (.tmp 10), none⟩,
⟨none, .store 27 (.tmp 13) (.tmp 9), none⟩,
⟨none, .store 25 (.tmp 2) (.tmp 12), none⟩]
def f139_a4 : LC := (.reg f139_r2 [] none)
def f139_b4 : LC := (.block 1 (.regt f139_r3 [] 4 (.op 4 (.both (.op 5 (.both (.op 6 (.op 7 .done)) (.op 7 (.op 6 .done)))) (.op 7 (.op 5 (.op 6 .done)))))))
def f139_r5 : List LOp := [
⟨some 14, .load 25 (.tmp 2), none⟩,
⟨some 4, .assign (.tmp 14), none⟩]
def f139_c : LC := (.seq (.reg f139_r0 [0] none) (.seq (.seq (.reg f139_r1 [] none) (.block 0 (.rfun (.tmp 6) [7] f139_a4 f139_b4))) (.seq (.reg f139_r5 [] none) .ret)))
theorem f139_lc : Tryz.f139.body.map lc = some f139_c.st := by kernel_rfl
theorem f139_res : Tryz.f139.results.toList = [.tmp 4] := by kernel_rfl
theorem f139_nt : Tryz.f139.ntmps = 15 := by kernel_rfl
theorem f139_nm : (Tryz.f139.name == "runtime.NumGoroutine") = false := by kernel_rfl
def f140_r0 : List LOp := [
⟨some 6, .assign (.const (.int .i64 20)), none⟩]
def f140_r1 : List LOp := [
⟨some 10, .move (.tmp 6), none⟩,
⟨some 7, .assign (.const (.int .i64 0)), none⟩,
⟨some 8, .assign (.tmp 10), none⟩]
def f140_r2 : List LOp := [
⟨some 11, .move (.tmp 8), none⟩,
⟨some 12, .move (.tmp 1), none⟩,
⟨some 13, .binOp .leq 3 (.tmp 11) (.tmp 12) 3, none⟩]
def f140_r3 : List LOp := [
⟨some 14, .move (.tmp 0), none⟩,
⟨some 15, .move (.tmp 7), none⟩,
⟨some 16, .move (.tmp 8), none⟩,
⟨some 17, .move (.tmp 2), none⟩,
⟨some 18, .call ⟨.value (.func 144), #[.tmp 14, .tmp 15, .tmp 16, .tmp 17], #[25, 3, 3, 120]⟩, none⟩]
def f140_r4 : List LOp := [
⟨some 19, .move (.tmp 8), none⟩,
⟨some 7, .assign (.tmp 19), none⟩]
def f140_r5 : List LOp := [
⟨some 20, .move (.tmp 8), none⟩,
⟨some 21, .move (.tmp 6), none⟩,
⟨some 22, .binOp .add 3 (.tmp 20) (.tmp 21) 3, none⟩,
⟨some 8, .assign (.tmp 22), none⟩]
def f140_l6 : LC := (.seq (.seq (.reg f140_r2 [] none) (.cond (.tmp 13) .skip (.exit 0))) (.block 1 (.seq (.reg f140_r3 [] none) (.seq (.reg f140_r4 [] none) (.reg f140_r5 [] none)))))
def f140_i6 (t0 t1 t2 t6 t7 t8 : D) : List D := [t0, t1, t2, .any, .any, .any, t6, t7, t8, .any, .any, .any, .any, .any, .any, .any, .any, .any, .any, .any, .any, .any, .any, .any, .any, .any, .any, .any, .any, .any, .any, .any, .any, .any, .any, .any, .any, .any, .any, .any, .any, .any, .any, .any, .any, .any, .any, .any, .any, .any, .any, .any, .any, .any, .any, .any, .any, .any, .any, .any, .any, .any, .any]
def f140_r7 : List LOp := [
⟨some 23, .move (.tmp 0), none⟩,
⟨some 24, .move (.tmp 7), none⟩,
⟨some 25, .move (.tmp 1), none⟩,
⟨some 26, .move (.tmp 2), none⟩,
⟨some 27, .call ⟨.value (.func 144), #[.tmp 23, .tmp 24, .tmp 25, .tmp 26], #[25, 3, 3, 120]⟩, none⟩]
def f140_r8 : List LOp := [
⟨some 28, .move (.tmp 6), none⟩,
⟨some 29, .move (.tmp 1), none⟩,
⟨some 30, .binOp .lss 3 (.tmp 28) (.tmp 29) 3, none⟩]
def f140_r9 : List LOp := [
⟨some 31, .move (.tmp 6), none⟩,
⟨some 32, .binOp .mul 3 (.const (.int .i64 2)) (.tmp 31) 3, none⟩,
⟨some 7, .assign (.const (.int .i64 0)), none⟩,
⟨some 8, .assign (.tmp 32), none⟩]
def f140_r10 : List LOp := [
⟨some 33, .move (.tmp 8), none⟩,
⟨some 34, .move (.tmp 1), none⟩,
⟨some 35, .binOp .leq 3 (.tmp 33) (.tmp 34) 3, none⟩]
def f140_r11 : List LOp := [
⟨some 36, .move (.tmp 0), none⟩,
⟨some 37, .move (.tmp 7), none⟩,
⟨some 38, .move (.tmp 7), none⟩,
⟨some 39, .move (.tmp 6), none⟩,
⟨some 40, .binOp .add 3 (.tmp 38) (.tmp 39) 3, none⟩,
⟨some 41, .move (.tmp 8), none⟩,
⟨some 42, .move (.tmp 2), none⟩,
⟨some 43, .call ⟨.value (.func 145), #[.tmp 36, .tmp 37, .tmp 40, .tmp 41, .tmp 42], #[25, 3, 3, 3, 120]⟩, none⟩]
def f140_r12 : List LOp := [
⟨some 44, .move (.tmp 8), none⟩,
⟨some 7, .assign (.tmp 44), none⟩]
def f140_r13 : List LOp := [
⟨some 45, .move (.tmp 8), none⟩,
⟨some 46, .move (.tmp 6), none⟩,
⟨some 47, .binOp .mul 3 (.const (.int .i64 2)) (.tmp 46) 3, none⟩,
⟨some 48, .binOp .add 3 (.tmp 45) (.tmp 47) 3, none⟩,
⟨some 8, .assign (.tmp 48), none⟩]
def f140_l14 : LC := (.seq (.seq (.reg f140_r10 [] none) (.cond (.tmp 35) .skip (.exit 4))) (.block 5 (.seq (.reg f140_r11 [] none) (.seq (.reg f140_r12 [] none) (.reg f140_r13 [] none)))))
def f140_i14 (t0 t1 t2 t6 t7 t8 : D) : List D := [t0, t1, t2, .any, .any, .any, t6, t7, t8, .any, .any, .any, .any, .any, .any, .any, .any, .any, .any, .any, .any, .any, .any, .any, .any, .any, .any, .any, .any, .any, .any, .any, .any, .any, .any, .any, .any, .any, .any, .any, .any, .any, .any, .any, .any, .any, .any, .any, .any, .any, .any, .any, .any, .any, .any, .any, .any, .any, .any, .any, .any, .any, .any]
def f140_r15 : List LOp := [
⟨some 49, .move (.tmp 7), none⟩,
⟨some 50, .move (.tmp 6), none⟩,
⟨some 51, .binOp .add 3 (.tmp 49) (.tmp 50) 3, none⟩,
⟨some 9, .assign (.tmp 51), none⟩]
def f140_r16 : List LOp := [
⟨some 52, .move (.tmp 9), none⟩,
⟨some 53, .move (.tmp 1), none⟩,
⟨some 54, .binOp .lss 3 (.tmp 52) (.tmp 53) 3, none⟩]
def f140_r17 : List LOp := [
⟨some 55, .move (.tmp 0), none⟩,
⟨some 56, .move (.tmp 7), none⟩,
⟨some 57, .move (.tmp 9), none⟩,
⟨some 58, .move (.tmp 1), none⟩,
⟨some 59, .move (.tmp 2), none⟩,
⟨some 60, .call ⟨.value (.func 145), #[.tmp 55, .tmp 56, .tmp 57, .tmp 58, .tmp 59], #[25, 3, 3, 3, 120]⟩, none⟩]
def f140_r18 : List LOp := [
⟨some 61, .move (.tmp 6), none⟩,
⟨some 62, .binOp .mul 3 (.tmp 61) (.const (.int .i64 2)) 3, none⟩,
⟨some 6, .assign (.tmp 62), none⟩]
def f140_l19 : LC := (.seq (.seq (.reg f140_r8 [] none) (.cond (.tmp 30) .skip (.exit 2))) (.block 3 (.seq (.reg f140_r9 [] none) (.seq (.block 4 (.loop f140_l14)) (.seq (.seq (.reg f140_r15 [] none) (.seq (.reg f140_r16 [] none) (.cond (.tmp 54) (.reg f140_r17 [] none) .skip))) (.reg f140_r18 [] none))))))
def f140_i19 (t0 t1 t2 t6 : D) : List D := [t0, t1, t2, .any, .any, .any, t6, .any, .any, .any, .any, .any, .any, .any, .any, .any, .any, .any, .any, .any, .any, .any, .any, .any, .any, .any, .any, .any, .any, .any, .any, .any, .any, .any, .any, .any, .any, .any, .any, .any, .any, .any, .any, .any, .any, .any, .any, .any, .any, .any, .any, .any, .any, .any, .any, .any, .any, .any, .any, .any, .any, .any, .any]
def f140_c : LC := (.seq (.reg f140_r0 [] none) (.seq (.reg f140_r1 [] none) (.seq (.block 0 (.loop f140_l6)) (.seq (.reg f140_r7 [] none) (.block 2 (.loop f140_l19))))))
theorem f140_lc : Tryz.f140.body.map lc = some f140_c.st := by kernel_rfl
theorem f140_res : Tryz.f140.results.toList = [] := by kernel_rfl
theorem f140_nt : Tryz.f140.ntmps = 63 := by kernel_rfl
theorem f140_nm : (Tryz.f140.name == "runtime.NumGoroutine") = false := by kernel_rfl
def f143_r0 : List LOp := [
⟨some 2, .assign (.const (.bool false)), none⟩]
def f143_r1 : List LOp := [
⟨some 3, .move (.tmp 0), none⟩,
⟨some 4, .move (.tmp 0), none⟩,
⟨some 5, .binOp .neq 22 (.tmp 3) (.tmp 4) 22, none⟩,
⟨some 2, .assign (.tmp 5), none⟩]
def f143_c : LC := (.seq (.reg f143_r0 [] none) (.seq (.reg f143_r1 [] none) .ret))
theorem f143_lc : Tryz.f143.body.map lc = some f143_c.st := by kernel_rfl
theorem f143_res : Tryz.f143.results.toList = [.tmp 2] := by kernel_rfl
theorem f143_nt : Tryz.f143.ntmps = 6 := by kernel_rfl
theorem f143_nm : (Tryz.f143.name == "runtime.NumGoroutine") = false := by kernel_rfl
def f144_r0 : List LOp := [
⟨some 10, .move (.tmp 1), none⟩,
⟨some 11, .binOp .add 3 (.tmp 10) (.const (.int .i64 1)) 3, none⟩,
⟨some 8, .assign (.tmp 11), none⟩]
def f144_r1 : List LOp := [
⟨some 12, .move (.tmp 8), none⟩,
⟨some 13, .move (.tmp 2), none⟩,
⟨some 14, .binOp .lss 3 (.tmp 12) (.tmp 13) 3, none⟩]
def f144_r2 : List LOp := [
⟨some 17, .move (.tmp 8), none⟩,
⟨some 9, .assign (.tmp 17), none⟩]
def f144_r3 : List LOp := [
⟨some 18, .move (.tmp 9), none⟩,
⟨some 19, .move (.tmp 1), none⟩,
⟨some 20, .binOp .gtr 3 (.tmp 18) (.tmp 19) 3, none⟩,
⟨some 21, .move (.tmp 20), none⟩,
⟨some 22, .move (.tmp 3), some (3, true)⟩,
⟨some 23, .move (.tmp 0), some (3, true)⟩,
⟨some 24, .move (.tmp 9), some (3, true)⟩,
⟨some 25, .indexAddr 25 (.tmp 23) (.tmp 24), some (3, true)⟩,
⟨some 26, .load 27 (.tmp 25), some (3, true)⟩,
⟨some 27, .move (.tmp 0), some (3, true)⟩,
⟨some 28, .move (.tmp 9), some (3, true)⟩,
⟨some 29, .binOp .sub 3 (.tmp 28) (.const (.int .i64 1)) 3, some (3, true)⟩,
⟨some 30, .indexAddr 25 (.tmp 27) (.tmp 29), some (3, true)⟩,
⟨some 31, .load 27 (.tmp 30), some (3, true)⟩,
⟨some 32, .call ⟨.value (.tmp 22), #[.tmp 26, .tmp 31], #[27, 27]⟩, some (3, true)⟩,
⟨some 33, .binOp .lss 3 (.tmp 32) (.const (.int .i64 0)) 3, some (3, true)⟩,
⟨some 34, .pick (.tmp 21) (.tmp 33) (.const (.bool false)), none⟩]
def f144_r4 : List LOp := [
⟨some 37, .move (.tmp 0), none⟩,
⟨some 38, .move (.tmp 9), none⟩,
⟨some 39, .move (.tmp 0), none⟩,
⟨some 40, .move (.tmp 9), none⟩,
⟨some 41, .binOp .sub 3 (.tmp 40) (.const (.int .i64 1)) 3, none⟩,
⟨some 42, .move (.tmp 0), none⟩,
⟨some 43, .move (.tmp 9), none⟩,
⟨some 44, .binOp .sub 3 (.tmp 43) (.const (.int .i64 1)) 3, none⟩,
⟨some 45, .indexAddr 25 (.tmp 42) (.tmp 44), none⟩,
⟨some 46, .load 27 (.tmp 45), none⟩,
⟨some 47, .move (.tmp 0), none⟩,
⟨some 48, .move (.tmp 9), none⟩,
⟨some 49, .indexAddr 25 (.tmp 47) (.tmp 48), none⟩,
⟨some 50, .load 27 (.tmp 49), none⟩,
⟨some 51, .indexAddr 25 (.tmp 37) (.tmp 38), none⟩,
⟨none, .store 27 (.tmp 51) (.tmp 46), none⟩,
⟨some 52, .indexAddr 25 (.tmp 39) (.tmp 41), none⟩,
⟨none, .store 27 (.tmp 52) (.tmp 50), none⟩]
def f144_r5 : List LOp := [
⟨some 35, .move (.tmp 9), none⟩,
⟨some 36, .binOp .sub 3 (.tmp 35) (.const (.int .i64 1)) 3, none⟩,
⟨some 9, .assign (.tmp 36), none⟩]
def f144_l6 : LC := (.seq (.seq (.reg f144_r3 [] (some 14)) (.cond (.tmp 34) .skip (.exit 2))) (.seq (.block 3 (.regp f144_r4 [] [0, 1, 2, 3, 4, 5, 6, 7, 10, 11] 14)) (.reg f144_r5 [] none)))
def f144_i6 (t0 t1 t2 t3 t8 t9 : D) : List D := [t0, t1, t2, t3, .any, .any, .any, .any, t8, t9, .any, .any, .any, .any, .any, .any, .any, .any, .any, .any, .any, .any, .any, .any, .any, .any, .any, .any, .any, .any, .any, .any, .any, .any, .any, .any, .any, .any, .any, .any, .any, .any, .any, .any, .any, .any, .any, .any, .any, .any, .any, .any, .any]
def f144_r7 : List LOp := [
⟨some 15, .move (.tmp 8), none⟩,
⟨some 16, .binOp .add 3 (.tmp 15) (.const (.int .i64 1)) 3, none⟩,
⟨some 8, .assign (.tmp 16), none⟩]
def f144_l8 : LC := (.seq (.seq (.reg f144_r1 [] none) (.cond (.tmp 14) .skip (.exit 0))) (.seq (.block 1 (.seq (.reg f144_r2 [] none) (.block 2 (.loop f144_l6)))) (.reg f144_r7 [] none)))
def f144_i8 (t0 t1 t2 t3 t8 : D) : List D := [t0, t1, t2, t3, .any, .any, .any, .any, t8, .any, .any, .any, .any, .any, .any, .any, .any, .any, .any, .any, .any, .any, .any, .any, .any, .any, .any, .any, .any, .any, .any, .any, .any, .any, .any, .any, .any, .any, .any, .any, .any, .any, .any, .any, .any, .any, .any, .any, .any, .any, .any, .any, .any]
def f144_c : LC := (.seq (.reg f144_r0 [] none) (.block 0 (.loop f144_l8)))
theorem f144_lc : Tryz.f144.body.map lc = some f144_c.st := by kernel_rfl
theorem f144_res : Tryz.f144.results.toList = [] := by kernel_rfl
theorem f144_nt : Tryz.f144.ntmps = 53 := by kernel_rfl
theorem f144_nm : (Tryz.f144.name == "runtime.NumGoroutine") = false := by kernel_rfl
def f145_r0 : List LOp := [
⟨some 25, .move (.tmp 2), none⟩,
⟨some 26, .move (.tmp 1), none⟩,
⟨some 27, .binOp .sub 3 (.tmp 25) (.tmp 26) 3, none⟩,
⟨some 28, .binOp .eql 3 (.tmp 27) (.const (.int .i64 1)) 3, none⟩]
def f145_r1 : List LOp := [
⟨some 29, .move (.tmp 2), none⟩,
⟨some 10, .assign (.tmp 29), none⟩]
def f145_r2 : List LOp := [
⟨some 30, .move (.tmp 3), none⟩,
⟨some 11, .assign (.tmp 30), none⟩]
def f145_r3 : List LOp := [
⟨some 31, .move (.tmp 10), none⟩,
⟨some 32, .move (.tmp 11), none⟩,
⟨some 33, .binOp .lss 3 (.tmp 31) (.tmp 32) 3, none⟩]
def f145_r4 : List LOp := [
⟨some 34, .move (.tmp 10), none⟩,
⟨some 35, .move (.tmp 11), none⟩,
⟨some 36, .binOp .add 3 (.tmp 34) (.tmp 35) 3, none⟩,
⟨some 37, .convert 3 137 (.tmp 36), none⟩,
⟨some 38, .binOp .shr 137 (.tmp 37) (.const (.int .u64 1)) 137, none⟩,
⟨some 39, .convert 137 3 (.tmp 38), none⟩,
⟨some 12, .assign (.tmp 39), none⟩]
def f145_r5 : List LOp := [
⟨some 40, .move (.tmp 4), none⟩,
⟨some 41, .move (.tmp 0), none⟩,
⟨some 42, .move (.tmp 12), none⟩,
⟨some 43, .indexAddr 25 (.tmp 41) (.tmp 42), none⟩,
⟨some 44, .load 27 (.tmp 43), none⟩,
⟨some 45, .move (.tmp 0), none⟩,
⟨some 46, .move (.tmp 1), none⟩,
⟨some 47, .indexAddr 25 (.tmp 45) (.tmp 46), none⟩,
⟨some 48, .load 27 (.tmp 47), none⟩,
⟨some 49, .call ⟨.value (.tmp 40), #[.tmp 44, .tmp 48], #[27, 27]⟩, none⟩,
⟨some 50, .binOp .lss 3 (.tmp 49) (.const (.int .i64 0)) 3, none⟩]
def f145_r6 : List LOp := [
⟨some 51, .move (.tmp 12), none⟩,
⟨some 52, .binOp .add 3 (.tmp 51) (.const (.int .i64 1)) 3, none⟩,
⟨some 10, .assign (.tmp 52), none⟩]
def f145_r7 : List LOp := [
⟨some 53, .move (.tmp 12), none⟩,
⟨some 11, .assign (.tmp 53), none⟩]
def f145_l8 : LC := (.seq (.seq (.reg f145_r3 [] none) (.cond (.tmp 33) .skip (.exit 0))) (.block 1 (.seq (.reg f145_r4 [] none) (.seq (.reg f145_r5 [] (some 9)) (.cond (.tmp 50) (.reg f145_r6 [] none) (.reg f145_r7 [] none))))))
def f145_i8 (t0 t1 t4 t10 t11 : D) : List D := [t0, t1, .any, .any, t4, .any, .any, .any, .any, .any, t10, t11, .any, .any, .any, .any, .any, .any, .any, .any, .any, .any, .any, .any, .any, .any, .any, .any, .any, .any, .any, .any, .any, .any, .any, .any, .any, .any, .any, .any, .any, .any, .any, .any, .any, .any, .any, .any, .any, .any, .any, .any, .any, .any, .any, .any, .any, .any, .any, .any, .any, .any, .any, .any, .any, .any, .any, .any, .any, .any, .any, .any, .any, .any, .any, .any, .any, .any, .any, .any, .any, .any, .any, .any, .any, .any, .any, .any, .any, .any, .any, .any, .any, .any, .any, .any, .any, .any, .any, .any, .any, .any, .any, .any, .any, .any, .any, .any, .any, .any, .any, .any, .any, .any, .any, .any, .any, .any, .any, .any, .any, .any, .any, .any, .any, .any, .any, .any, .any, .any, .any, .any, .any, .any, .any, .any, .any, .any, .any, .any, .any, .any, .any, .any, .any, .any, .any, .any, .any, .any, .any, .any, .any, .any, .any, .any, .any, .any, .any, .any, .any, .any, .any, .any, .any, .any, .any, .any, .any, .any, .any, .any, .any, .any, .any, .any, .any, .any, .any, .any, .any, .any, .any, .any, .any, .any, .any, .any, .any, .any, .any, .any, .any, .any, .any, .any, .any, .any, .any, .any, .any, .any, .any, .any, .any, .any, .any, .any, .any, .any, .any, .any, .any, .any, .any, .any, .any, .any, .any, .any]
def f145_r9 : List LOp := [
⟨some 54, .move (.tmp 1), none⟩,
⟨some 13, .assign (.tmp 54), none⟩]
def f145_r10 : List LOp := [
⟨some 55, .move (.tmp 13), none⟩,
⟨some 56, .move (.tmp 10), none⟩,
⟨some 57, .binOp .sub 3 (.tmp 56) (.const (.int .i64 1)) 3, none⟩,
⟨some 58, .binOp .lss 3 (.tmp 55) (.tmp 57) 3, none⟩]
def f145_r11 : List LOp := [
⟨some 61, .move (.tmp 0), none⟩,
⟨some 62, .move (.tmp 13), none⟩,
⟨some 63, .move (.tmp 0), none⟩,
⟨some 64, .move (.tmp 13), none⟩,
⟨some 65, .binOp .add 3 (.tmp 64) (.const (.int .i64 1)) 3, none⟩,
⟨some 66, .move (.tmp 0), none⟩,
⟨some 67, .move (.tmp 13), none⟩,
⟨some 68, .binOp .add 3 (.tmp 67) (.const (.int .i64 1)) 3, none⟩,
⟨some 69, .indexAddr 25 (.tmp 66) (.tmp 68), none⟩,
⟨some 70, .load 27 (.tmp 69), none⟩,
⟨some 71, .move (.tmp 0), none⟩,
⟨some 72, .move (.tmp 13), none⟩,
⟨some 73, .indexAddr 25 (.tmp 71) (.tmp 72), none⟩,
⟨some 74, .load 27 (.tmp 73), none⟩,
⟨some 75, .indexAddr 25 (.tmp 61) (.tmp 62), none⟩,
⟨none, .store 27 (.tmp 75) (.tmp 70), none⟩,
⟨some 76, .indexAddr 25 (.tmp 63) (.tmp 65), none⟩,
⟨none, .store 27 (.tmp 76) (.tmp 74), none⟩]
def f145_r12 : List LOp := [
⟨some 59, .move (.tmp 13), none⟩,
⟨some 60, .binOp .add 3 (.tmp 59) (.const (.int .i64 1)) 3, none⟩,
⟨some 13, .assign (.tmp 60), none⟩]
def f145_l13 : LC := (.seq (.seq (.reg f145_r10 [] none) (.cond (.tmp 58) .skip (.exit 2))) (.seq (.block 3 (.regp f145_r11 [] [0, 1, 2, 3, 4, 5, 6, 7, 10, 11] 14)) (.reg f145_r12 [] none)))
def f145_i13 (t0 t10 t13 : D) : List D := [t0, .any, .any, .any, .any, .any, .any, .any, .any, .any, t10, .any, .any, t13, .any, .any, .any, .any, .any, .any, .any, .any, .any, .any, .any, .any, .any, .any, .any, .any, .any, .any, .any, .any, .any, .any, .any, .any, .any, .any, .any, .any, .any, .any, .any, .any, .any, .any, .any, .any, .any, .any, .any, .any, .any, .any, .any, .any, .any, .any, .any, .any, .any, .any, .any, .any, .any, .any, .any, .any, .any, .any, .any, .any, .any, .any, .any, .any, .any, .any, .any, .any, .any, .any, .any, .any, .any, .any, .any, .any, .any, .any, .any, .any, .any, .any, .any, .any, .any, .any, .any, .any, .any, .any, .any, .any, .any, .any, .any, .any, .any, .any, .any, .any, .any, .any, .any, .any, .any, .any, .any, .any, .any, .any, .any, .any, .any, .any, .any, .any, .any, .any, .any, .any, .any, .any, .any, .any, .any, .any, .any, .any, .any, .any, .any, .any, .any, .any, .any, .any, .any, .any, .any, .any, .any, .any, .any, .any, .any, .any, .any, .any, .any, .any, .any, .any, .any, .any, .any, .any, .any, .any, .any, .any, .any, .any, .any, .any, .any, .any, .any, .any, .any, .any, .any, .any, .any, .any, .any, .any, .any, .any, .any, .any, .any, .any, .any, .any, .any, .any, .any, .any, .any, .any, .any, .any, .any, .any, .any, .any, .any, .any, .any, .any, .any, .any, .any, .any, .any, .any]
def f145_r14 : List LOp := [
⟨some 77, .move (.tmp 3), none⟩,
⟨some 78, .move (.tmp 2), none⟩,
⟨some 79, .binOp .sub 3 (.tmp 77) (.tmp 78) 3, none⟩,
⟨some 80, .binOp .eql 3 (.tmp 79) (.const (.int .i64 1)) 3, none⟩]
def f145_r15 : List LOp := [
⟨some 81, .move (.tmp 1), none⟩,
⟨some 14, .assign (.tmp 81), none⟩]
def f145_r16 : List LOp := [
⟨some 82, .move (.tmp 2), none⟩,
⟨some 15, .assign (.tmp 82), none⟩]
def f145_r17 : List LOp := [
⟨some 83, .move (.tmp 14), none⟩,
⟨some 84, .move (.tmp 15), none⟩,
⟨some 85, .binOp .lss 3 (.tmp 83) (.tmp 84) 3, none⟩]
def f145_r18 : List LOp := [
⟨some 86, .move (.tmp 14), none⟩,
⟨some 87, .move (.tmp 15), none⟩,
⟨some 88, .binOp .add 3 (.tmp 86) (.tmp 87) 3, none⟩,
⟨some 89, .convert 3 137 (.tmp 88), none⟩,
⟨some 90, .binOp .shr 137 (.tmp 89) (.const (.int .u64 1)) 137, none⟩,
⟨some 91, .convert 137 3 (.tmp 90), none⟩,
⟨some 16, .assign (.tmp 91), none⟩]
def f145_r19 : List LOp := [
⟨some 92, .move (.tmp 4), none⟩,
⟨some 93, .move (.tmp 0), none⟩,
⟨some 94, .move (.tmp 2), none⟩,
⟨some 95, .indexAddr 25 (.tmp 93) (.tmp 94), none⟩,
⟨some 96, .load 27 (.tmp 95), none⟩,
⟨some 97, .move (.tmp 0), none⟩,
⟨some 98, .move (.tmp 16), none⟩,
⟨some 99, .indexAddr 25 (.tmp 97) (.tmp 98), none⟩,
⟨some 100, .load 27 (.tmp 99), none⟩,
⟨some 101, .call ⟨.value (.tmp 92), #[.tmp 96, .tmp 100], #[27, 27]⟩, none⟩,
⟨some 102, .binOp .lss 3 (.tmp 101) (.const (.int .i64 0)) 3, none⟩,
⟨some 103, .unOp .not 4 (.tmp 102), none⟩]
def f145_r20 : List LOp := [
⟨some 104, .move (.tmp 16), none⟩,
⟨some 105, .binOp .add 3 (.tmp 104) (.const (.int .i64 1)) 3, none⟩,
⟨some 14, .assign (.tmp 105), none⟩]
def f145_r21 : List LOp := [
⟨some 106, .move (.tmp 16), none⟩,
⟨some 15, .assign (.tmp 106), none⟩]
def f145_l22 : LC := (.seq (.seq (.reg f145_r17 [] none) (.cond (.tmp 85) .skip (.exit 4))) (.block 5 (.seq (.reg f145_r18 [] none) (.seq (.reg f145_r19 [] (some 9)) (.cond (.tmp 103) (.reg f145_r20 [] none) (.reg f145_r21 [] none))))))
def f145_i22 (t0 t2 t4 t14 t15 : D) : List D := [t0, .any, t2, .any, t4, .any, .any, .any, .any, .any, .any, .any, .any, .any, t14, t15, .any, .any, .any, .any, .any, .any, .any, .any, .any, .any, .any, .any, .any, .any, .any, .any, .any, .any, .any, .any, .any, .any, .any, .any, .any, .any, .any, .any, .any, .any, .any, .any, .any, .any, .any, .any, .any, .any, .any, .any, .any, .any, .any, .any, .any, .any, .any, .any, .any, .any, .any, .any, .any, .any, .any, .any, .any, .any, .any, .any, .any, .any, .any, .any, .any, .any, .any, .any, .any, .any, .any, .any, .any, .any, .any, .any, .any, .any, .any, .any, .any, .any, .any, .any, .any, .any, .any, .any, .any, .any, .any, .any, .any, .any, .any, .any, .any, .any, .any, .any, .any, .any, .any, .any, .any, .any, .any, .any, .any, .any, .any, .any, .any, .any, .any, .any, .any, .any, .any, .any, .any, .any, .any, .any, .any, .any, .any, .any, .any, .any, .any, .any, .any, .any, .any, .any, .any, .any, .any, .any, .any, .any, .any, .any, .any, .any, .any, .any, .any, .any, .any, .any, .any, .any, .any, .any, .any, .any, .any, .any, .any, .any, .any, .any, .any, .any, .any, .any, .any, .any, .any, .any, .any, .any, .any, .any, .any, .any, .any, .any, .any, .any, .any, .any, .any, .any, .any, .any, .any, .any, .any, .any, .any, .any, .any, .any, .any, .any, .any, .any, .any, .any, .any, .any]
def f145_r23 : List LOp := [
⟨some 107, .move (.tmp 2), none⟩,
⟨some 17, .assign (.tmp 107), none⟩]
def f145_r24 : List LOp := [
⟨some 108, .move (.tmp 17), none⟩,
⟨some 109, .move (.tmp 14), none⟩,
⟨some 110, .binOp .gtr 3 (.tmp 108) (.tmp 109) 3, none⟩]
def f145_r25 : List LOp := [
⟨some 113, .move (.tmp 0), none⟩,
⟨some 114, .move (.tmp 17), none⟩,
⟨some 115, .move (.tmp 0), none⟩,
⟨some 116, .move (.tmp 17), none⟩,
⟨some 117, .binOp .sub 3 (.tmp 116) (.const (.int .i64 1)) 3, none⟩,
⟨some 118, .move (.tmp 0), none⟩,
⟨some 119, .move (.tmp 17), none⟩,
⟨some 120, .binOp .sub 3 (.tmp 119) (.const (.int .i64 1)) 3, none⟩,
⟨some 121, .indexAddr 25 (.tmp 118) (.tmp 120), none⟩,
⟨some 122, .load 27 (.tmp 121), none⟩,
⟨some 123, .move (.tmp 0), none⟩,
⟨some 124, .move (.tmp 17), none⟩,
⟨some 125, .indexAddr 25 (.tmp 123) (.tmp 124), none⟩,
⟨some 126, .load 27 (.tmp 125), none⟩,
⟨some 127, .indexAddr 25 (.tmp 113) (.tmp 114), none⟩,
⟨none, .store 27 (.tmp 127) (.tmp 122), none⟩,
⟨some 128, .indexAddr 25 (.tmp 115) (.tmp 117), none⟩,
⟨none, .store 27 (.tmp 128) (.tmp 126), none⟩]
def f145_r26 : List LOp := [
⟨some 111, .move (.tmp 17), none⟩,
⟨some 112, .binOp .sub 3 (.tmp 111) (.const (.int .i64 1)) 3, none⟩,
⟨some 17, .assign (.tmp 112), none⟩]
def f145_l27 : LC := (.seq (.seq (.reg f145_r24 [] none) (.cond (.tmp 110) .skip (.exit 6))) (.seq (.block 7 (.regp f145_r25 [] [0, 1, 2, 3, 4, 5, 6, 7, 10, 11] 14)) (.reg f145_r26 [] none)))
def f145_i27 (t0 t14 t17 : D) : List D := [t0, .any, .any, .any, .any, .any, .any, .any, .any, .any, .any, .any, .any, .any, t14, .any, .any, t17, .any, .any, .any, .any, .any, .any, .any, .any, .any, .any, .any, .any, .any, .any, .any, .any, .any, .any, .any, .any, .any, .any, .any, .any, .any, .any, .any, .any, .any, .any, .any, .any, .any, .any, .any, .any, .any, .any, .any, .any, .any, .any, .any, .any, .any, .any, .any, .any, .any, .any, .any, .any, .any, .any, .any, .any, .any, .any, .any, .any, .any, .any, .any, .any, .any, .any, .any, .any, .any, .any, .any, .any, .any, .any, .any, .any, .any, .any, .any, .any, .any, .any, .any, .any, .any, .any, .any, .any, .any, .any, .any, .any, .any, .any, .any, .any, .any, .any, .any, .any, .any, .any, .any, .any, .any, .any, .any, .any, .any, .any, .any, .any, .any, .any, .any, .any, .any, .any, .any, .any, .any, .any, .any, .any, .any, .any, .any, .any, .any, .any, .any, .any, .any, .any, .any, .any, .any, .any, .any, .any, .any, .any, .any, .any, .any, .any, .any, .any, .any, .any, .any, .any, .any, .any, .any, .any, .any, .any, .any, .any, .any, .any, .any, .any, .any, .any, .any, .any, .any, .any, .any, .any, .any, .any, .any, .any, .any, .any, .any, .any, .any, .any, .any, .any, .any, .any, .any, .any, .any, .any, .any, .any, .any, .any, .any, .any, .any, .any, .any, .any, .any, .any]
def f145_r28 : List LOp := [
⟨some 129, .move (.tmp 1), none⟩,
⟨some 130, .move (.tmp 3), none⟩,
⟨some 131, .binOp .add 3 (.tmp 129) (.tmp 130) 3, none⟩,
⟨some 132, .convert 3 137 (.tmp 131), none⟩,
⟨some 133, .binOp .shr 137 (.tmp 132) (.const (.int .u64 1)) 137, none⟩,
⟨some 134, .convert 137 3 (.tmp 133), none⟩,
⟨some 18, .assign (.tmp 134), none⟩]
def f145_r29 : List LOp := [
⟨some 135, .move (.tmp 18), none⟩,
⟨some 136, .move (.tmp 2), none⟩,
⟨some 137, .binOp .add 3 (.tmp 135) (.tmp 136) 3, none⟩,
⟨some 19, .assign (.tmp 137), none⟩]
def f145_r30 : List LOp := [
⟨some 20, .assign (.const (.int .i64 0)), none⟩,
⟨some 21, .assign (.const (.int .i64 0)), none⟩]
def f145_r31 : List LOp := [
⟨some 138, .move (.tmp 2), none⟩,
⟨some 139, .move (.tmp 18), none⟩,
⟨some 140, .binOp .gtr 3 (.tmp 138) (.tmp 139) 3, none⟩]
def f145_r32 : List LOp := [
⟨some 141, .move (.tmp 19), none⟩,
⟨some 142, .move (.tmp 3), none⟩,
⟨some 143, .binOp .sub 3 (.tmp 141) (.tmp 142) 3, none⟩,
⟨some 20, .assign (.tmp 143), none⟩]
def f145_r33 : List LOp := [
⟨some 144, .move (.tmp 18), none⟩,
⟨some 21, .assign (.tmp 144), none⟩]
def f145_r34 : List LOp := [
⟨some 145, .move (.tmp 1), none⟩,
⟨some 20, .assign (.tmp 145), none⟩]
def f145_r35 : List LOp := [
⟨some 146, .move (.tmp 2), none⟩,
⟨some 21, .assign (.tmp 146), none⟩]
def f145_r36 : List LOp := [
⟨some 147, .move (.tmp 19), none⟩,
⟨some 148, .binOp .sub 3 (.tmp 147) (.const (.int .i64 1)) 3, none⟩,
⟨some 22, .assign (.tmp 148), none⟩]
def f145_r37 : List LOp := [
⟨some 149, .move (.tmp 20), none⟩,
⟨some 150, .move (.tmp 21), none⟩,
⟨some 151, .binOp .lss 3 (.tmp 149) (.tmp 150) 3, none⟩]
def f145_r38 : List LOp := [
⟨some 152, .move (.tmp 20), none⟩,
⟨some 153, .move (.tmp 21), none⟩,
⟨some 154, .binOp .add 3 (.tmp 152) (.tmp 153) 3, none⟩,
⟨some 155, .convert 3 137 (.tmp 154), none⟩,
⟨some 156, .binOp .shr 137 (.tmp 155) (.const (.int .u64 1)) 137, none⟩,
⟨some 157, .convert 137 3 (.tmp 156), none⟩,
⟨some 23, .assign (.tmp 157), none⟩]
def f145_r39 : List LOp := [
⟨some 158, .move (.tmp 4), none⟩,
⟨some 159, .move (.tmp 0), none⟩,
⟨some 160, .move (.tmp 22), none⟩,
⟨some 161, .move (.tmp 23), none⟩,
⟨some 162, .binOp .sub 3 (.tmp 160) (.tmp 161) 3, none⟩,
⟨some 163, .indexAddr 25 (.tmp 159) (.tmp 162), none⟩,
⟨some 164, .load 27 (.tmp 163), none⟩,
⟨some 165, .move (.tmp 0), none⟩,
⟨some 166, .move (.tmp 23), none⟩,
⟨some 167, .indexAddr 25 (.tmp 165) (.tmp 166), none⟩,
⟨some 168, .load 27 (.tmp 167), none⟩,
⟨some 169, .call ⟨.value (.tmp 158), #[.tmp 164, .tmp 168], #[27, 27]⟩, none⟩,
⟨some 170, .binOp .lss 3 (.tmp 169) (.const (.int .i64 0)) 3, none⟩,
⟨some 171, .unOp .not 4 (.tmp 170), none⟩]
def f145_r40 : List LOp := [
⟨some 172, .move (.tmp 23), none⟩,
⟨some 173, .binOp .add 3 (.tmp 172) (.const (.int .i64 1)) 3, none⟩,
⟨some 20, .assign (.tmp 173), none⟩]
def f145_r41 : List LOp := [
⟨some 174, .move (.tmp 23), none⟩,
⟨some 21, .assign (.tmp 174), none⟩]
def f145_l42 : LC := (.seq (.seq (.reg f145_r37 [] none) (.cond (.tmp 151) .skip (.exit 8))) (.block 9 (.seq (.reg f145_r38 [] none) (.seq (.reg f145_r39 [] (some 11)) (.cond (.tmp 171) (.reg f145_r40 [] none) (.reg f145_r41 [] none))))))
def f145_i42 (t0 t1 t2 t3 t4 t18 t19 t20 t21 t22 : D) : List D := [t0, t1, t2, t3, t4, .any, .any, .any, .any, .any, .any, .any, .any, .any, .any, .any, .any, .any, t18, t19, t20, t21, t22, .any, .any, .any, .any, .any, .any, .any, .any, .any, .any, .any, .any, .any, .any, .any, .any, .any, .any, .any, .any, .any, .any, .any, .any, .any, .any, .any, .any, .any, .any, .any, .any, .any, .any, .any, .any, .any, .any, .any, .any, .any, .any, .any, .any, .any, .any, .any, .any, .any, .any, .any, .any, .any, .any, .any, .any, .any, .any, .any, .any, .any, .any, .any, .any, .any, .any, .any, .any, .any, .any, .any, .any, .any, .any, .any, .any, .any, .any, .any, .any, .any, .any, .any, .any, .any, .any, .any, .any, .any, .any, .any, .any, .any, .any, .any, .any, .any, .any, .any, .any, .any, .any, .any, .any, .any, .any, .any, .any, .any, .any, .any, .any, .any, .any, .any, .any, .any, .any, .any, .any, .any, .any, .any, .any, .any, .any, .any, .any, .any, .any, .any, .any, .any, .any, .any, .any, .any, .any, .any, .any, .any, .any, .any, .any, .any, .any, .any, .any, .any, .any, .any, .any, .any, .any, .any, .any, .any, .any, .any, .any, .any, .any, .any, .any, .any, .any, .any, .any, .any, .any, .any, .any, .any, .any, .any, .any, .any, .any, .any, .any, .any, .any, .any, .any, .any, .any, .any, .any, .any, .any, .any, .any, .any, .any, .any, .any, .any]
def f145_r43 : List LOp := [
⟨some 175, .move (.tmp 19), none⟩,
⟨some 176, .move (.tmp 20), none⟩,
⟨some 177, .binOp .sub 3 (.tmp 175) (.tmp 176) 3, none⟩,
⟨some 24, .assign (.tmp 177), none⟩]
def f145_r44 : List LOp := [
⟨some 178, .move (.tmp 20), none⟩,
⟨some 179, .move (.tmp 2), none⟩,
⟨some 180, .binOp .lss 3 (.tmp 178) (.tmp 179) 3, none⟩,
⟨some 181, .move (.tmp 180), none⟩,
⟨some 182, .move (.tmp 2), some (3, true)⟩,
⟨some 183, .move (.tmp 24), some (3, true)⟩,
⟨some 184, .binOp .lss 3 (.tmp 182) (.tmp 183) 3, some (3, true)⟩,
⟨some 185, .pick (.tmp 181) (.tmp 184) (.const (.bool false)), none⟩]
def f145_r45 : List LOp := [
⟨some 186, .move (.tmp 0), none⟩,
⟨some 187, .move (.tmp 20), none⟩,
⟨some 188, .move (.tmp 2), none⟩,
⟨some 189, .move (.tmp 24), none⟩,
⟨some 190, .move (.tmp 4), none⟩,
⟨some 191, .call ⟨.value (.func 146), #[.tmp 186, .tmp 187, .tmp 188, .tmp 189, .tmp 190], #[25, 3, 3, 3, 120]⟩, none⟩]
def f145_r46 : List LOp := [
⟨some 192, .move (.tmp 1), none⟩,
⟨some 193, .move (.tmp 20), none⟩,
⟨some 194, .binOp .lss 3 (.tmp 192) (.tmp 193) 3, none⟩,
⟨some 195, .move (.tmp 194), none⟩,
⟨some 196, .move (.tmp 20), some (3, true)⟩,
⟨some 197, .move (.tmp 18), some (3, true)⟩,
⟨some 198, .binOp .lss 3 (.tmp 196) (.tmp 197) 3, some (3, true)⟩,
⟨some 199, .pick (.tmp 195) (.tmp 198) (.const (.bool false)), none⟩]
def f145_r47 : List LOp := [
⟨some 200, .move (.tmp 0), none⟩,
⟨some 201, .move (.tmp 1), none⟩,
⟨some 202, .move (.tmp 20), none⟩,
⟨some 203, .move (.tmp 18), none⟩,
⟨some 204, .move (.tmp 4), none⟩,
⟨some 205, .call ⟨.value (.func 145), #[.tmp 200, .tmp 201, .tmp 202, .tmp 203, .tmp 204], #[25, 3, 3, 3, 120]⟩, none⟩]
def f145_r48 : List LOp := [
⟨some 206, .move (.tmp 18), none⟩,
⟨some 207, .move (.tmp 24), none⟩,
⟨some 208, .binOp .lss 3 (.tmp 206) (.tmp 207) 3, none⟩,
⟨some 209, .move (.tmp 208), none⟩,
⟨some 210, .move (.tmp 24), some (3, true)⟩,
⟨some 211, .move (.tmp 3), some (3, true)⟩,
⟨some 212, .binOp .lss 3 (.tmp 210) (.tmp 211) 3, some (3, true)⟩,
⟨some 213, .pick (.tmp 209) (.tmp 212) (.const (.bool false)), none⟩]
def f145_r49 : List LOp := [
⟨some 214, .move (.tmp 0), none⟩,
⟨some 215, .move (.tmp 18), none⟩,
⟨some 216, .move (.tmp 24), none⟩,
⟨some 217, .move (.tmp 3), none⟩,
⟨some 218, .move (.tmp 4), none⟩,
⟨some 219, .call ⟨.value (.func 145), #[.tmp 214, .tmp 215, .tmp 216, .tmp 217, .tmp 218], #[25, 3, 3, 3, 120]⟩, none⟩]
def f145_c : LC := (.seq (.seq (.reg f145_r0 [] none) (.cond (.tmp 28) (.seq (.reg f145_r1 [] none) (.seq (.reg f145_r2 [] none) (.seq (.block 0 (.loop f145_l8)) (.seq (.seq (.reg f145_r9 [] none) (.block 2 (.loop f145_l13))) .ret)))) .skip)) (.seq (.seq (.reg f145_r14 [] none) (.cond (.tmp 80) (.seq (.reg f145_r15 [] none) (.seq (.reg f145_r16 [] none) (.seq (.block 4 (.loop f145_l22)) (.seq (.seq (.reg f145_r23 [] none) (.block 6 (.loop f145_l27))) .ret)))) .skip)) (.seq (.reg f145_r28 [] none) (.seq (.reg f145_r29 [] none) (.seq (.reg f145_r30 [] none) (.seq (.seq (.reg f145_r31 [] none) (.cond (.tmp 140) (.seq (.reg f145_r32 [] none) (.reg f145_r33 [] none)) (.seq (.reg f145_r34 [] none) (.reg f145_r35 [] none)))) (.seq (.reg f145_r36 [] none) (.seq (.block 8 (.loop f145_l42)) (.seq (.reg f145_r43 [] none) (.seq (.seq (.reg f145_r44 [] none) (.cond (.tmp 185) (.reg f145_r45 [] none) .skip)) (.seq (.seq (.reg f145_r46 [] none) (.cond (.tmp 199) (.reg f145_r47 [] none) .skip)) (.seq (.reg f145_r48 [] none) (.cond (.tmp 213) (.reg f145_r49 [] none) .skip)))))))))))))
theorem f145_lc : Tryz.f145.body.map lc = some f145_c.st := by kernel_rfl
theorem f145_res : Tryz.f145.results.toList = [] := by kernel_rfl
theorem f145_nt : Tryz.f145.ntmps = 220 := by kernel_rfl
theorem f145_nm : (Tryz.f145.name == "runtime.NumGoroutine") = false := by kernel_rfl
def f146_r0 : List LOp := [
⟨some 12, .move (.tmp 2), none⟩,
⟨some 13, .move (.tmp 1), none⟩,
⟨some 14, .binOp .sub 3 (.tmp 12) (.tmp 13) 3, none⟩,
⟨some 10, .assign (.tmp 14), none⟩]
def f146_r1 : List LOp := [
⟨some 15, .move (.tmp 3), none⟩,
⟨some 16, .move (.tmp 2), none⟩,
⟨some 17, .binOp .sub 3 (.tmp 15) (.tmp 16) 3, none⟩,
⟨some 11, .assign (.tmp 17), none⟩]
def f146_r2 : List LOp := [
⟨some 18, .move (.tmp 10), none⟩,
⟨some 19, .move (.tmp 11), none⟩,
⟨some 20, .binOp .neq 3 (.tmp 18) (.tmp 19) 3, none⟩]
def f146_r3 : List LOp := [
⟨some 21, .move (.tmp 10), none⟩,
⟨some 22, .move (.tmp 11), none⟩,
⟨some 23, .binOp .gtr 3 (.tmp 21) (.tmp 22) 3, none⟩]
def f146_r4 : List LOp := [
⟨some 24, .move (.tmp 0), none⟩,
⟨some 25, .move (.tmp 2), none⟩,
⟨some 26, .move (.tmp 10), none⟩,
⟨some 27, .binOp .sub 3 (.tmp 25) (.tmp 26) 3, none⟩,
⟨some 28, .move (.tmp 2), none⟩,
⟨some 29, .move (.tmp 11), none⟩,
⟨some 30, .move (.tmp 4), none⟩,
⟨some 31, .call ⟨.value (.func 147), #[.tmp 24, .tmp 27, .tmp 28, .tmp 29, .tmp 30], #[25, 3, 3, 3, 120]⟩, none⟩]
def f146_r5 : List LOp := [
⟨some 32, .move (.tmp 10), none⟩,
⟨some 33, .move (.tmp 11), none⟩,
⟨some 34, .binOp .sub 3 (.tmp 32) (.tmp 33) 3, none⟩,
⟨some 10, .assign (.tmp 34), none⟩]
def f146_r6 : List LOp := [
⟨some 35, .move (.tmp 0), none⟩,
⟨some 36, .move (.tmp 2), none⟩,
⟨some 37, .move (.tmp 10), none⟩,
⟨some 38, .binOp .sub 3 (.tmp 36) (.tmp 37) 3, none⟩,
⟨some 39, .move (.tmp 2), none⟩,
⟨some 40, .move (.tmp 11), none⟩,
⟨some 41, .binOp .add 3 (.tmp 39) (.tmp 40) 3, none⟩,
⟨some 42, .move (.tmp 10), none⟩,
⟨some 43, .binOp .sub 3 (.tmp 41) (.tmp 42) 3, none⟩,
⟨some 44, .move (.tmp 10), none⟩,
⟨some 45, .move (.tmp 4), none⟩,
⟨some 46, .call ⟨.value (.func 147), #[.tmp 35, .tmp 38, .tmp 43, .tmp 44, .tmp 45], #[25, 3, 3, 3, 120]⟩, none⟩]
def f146_r7 : List LOp := [
⟨some 47, .move (.tmp 11), none⟩,
⟨some 48, .move (.tmp 10), none⟩,
⟨some 49, .binOp .sub 3 (.tmp 47) (.tmp 48) 3, none⟩,
⟨some 11, .assign (.tmp 49), none⟩]
def f146_l8 : LC := (.seq (.seq (.reg f146_r2 [] none) (.cond (.tmp 20) .skip (.exit 0))) (.block 1 (.seq (.reg f146_r3 [] none) (.cond (.tmp 23) (.seq (.reg f146_r4 [] none) (.reg f146_r5 [] none)) (.seq (.reg f146_r6 [] none) (.reg f146_r7 [] none))))))
def f146_i8 (t0 t2 t4 t10 t11 : D) : List D := [t0, .any, t2, .any, t4, .any, .any, .any, .any, .any, t10, t11, .any, .any, .any, .any, .any, .any, .any, .any, .any, .any, .any, .any, .any, .any, .any, .any, .any, .any, .any, .any, .any, .any, .any, .any, .any, .any, .any, .any, .any, .any, .any, .any, .any, .any, .any, .any, .any, .any, .any, .any, .any, .any, .any, .any, .any, .any]
def f146_r9 : List LOp := [
⟨some 50, .move (.tmp 0), none⟩,
⟨some 51, .move (.tmp 2), none⟩,
⟨some 52, .move (.tmp 10), none⟩,
⟨some 53, .binOp .sub 3 (.tmp 51) (.tmp 52) 3, none⟩,
⟨some 54, .move (.tmp 2), none⟩,
⟨some 55, .move (.tmp 10), none⟩,
⟨some 56, .move (.tmp 4), none⟩,
⟨some 57, .call ⟨.value (.func 147), #[.tmp 50, .tmp 53, .tmp 54, .tmp 55, .tmp 56], #[25, 3, 3, 3, 120]⟩, none⟩]
def f146_c : LC := (.seq (.reg f146_r0 [] none) (.seq (.reg f146_r1 [] none) (.seq (.block 0 (.loop f146_l8)) (.reg f146_r9 [] none))))
theorem f146_lc : Tryz.f146.body.map lc = some f146_c.st := by kernel_rfl
theorem f146_res : Tryz.f146.results.toList = [] := by kernel_rfl
theorem f146_nt : Tryz.f146.ntmps = 58 := by kernel_rfl
theorem f146_nm : (Tryz.f146.name == "runtime.NumGoroutine") = false := by kernel_rfl
def f147_r0 : List LOp := [
⟨some 10, .assign (.const (.int .i64 0)), none⟩]
def f147_r1 : List LOp := [
⟨some 11, .move (.tmp 10), none⟩,
⟨some 12, .move (.tmp 3), none⟩,
⟨some 13, .binOp .lss 3 (.tmp 11) (.tmp 12) 3, none⟩]
def f147_r2 : List LOp := [
⟨some 16, .move (.tmp 0), none⟩,
⟨some 17, .move (.tmp 1), none⟩,
⟨some 18, .move (.tmp 10), none⟩,
⟨some 19, .binOp .add 3 (.tmp 17) (.tmp 18) 3, none⟩,
⟨some 20, .move (.tmp 0), none⟩,
⟨some 21, .move (.tmp 2), none⟩,
⟨some 22, .move (.tmp 10), none⟩,
⟨some 23, .binOp .add 3 (.tmp 21) (.tmp 22) 3, none⟩,
⟨some 24, .move (.tmp 0), none⟩,
⟨some 25, .move (.tmp 2), none⟩,
⟨some 26, .move (.tmp 10), none⟩,
⟨some 27, .binOp .add 3 (.tmp 25) (.tmp 26) 3, none⟩,
⟨some 28, .indexAddr 25 (.tmp 24) (.tmp 27), none⟩,
⟨some 29, .load 27 (.tmp 28), none⟩,
⟨some 30, .move (.tmp 0), none⟩,
⟨some 31, .move (.tmp 1), none⟩,
⟨some 32, .move (.tmp 10), none⟩,
⟨some 33, .binOp .add 3 (.tmp 31) (.tmp 32) 3, none⟩,
⟨some 34, .indexAddr 25 (.tmp 30) (.tmp 33), none⟩,
⟨some 35, .load 27 (.tmp 34), none⟩,
⟨some 36, .indexAddr 25 (.tmp 16) (.tmp 19), none⟩,
⟨none, .store 27 (.tmp 36) (.tmp 29), none⟩,
⟨some 37, .indexAddr 25 (.tmp 20) (.tmp 23), none⟩,
⟨none, .store 27 (.tmp 37) (.tmp 35), none⟩]
def f147_r3 : List LOp := [
⟨some 14, .move (.tmp 10), none⟩,
⟨some 15, .binOp .add 3 (.tmp 14) (.const (.int .i64 1)) 3, none⟩,
⟨some 10, .assign (.tmp 15), none⟩]
def f147_l4 : LC := (.seq (.seq (.reg f147_r1 [] none) (.cond (.tmp 13) .skip (.exit 0))) (.seq (.block 1 (.regp f147_r2 [] [0, 1, 2, 3, 4, 5, 6, 7, 8, 9, 10, 11, 14, 15, 16, 17] 20)) (.reg f147_r3 [] none)))
def f147_i4 (t0 t1 t2 t3 t10 : D) : List D := [t0, t1, t2, t3, .any, .any, .any, .any, .any, .any, t10, .any, .any, .any, .any, .any, .any, .any, .any, .any, .any, .any, .any, .any, .any, .any, .any, .any, .any, .any, .any, .any, .any, .any, .any, .any, .any, .any]
def f147_c : LC := (.seq (.reg f147_r0 [] none) (.block 0 (.loop f147_l4)))
theorem f147_lc : Tryz.f147.body.map lc = some f147_c.st := by kernel_rfl
theorem f147_res : Tryz.f147.results.toList = [] := by kernel_rfl
theorem f147_nt : Tryz.f147.ntmps = 38 := by kernel_rfl
theorem f147_nm : (Tryz.f147.name == "runtime.NumGoroutine") = false := by kernel_rfl
attribute [go_sem] f7_r0 f7_r1 f7_r2 f7_r3 f7_r4 f7_r5 f7_c f10_r0 f10_r1 f10_r2 f10_r3 f10_r4 f10_r5 f10_r6 f10_c f11_r0 f11_r1 f11_r2 f11_r3 f11_r4 f11_r5 f11_r6 f11_c f12_r0 f12_r1 f12_r2 f12_r3 f12_r4 f12_c f13_r0 f13_r1 f13_r2 f13_r3 f13_r4 f13_c f14_r0 f14_r1 f14_r2 f14_r3 f14_r4 f14_r5 f14_r6 f14_r7 f14_r8 f14_l9 f14_i9 f14_r10 f14_c f15_r0 f15_r1 f15_r2 f15_r3 f15_r4 f15_r5 f15_r6 f15_r7 f15_r8 f15_r9 f15_r10 f15_r11 f15_l12 f15_i12 f15_r13 f15_c f16_r0 f16_r1 f16_r2 f16_r3 f16_r4 f16_r5 f16_r6 f16_r7 f16_r8 f16_r9 f16_r10 f16_r11 f16_r12 f16_r13 f16_l14 f16_i14 f16_r15 f16_c f20_r0 f20_r1 f20_c f22_r0 f22_r1 f22_r2 f22_r3 f22_c f23_r0 f23_r1 f23_r2 f23_r3 f23_r4 f23_r5 f23_r6 f23_r7 f23_r8 f23_r9 f23_l10 f23_i10 f23_r11 f23_c f24_r0 f24_r1 f24_r2 f24_r3 f24_r4 f24_r5 f24_r6 f24_r7 f24_l8 f24_i8 f24_r9 f24_c f25_r0 f25_r1 f25_r2 f25_r3 f25_r4 f25_r5 f25_r6 f25_r7 f25_r8 f25_l9 f25_i9 f25_r10 f25_c f30_r0 f30_r1 f30_r2 f30_r3 f30_r4 f30_r5 f30_r6 f30_r7 f30_r8 f30_r9 f30_r10 f30_r11 f30_r12 f30_r13 f30_r14 f30_r15 f30_c f32_r0 f32_r1 f32_r2 f32_r3 f32_r4 f32_r5 f32_r6 f32_r7 f32_r8 f32_r9 f32_r10 f32_r11 f32_r12 f32_r13 f32_c f33_r0 f33_r1 f33_r2 f33_r3 f33_c f34_r0 f34_r1 f34_r2 f34_r3 f34_c f35_r0 f35_r1 f35_r2 f35_r3 f35_r4 f35_r5 f35_r6 f35_r7 f35_c f39_r0 f39_r1 f39_c f40_r0 f40_r1 f40_r2 f40_r3 f40_r4 f40_r5 f40_r6 f40_r7 f40_r8 f40_r9 f40_c f41_r0 f41_r1 f41_r2 f41_r3 f41_c f42_r0 f42_r1 f42_r2 f42_r3 f42_c f43_r0 f43_r1 f43_r2 f43_r3 f43_r4 f43_r5 f43_c f51_r0 f51_r1 f51_c f56_r0 f56_r1 f56_c f57_r0 f57_r1 f57_c f58_r0 f58_r1 f58_r2 f58_r3 f58_r4 f58_r5 f58_r6 f58_r7 f58_r8 f58_c f59_r0 f59_r1 f59_r2 f59_r3 f59_r4 f59_r5 f59_r6 f59_r7 f59_r8 f59_r9 f59_c f60_r0 f60_r1 f60_r2 f60_r3 f60_r4 f60_r5 f60_r6 f60_l7 f60_i7 f60_r8 f60_r9 f60_r10 f60_r11 f60_r12 f60_r13 f60_r14 f60_r15 f60_r16 f60_l17 f60_i17 f60_r18 f60_r19 f60_r20 f60_c f61_r0 f61_r1 f61_r2 f61_r3 f61_r4 f61_r5 f61_c f74_r0 f74_r1 f74_r2 f74_r3 f74_r4 f74_r5 f74_r6 f74_r7 f74_r8 f74_r9 f74_c f75_r0 f75_r1 f75_r2 f75_r3 f75_r4 f75_r5 f75_c f76_r0 f76_r1 f76_r2 f76_r3 f76_r4 f76_r5 f76_r6 f76_r7 f76_c f77_r0 f77_r1 f77_r2 f77_r3 f77_r4 f77_r5 f77_c f78_r0 f78_r1 f78_r2 f78_r3 f78_r4 f78_r5 f78_r6 f78_l7 f78_i7 f78_r8 f78_c f79_r0 f79_r1 f79_r2 f79_r3 f79_c f80_r0 f80_r1 f80_r2 f80_r3 f80_r4 f80_r5 f80_r6 f80_r7 f80_c f81_r0 f81_r1 f81_r2 f81_r3 f81_r4 f81_r5 f81_r6 f81_r7 f81_l8 f81_i8 f81_r9 f81_c f82_r0 f82_r1 f82_r2 f82_r3 f82_r4 f82_r5 f82_r6 f82_r7 f82_r8 f82_r9 f82_r10 f82_r11 f82_r12 f82_r13 f82_r14 f82_l15 f82_i15 f82_r16 f82_r17 f82_r18 f82_r19 f82_l20 f82_i20 f82_r21 f82_c f83_r0 f83_r1 f83_c f94_r0 f94_r1 f94_r2 f94_r3 f94_r4 f94_r5 f94_r6 f94_r7 f94_r8 f94_r9 f94_r10 f94_l11 f94_i11 f94_r12 f94_r13 f94_c f95_r0 f95_r1 f95_r2 f95_r3 f95_r4 f95_r5 f95_r6 f95_r7 f95_r8 f95_r9 f95_r10 f95_l11 f95_i11 f95_r12 f95_c f96_r0 f96_r1 f96_r2 f96_r3 f96_c f99_r0 f99_r1 f99_r2 f99_r3 f99_r4 f99_r5 f99_r6 f99_r7 f99_l8 f99_i8 f99_r9 f99_c f100_r0 f100_r1 f100_c f102_r0 f102_r1 f102_r2 f102_r3 f102_r4 f102_r5 f102_r6 f102_r7 f102_l8 f102_i8 f102_r9 f102_r10 f102_c f103_r0 f103_r1 f103_r2 f103_r3 f103_r4 f103_r5 f103_r6 f103_l7 f103_i7 f103_r8 f103_c f104_r0 f104_r1 f104_r2 f104_r3 f104_r4 f104_r5 f104_r6 f104_r7 f104_r8 f104_r9 f104_r10 f104_r11 f104_r12 f104_r13 f104_r14 f104_r15 f104_r16 f104_l17 f104_i17 f104_r18 f104_r19 f104_r20 f104_c f114_r0 f114_r1 f114_c f115_r0 f115_r1 f115_c f116_r0 f116_r1 f116_r2 f116_r3 f116_c f117_r0 f117_r1 f117_c f118_r0 f118_r1 f118_r2 f118_r3 f118_r4 f118_r5 f118_r6 f118_r7 f118_l8 f118_i8 f118_r9 f118_c f123_r0 f123_r1 f123_r2 f123_r3 f123_r4 f123_r5 f123_r6 f123_r7 f123_l8 f123_i8 f123_r9 f123_c f124_r0 f124_r1 f124_r2 f124_r3 f124_r4 f124_r5 f124_r6 f124_r7 f124_r8 f124_r9 f124_r10 f124_r11 f124_r12 f124_r13 f124_c f125_r0 f125_r1 f125_c f126_r0 f126_r1 f126_r2 f126_r3 f126_r4 f126_r5 f126_r6 f126_r7 f126_r8 f126_r9 f126_r10 f126_l11 f126_i11 f126_r12 f126_r13 f126_r14 f126_c f127_r0 f127_r1 f127_c f128_r0 f128_c f129_r0 f129_r1 f129_r2 f129_r3 f129_r4 f129_l5 f129_i5 f129_c f136_r0 f136_r1 f136_c f137_r0 f137_r1 f137_r2 f137_r3 f137_r4 f137_r5 f137_r6 f137_r7 f137_r8 f137_r9 f137_r10 f137_l11 f137_i11 f137_r12 f137_r13 f137_r14 f137_c f138_r0 f138_r1 f138_r2 f138_r3 f138_r4 f138_r5 f138_r6 f138_r7 f138_r8 f138_r9 f138_r10 f138_r11 f138_r12 f138_r13 f138_c f139_r0 f139_r1 f139_r2 f139_r3 f139_a4 f139_b4 f139_r5 f139_c f140_r0 f140_r1 f140_r2 f140_r3 f140_r4 f140_r5 f140_l6 f140_i6 f140_r7 f140_r8 f140_r9 f140_r10 f140_r11 f140_r12 f140_r13 f140_l14 f140_i14 f140_r15 f140_r16 f140_r17 f140_r18 f140_l19 f140_i19 f140_c f143_r0 f143_r1 f143_c f144_r0 f144_r1 f144_r2 f144_r3 f144_r4 f144_r5 f144_l6 f144_i6 f144_r7 f144_l8 f144_i8 f144_c f145_r0 f145_r1 f145_r2 f145_r3 f145_r4 f145_r5 f145_r6 f145_r7 f145_l8 f145_i8 f145_r9 f145_r10 f145_r11 f145_r12 f145_l13 f145_i13 f145_r14 f145_r15 f145_r16 f145_r17 f145_r18 f145_r19 f145_r20 f145_r21 f145_l22 f145_i22 f145_r23 f145_r24 f145_r25 f145_r26 f145_l27 f145_i27 f145_r28 f145_r29 f145_r30 f145_r31 f145_r32 f145_r33 f145_r34 f145_r35 f145_r36 f145_r37 f145_r38 f145_r39 f145_r40 f145_r41 f145_l42 f145_i42 f145_r43 f145_r44 f145_r45 f145_r46 f145_r47 f145_r48 f145_r49 f145_c f146_r0 f146_r1 f146_r2 f146_r3 f146_r4 f146_r5 f146_r6 f146_r7 f146_l8 f146_i8 f146_r9 f146_c f147_r0 f147_r1 f147_r2 f147_r3 f147_l4 f147_i4 f147_c
end Go.Proofs.YtlejbkfefpfolaaGreatDoor.W
