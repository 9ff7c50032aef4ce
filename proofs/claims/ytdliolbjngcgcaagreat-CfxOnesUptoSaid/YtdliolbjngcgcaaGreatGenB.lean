/- Part of a program logic over data: rules of the walk, each proved. -/
import Derived.Test.YtdliolbjngcgcaaGreatGenA
set_option linter.unusedVariables false
set_option linter.unusedSimpArgs false
set_option linter.unusedSectionVars false
set_option maxRecDepth 100000
namespace Go.Proofs.YtdliolbjngcgcaaGreat.W
open Go Go.Proofs Go.Proofs.YtdliolbjngcgcaaGreat.AWP
def f39_r0 : List LOp := [
 ⟨some 4, .box 40 (.tmp 1), none⟩]
def f39_r1 : List LOp := [
 ⟨some 7, .move (.tmp 2), none⟩,
 ⟨some 8, .fieldAddr 40 (.tmp 4) 0, none⟩,
 ⟨some 9, .load 5 (.tmp 8), none⟩,
 ⟨some 10, .call { callee := .value (.func 68), args := #[.tmp 7, .tmp 9], argTypes := #[80, 5] }, none⟩,
 ⟨some 6, .assign (.tmp 10), none⟩]
def f39_r2 : List LOp := [
 ⟨some 11, .move (.tmp 6), none⟩]
def f39_r3 : List LOp := [
 ⟨some 12, .move (.tmp 0), none⟩,
 ⟨some 13, .nilCheck (.tmp 12), none⟩,
 ⟨some 14, .fieldAddr 84 (.tmp 13) 0, none⟩,
 ⟨some 15, .call { callee := .value (.func 40), args := #[.tmp 14, .const (.int .u8 40)], argTypes := #[82, 5] }, none⟩]
def f39_r4 : List LOp := [
 ⟨some 16, .fieldAddr 40 (.tmp 4) 0, none⟩,
 ⟨some 17, .load 5 (.tmp 16), none⟩]
def f39_r5 : List LOp := [
 ⟨some 19, .binOp .eql 5 (.tmp 17) (.const (.int .u8 1)) 5, none⟩,
 ⟨some 18, .assign (.tmp 19), none⟩]
def f39_r6 : List LOp := [
 ⟨some 20, .move (.tmp 0), none⟩,
 ⟨some 21, .nilCheck (.tmp 20), none⟩,
 ⟨some 22, .fieldAddr 84 (.tmp 21) 0, none⟩,
 ⟨some 23, .call { callee := .value (.func 38), args := #[.tmp 22, .const (.string { data := #[91, 93] })], argTypes := #[82, 9] }, none⟩]
def f39_r7 : List LOp := [
 ⟨some 25, .binOp .eql 5 (.tmp 17) (.const (.int .u8 2)) 5, none⟩,
 ⟨some 24, .assign (.tmp 25), none⟩]
def f39_r8 : List LOp := [
 ⟨some 26, .move (.tmp 0), none⟩,
 ⟨some 27, .nilCheck (.tmp 26), none⟩,
 ⟨some 28, .fieldAddr 84 (.tmp 27) 0, none⟩,
 ⟨some 29, .call { callee := .value (.func 38), args := #[.tmp 28, .const (.string { data := #[40, 41] })], argTypes := #[82, 9] }, none⟩]
def f39_r9 : List LOp := [
 ⟨some 31, .binOp .eql 5 (.tmp 17) (.const (.int .u8 3)) 5, none⟩,
 ⟨some 30, .assign (.tmp 31), none⟩]
def f39_r10 : List LOp := [
 ⟨some 32, .move (.tmp 0), none⟩,
 ⟨some 33, .nilCheck (.tmp 32), none⟩,
 ⟨some 34, .fieldAddr 84 (.tmp 33) 0, none⟩,
 ⟨some 35, .move (.tmp 0), none⟩,
 ⟨some 36, .nilCheck (.tmp 35), none⟩,
 ⟨some 37, .fieldAddr 84 (.tmp 36) 1, none⟩,
 ⟨some 38, .fieldAddr 26 (.tmp 37) 0, none⟩,
 ⟨some 39, .load 22 (.tmp 38), none⟩,
 ⟨some 40, .fieldAddr 40 (.tmp 4) 1, none⟩,
 ⟨some 41, .load 3 (.tmp 40), none⟩,
 ⟨some 42, .indexAddr 22 (.tmp 39) (.tmp 41), none⟩,
 ⟨some 43, .load 9 (.tmp 42), none⟩,
 ⟨some 44, .call { callee := .value (.func 38), args := #[.tmp 34, .tmp 43], argTypes := #[82, 9] }, none⟩]
def f39_r11 : List LOp := [
 ⟨some 46, .binOp .eql 5 (.tmp 17) (.const (.int .u8 6)) 5, none⟩,
 ⟨some 45, .assign (.tmp 46), none⟩]
def f39_r12 : List LOp := [
 ⟨some 47, .move (.tmp 0), none⟩,
 ⟨some 48, .nilCheck (.tmp 47), none⟩,
 ⟨some 49, .fieldAddr 84 (.tmp 48) 0, none⟩,
 ⟨some 50, .move (.tmp 0), none⟩,
 ⟨some 51, .nilCheck (.tmp 50), none⟩,
 ⟨some 52, .fieldAddr 84 (.tmp 51) 1, none⟩,
 ⟨some 53, .fieldAddr 26 (.tmp 52) 1, none⟩,
 ⟨some 54, .load 24 (.tmp 53), none⟩,
 ⟨some 55, .fieldAddr 40 (.tmp 4) 1, none⟩,
 ⟨some 56, .load 3 (.tmp 55), none⟩,
 ⟨some 57, .indexAddr 24 (.tmp 54) (.tmp 56), none⟩,
 ⟨some 58, .fieldAddr 66 (.tmp 57) 0, none⟩,
 ⟨some 59, .load 9 (.tmp 58), none⟩,
 ⟨some 60, .call { callee := .value (.func 38), args := #[.tmp 49, .tmp 59], argTypes := #[82, 9] }, none⟩]
def f39_r13 : List LOp := [
 ⟨some 62, .binOp .eql 5 (.tmp 17) (.const (.int .u8 4)) 5, none⟩,
 ⟨some 61, .assign (.tmp 62), none⟩]
def f39_r14 : List LOp := [
 ⟨some 63, .move (.tmp 0), none⟩,
 ⟨some 64, .fieldAddr 40 (.tmp 4) 2, none⟩,
 ⟨some 65, .load 38 (.tmp 64), none⟩,
 ⟨some 66, .indexAddr 38 (.tmp 65) (.const (.int .i64 0)), none⟩,
 ⟨some 67, .load 40 (.tmp 66), none⟩,
 ⟨some 68, .buildSlice 80 2 #[(0, .const (.int .u8 4)), (1, .const (.int .u8 5))], none⟩,
 ⟨some 69, .call { callee := .value (.func 39), args := #[.tmp 63, .tmp 67, .tmp 68], argTypes := #[78, 40, 80] }, none⟩]
def f39_r15 : List LOp := [
 ⟨some 70, .move (.tmp 0), none⟩,
 ⟨some 71, .nilCheck (.tmp 70), none⟩,
 ⟨some 72, .fieldAddr 84 (.tmp 71) 0, none⟩,
 ⟨some 73, .call { callee := .value (.func 40), args := #[.tmp 72, .const (.int .u8 32)], argTypes := #[82, 5] }, none⟩]
def f39_r16 : List LOp := [
 ⟨some 74, .move (.tmp 0), none⟩,
 ⟨some 75, .fieldAddr 40 (.tmp 4) 2, none⟩,
 ⟨some 76, .load 38 (.tmp 75), none⟩,
 ⟨some 77, .indexAddr 38 (.tmp 76) (.const (.int .i64 1)), none⟩,
 ⟨some 78, .load 40 (.tmp 77), none⟩,
 ⟨some 79, .buildSlice 80 1 #[(0, .const (.int .u8 5))], none⟩,
 ⟨some 80, .call { callee := .value (.func 39), args := #[.tmp 74, .tmp 78, .tmp 79], argTypes := #[78, 40, 80] }, none⟩]
def f39_r17 : List LOp := [
 ⟨some 82, .binOp .eql 5 (.tmp 17) (.const (.int .u8 5)) 5, none⟩,
 ⟨some 81, .assign (.tmp 82), none⟩]
def f39_r18 : List LOp := [
 ⟨some 83, .move (.tmp 0), none⟩,
 ⟨some 84, .fieldAddr 40 (.tmp 4) 2, none⟩,
 ⟨some 85, .load 38 (.tmp 84), none⟩,
 ⟨some 86, .indexAddr 38 (.tmp 85) (.const (.int .i64 0)), none⟩,
 ⟨some 87, .load 40 (.tmp 86), none⟩,
 ⟨some 88, .buildSlice 80 1 #[(0, .const (.int .u8 5))], none⟩,
 ⟨some 89, .call { callee := .value (.func 39), args := #[.tmp 83, .tmp 87, .tmp 88], argTypes := #[78, 40, 80] }, none⟩]
def f39_r19 : List LOp := [
 ⟨some 90, .move (.tmp 0), none⟩,
 ⟨some 91, .nilCheck (.tmp 90), none⟩,
 ⟨some 92, .fieldAddr 84 (.tmp 91) 0, none⟩,
 ⟨some 93, .call { callee := .value (.func 38), args := #[.tmp 92, .const (.string { data := #[32, 124, 32] })], argTypes := #[82, 9] }, none⟩]
def f39_r20 : List LOp := [
 ⟨some 94, .move (.tmp 0), none⟩,
 ⟨some 95, .fieldAddr 40 (.tmp 4) 2, none⟩,
 ⟨some 96, .load 38 (.tmp 95), none⟩,
 ⟨some 97, .indexAddr 38 (.tmp 96) (.const (.int .i64 1)), none⟩,
 ⟨some 98, .load 40 (.tmp 97), none⟩,
 ⟨some 99, .call { callee := .value (.func 39), args := #[.tmp 94, .tmp 98, .const (.slice none 0 0)], argTypes := #[78, 40, 80] }, none⟩]
def f39_r21 : List LOp := [
 ⟨some 100, .move (.tmp 6), none⟩]
def f39_r22 : List LOp := [
 ⟨some 101, .move (.tmp 0), none⟩,
 ⟨some 102, .nilCheck (.tmp 101), none⟩,
 ⟨some 103, .fieldAddr 84 (.tmp 102) 0, none⟩,
 ⟨some 104, .call { callee := .value (.func 40), args := #[.tmp 103, .const (.int .u8 41)], argTypes := #[82, 5] }, none⟩]
def f39_c : LC := (.seq (.reg f39_r0 [] none) (.seq (.reg f39_r1 [] none) (.seq (.seq (.reg f39_r2 [] none) (.cond (.tmp 11) (.reg f39_r3 [] none) .skip)) (.seq (.seq (.reg f39_r4 [] none) (.block 0 (.seq (.reg f39_r5 [] none) (.cond (.tmp 18) (.reg f39_r6 [] none) (.seq (.reg f39_r7 [] none) (.cond (.tmp 24) (.reg f39_r8 [] none) (.seq (.reg f39_r9 [] none) (.cond (.tmp 30) (.reg f39_r10 [] (some 12)) (.seq (.reg f39_r11 [] none) (.cond (.tmp 45) (.reg f39_r12 [] (some 13)) (.seq (.reg f39_r13 [] none) (.cond (.tmp 61) (.seq (.reg f39_r14 [] none) (.seq (.reg f39_r15 [] none) (.reg f39_r16 [] none))) (.seq (.reg f39_r17 [] none) (.cond (.tmp 81) (.seq (.reg f39_r18 [] none) (.seq (.reg f39_r19 [] none) (.reg f39_r20 [] none))) .skip)))))))))))))) (.seq (.reg f39_r21 [] none) (.cond (.tmp 100) (.reg f39_r22 [] none) .skip))))))
theorem f39_lc : Tryz.f39.body.map lc = some f39_c.st := by kernel_rfl
theorem f39_res : Tryz.f39.results.toList = [] := by kernel_rfl
theorem f39_nt : Tryz.f39.ntmps = 105 := by kernel_rfl
theorem f39_nm : (Tryz.f39.name == "runtime.NumGoroutine") = false := by kernel_rfl
def f40_r0 : List LOp := [
 ⟨some 4, .assign (.const .nilIface), none⟩]
def f40_r1 : List LOp := [
 ⟨some 5, .move (.tmp 0), none⟩,
 ⟨some 6, .call { callee := .value (.func 67), args := #[.tmp 5], argTypes := #[79] }, none⟩]
def f40_r2 : List LOp := [
 ⟨some 7, .move (.tmp 0), none⟩,
 ⟨some 8, .move (.tmp 0), none⟩,
 ⟨some 9, .nilCheck (.tmp 8), none⟩,
 ⟨some 10, .fieldAddr 82 (.tmp 9) 1, none⟩,
 ⟨some 11, .load 80 (.tmp 10), none⟩,
 ⟨some 12, .move (.tmp 1), none⟩,
 ⟨some 13, .buildSlice 80 1 #[(0, .tmp 12)], none⟩,
 ⟨some 14, .call { callee := .builtin .append, args := #[.tmp 11, .tmp 13], argTypes := #[80, 80] }, none⟩,
 ⟨some 15, .nilCheck (.tmp 7), none⟩,
 ⟨some 16, .fieldAddr 82 (.tmp 15) 1, none⟩,
 ⟨none, .store 80 (.tmp 16) (.tmp 14), none⟩]
def f40_r3 : List LOp := [
 ⟨some 4, .assign (.const .nilIface), none⟩]
def f40_c : LC := (.seq (.reg f40_r0 [] none) (.seq (.reg f40_r1 [] none) (.seq (.reg f40_r2 [] none) (.seq (.reg f40_r3 [] none) .ret))))
theorem f40_lc : Tryz.f40.body.map lc = some f40_c.st := by kernel_rfl
theorem f40_res : Tryz.f40.results.toList = [.tmp 4] := by kernel_rfl
theorem f40_nt : Tryz.f40.ntmps = 17 := by kernel_rfl
theorem f40_nm : (Tryz.f40.name == "runtime.NumGoroutine") = false := by kernel_rfl
def f41_r0 : List LOp := [
 ⟨some 2, .assign (.const (.int .i64 0)), none⟩]
def f41_r1 : List LOp := [
 ⟨some 3, .move (.tmp 0), none⟩,
 ⟨some 4, .nilCheck (.tmp 3), none⟩,
 ⟨some 5, .fieldAddr 82 (.tmp 4) 1, none⟩,
 ⟨some 6, .load 80 (.tmp 5), none⟩,
 ⟨some 7, .call { callee := .builtin .len, args := #[.tmp 6], argTypes := #[80] }, none⟩,
 ⟨some 2, .assign (.tmp 7), none⟩]
def f41_c : LC := (.seq (.reg f41_r0 [] none) (.seq (.reg f41_r1 [] none) .ret))
theorem f41_lc : Tryz.f41.body.map lc = some f41_c.st := by kernel_rfl
theorem f41_res : Tryz.f41.results.toList = [.tmp 2] := by kernel_rfl
theorem f41_nt : Tryz.f41.ntmps = 8 := by kernel_rfl
theorem f41_nm : (Tryz.f41.name == "runtime.NumGoroutine") = false := by kernel_rfl
def f43_r0 : List LOp := [
 ⟨some 4, .assign (.const (.string { data := #[] })), none⟩]
def f43_r1 : List LOp := [
 ⟨some 5, .move (.tmp 1), none⟩]
def f43_r2 : List LOp := [
 ⟨some 6, .move (.tmp 0), none⟩,
 ⟨some 7, .binOp .add 9 (.const (.string { data := #[40] })) (.tmp 6) 9, none⟩,
 ⟨some 8, .binOp .add 9 (.tmp 7) (.const (.string { data := #[41] })) 9, none⟩,
 ⟨some 4, .assign (.tmp 8), none⟩]
def f43_r3 : List LOp := [
 ⟨some 9, .move (.tmp 0), none⟩,
 ⟨some 4, .assign (.tmp 9), none⟩]
def f43_c : LC := (.seq (.reg f43_r0 [] none) (.seq (.seq (.reg f43_r1 [] none) (.cond (.tmp 5) (.seq (.reg f43_r2 [] none) .ret) .skip)) (.seq (.reg f43_r3 [] none) .ret)))
theorem f43_lc : Tryz.f43.body.map lc = some f43_c.st := by kernel_rfl
theorem f43_res : Tryz.f43.results.toList = [.tmp 4] := by kernel_rfl
theorem f43_nt : Tryz.f43.ntmps = 10 := by kernel_rfl
theorem f43_nm : (Tryz.f43.name == "runtime.NumGoroutine") = false := by kernel_rfl
def f44_r0 : List LOp := [
 ⟨some 4, .assign (.const (.bool false)), none⟩]
def f44_r1 : List LOp := [
 ⟨some 5, .move (.tmp 0), none⟩,
 ⟨some 6, .move (.tmp 1), none⟩,
 ⟨some 7, .call { callee := .value (.func 69), args := #[.tmp 5, .tmp 6], argTypes := #[38, 41] }, none⟩,
 ⟨some 8, .binOp .geq 3 (.tmp 7) (.const (.int .i64 0)) 3, none⟩,
 ⟨some 4, .assign (.tmp 8), none⟩]
def f44_c : LC := (.seq (.reg f44_r0 [] none) (.seq (.reg f44_r1 [] none) .ret))
theorem f44_lc : Tryz.f44.body.map lc = some f44_c.st := by kernel_rfl
theorem f44_res : Tryz.f44.results.toList = [.tmp 4] := by kernel_rfl
theorem f44_nt : Tryz.f44.ntmps = 9 := by kernel_rfl
theorem f44_nm : (Tryz.f44.name == "runtime.NumGoroutine") = false := by kernel_rfl
def f45_r0 : List LOp := [
 ⟨some 2, .box 40 (.tmp 0), none⟩,
 ⟨some 3, .assign (.const (.bool false)), none⟩]
def f45_r1 : List LOp := [
 ⟨some 4, .load 26 (.tmp 1), none⟩,
 ⟨some 5, .load 40 (.tmp 2), none⟩,
 ⟨some 6, .call { callee := .value (.func 46), args := #[.tmp 4, .tmp 5], argTypes := #[26, 40] }, none⟩,
 ⟨some 7, .unOp .not 4 (.tmp 6), none⟩,
 ⟨some 8, .move (.tmp 7), none⟩,
 ⟨some 9, .load 40 (.tmp 2), some (4, false)⟩,
 ⟨some 10, .buildSlice 38 1 #[(0, .tmp 9)], some (4, false)⟩,
 ⟨some 11, .call { callee := .value (.func 47), args := #[.tmp 10], argTypes := #[38] }, some (4, false)⟩,
 ⟨some 12, .binOp .gtr 3 (.tmp 11) (.const (.int .i64 2000)) 3, some (4, false)⟩,
 ⟨some 13, .pick (.tmp 8) (.const (.bool true)) (.tmp 12), none⟩,
 ⟨some 3, .assign (.tmp 13), none⟩]
def f45_c : LC := (.seq (.reg f45_r0 [] none) (.seq (.reg f45_r1 [] none) .ret))
theorem f45_lc : Tryz.f45.body.map lc = some f45_c.st := by kernel_rfl
theorem f45_res : Tryz.f45.results.toList = [.tmp 3] := by kernel_rfl
theorem f45_nt : Tryz.f45.ntmps = 14 := by kernel_rfl
theorem f45_nm : (Tryz.f45.name == "runtime.NumGoroutine") = false := by kernel_rfl
def f46_r0 : List LOp := [
 ⟨some 2, .box 26 (.tmp 0), none⟩,
 ⟨some 3, .box 40 (.tmp 1), none⟩,
 ⟨some 4, .assign (.const (.bool false)), none⟩]
def f46_r1 : List LOp := [
 ⟨some 5, .assign (.const (.int .i64 0)), none⟩,
 ⟨some 6, .assign (.const (.int .i64 1)), none⟩]
def f46_r2 : List LOp := [
 ⟨some 7, .fieldAddr 40 (.tmp 3) 0, none⟩,
 ⟨some 8, .load 5 (.tmp 7), none⟩]
def f46_r3 : List LOp := [
 ⟨some 10, .binOp .eql 5 (.tmp 8) (.const (.int .u8 1)) 5, none⟩,
 ⟨some 9, .assign (.tmp 10), none⟩]
def f46_r4 : List LOp := [
 ⟨some 11, .binOp .eql 5 (.tmp 8) (.const (.int .u8 2)) 5, none⟩,
 ⟨some 9, .assign (.tmp 11), none⟩]
def f46_r5 : List LOp := [
 ⟨some 13, .binOp .eql 5 (.tmp 8) (.const (.int .u8 3)) 5, none⟩,
 ⟨some 12, .assign (.tmp 13), none⟩]
def f46_r6 : List LOp := [
 ⟨some 14, .fieldAddr 26 (.tmp 2) 0, none⟩,
 ⟨some 15, .load 22 (.tmp 14), none⟩,
 ⟨some 16, .call { callee := .builtin .len, args := #[.tmp 15], argTypes := #[22] }, none⟩,
 ⟨some 6, .assign (.tmp 16), none⟩]
def f46_r7 : List LOp := [
 ⟨some 18, .binOp .eql 5 (.tmp 8) (.const (.int .u8 6)) 5, none⟩,
 ⟨some 17, .assign (.tmp 18), none⟩]
def f46_r8 : List LOp := [
 ⟨some 19, .fieldAddr 26 (.tmp 2) 1, none⟩,
 ⟨some 20, .load 24 (.tmp 19), none⟩,
 ⟨some 21, .call { callee := .builtin .len, args := #[.tmp 20], argTypes := #[24] }, none⟩,
 ⟨some 6, .assign (.tmp 21), none⟩]
def f46_r9 : List LOp := [
 ⟨some 23, .binOp .eql 5 (.tmp 8) (.const (.int .u8 4)) 5, none⟩,
 ⟨some 22, .assign (.tmp 23), none⟩]
def f46_r10 : List LOp := [
 ⟨some 24, .binOp .eql 5 (.tmp 8) (.const (.int .u8 5)) 5, none⟩,
 ⟨some 22, .assign (.tmp 24), none⟩]
def f46_r11 : List LOp := [
 ⟨some 5, .assign (.const (.int .i64 2)), none⟩]
def f46_r12 : List LOp := [
 ⟨some 4, .assign (.const (.bool false)), none⟩]
def f46_r13 : List LOp := [
 ⟨some 25, .fieldAddr 40 (.tmp 3) 1, none⟩,
 ⟨some 26, .load 3 (.tmp 25), none⟩,
 ⟨some 27, .binOp .geq 3 (.tmp 26) (.const (.int .i64 0)) 3, none⟩,
 ⟨some 28, .move (.tmp 27), none⟩,
 ⟨some 29, .fieldAddr 40 (.tmp 3) 1, some (3, true)⟩,
 ⟨some 30, .load 3 (.tmp 29), some (3, true)⟩,
 ⟨some 31, .move (.tmp 6), some (3, true)⟩,
 ⟨some 32, .binOp .lss 3 (.tmp 30) (.tmp 31) 3, some (3, true)⟩,
 ⟨some 33, .pick (.tmp 28) (.tmp 32) (.const (.bool false)), none⟩,
 ⟨some 34, .move (.tmp 33), none⟩,
 ⟨some 35, .fieldAddr 40 (.tmp 3) 2, some (9, true)⟩,
 ⟨some 36, .load 38 (.tmp 35), some (9, true)⟩,
 ⟨some 37, .call { callee := .builtin .len, args := #[.tmp 36], argTypes := #[38] }, some (9, true)⟩,
 ⟨some 38, .move (.tmp 5), some (9, true)⟩,
 ⟨some 39, .binOp .eql 3 (.tmp 37) (.tmp 38) 3, some (9, true)⟩,
 ⟨some 40, .pick (.tmp 34) (.tmp 39) (.const (.bool false)), none⟩,
 ⟨some 41, .move (.tmp 40), none⟩,
 ⟨some 42, .fieldAddr 40 (.tmp 3) 2, some (16, true)⟩,
 ⟨some 43, .load 38 (.tmp 42), some (16, true)⟩,
 ⟨some 44, .makeFunc (.func 70) #[] #[.tmp 2], some (16, true)⟩,
 ⟨some 45, .call { callee := .value (.func 44), args := #[.tmp 43, .tmp 44], argTypes := #[38, 41] }, some (16, true)⟩,
 ⟨some 46, .unOp .not 4 (.tmp 45), some (16, true)⟩,
 ⟨some 47, .pick (.tmp 41) (.tmp 46) (.const (.bool false)), none⟩,
 ⟨some 4, .assign (.tmp 47), none⟩]
def f46_c : LC := (.seq (.reg f46_r0 [] none) (.seq (.reg f46_r1 [] none) (.seq (.seq (.reg f46_r2 [] none) (.block 0 (.seq (.seq (.reg f46_r3 [] none) (.cond (.tmp 9) .skip (.reg f46_r4 [] none))) (.cond (.tmp 9) .skip (.seq (.reg f46_r5 [] none) (.cond (.tmp 12) (.reg f46_r6 [] none) (.seq (.reg f46_r7 [] none) (.cond (.tmp 17) (.reg f46_r8 [] none) (.seq (.seq (.reg f46_r9 [] none) (.cond (.tmp 22) .skip (.reg f46_r10 [] none))) (.cond (.tmp 22) (.reg f46_r11 [] none) (.seq (.reg f46_r12 [] none) .ret))))))))))) (.seq (.reg f46_r13 [] none) .ret))))
theorem f46_lc : Tryz.f46.body.map lc = some f46_c.st := by kernel_rfl
theorem f46_res : Tryz.f46.results.toList = [.tmp 4] := by kernel_rfl
theorem f46_nt : Tryz.f46.ntmps = 48 := by kernel_rfl
theorem f46_nm : (Tryz.f46.name == "runtime.NumGoroutine") = false := by kernel_rfl
def f47_r0 : List LOp := [
 ⟨some 2, .assign (.const (.int .i64 0)), none⟩]
def f47_r1 : List LOp := [
 ⟨some 6, .move (.tmp 0), none⟩,
 ⟨some 7, .call { callee := .builtin .len, args := #[.tmp 6], argTypes := #[38] }, none⟩,
 ⟨some 3, .assign (.tmp 7), none⟩]
def f47_r2 : List LOp := [
 ⟨some 8, .move (.tmp 0), none⟩,
 ⟨some 9, .call { callee := .builtin .len, args := #[.tmp 8], argTypes := #[38] }, none⟩,
 ⟨some 10, .move (.const (.int .i64 0)), none⟩]
def f47_r3 : List LOp := [
 ⟨some 11, .binOp .lss 3 (.tmp 10) (.tmp 9) 3, none⟩]
def f47_r4 : List LOp := [
 ⟨some 12, .indexAddr 38 (.tmp 8) (.tmp 10), none⟩,
 ⟨some 13, .load 40 (.tmp 12), none⟩,
 ⟨some 5, .alloc 40, none⟩,
 ⟨none, .store 40 (.tmp 5) (.tmp 13), none⟩]
def f47_r5 : List LOp := [
 ⟨some 14, .move (.tmp 3), none⟩,
 ⟨some 15, .fieldAddr 40 (.tmp 5) 2, none⟩,
 ⟨some 16, .load 38 (.tmp 15), none⟩,
 ⟨some 17, .call { callee := .value (.func 47), args := #[.tmp 16], argTypes := #[38] }, none⟩,
 ⟨some 18, .binOp .add 3 (.tmp 14) (.tmp 17) 3, none⟩,
 ⟨some 3, .assign (.tmp 18), none⟩]
def f47_r6 : List LOp := [
 ⟨some 19, .binOp .add 3 (.tmp 10) (.const (.int .i64 1)) 3, none⟩,
 ⟨some 10, .move (.tmp 19), none⟩]
def f47_l7 : LC := (.seq (.reg f47_r3 [] none) (.seq (.cond (.tmp 11) .skip (.exit 0)) (.seq (.block 1 (.seq (.reg f47_r4 [] none) (.reg f47_r5 [] none))) (.reg f47_r6 [] none))))
def f47_i7 (t3 t8 t9 t10 : D) : List D := [.any, .any, .any, t3, .any, .any, .any, .any, t8, t9, t10, .any, .any, .any, .any, .any, .any, .any, .any, .any, .any]
def f47_r8 : List LOp := [
 ⟨some 20, .move (.tmp 3), none⟩,
 ⟨some 2, .assign (.tmp 20), none⟩]
def f47_c : LC := (.seq (.reg f47_r0 [] none) (.seq (.reg f47_r1 [] none) (.seq (.seq (.reg f47_r2 [] none) (.block 0 (.loop f47_l7))) (.seq (.reg f47_r8 [] none) .ret))))
theorem f47_lc : Tryz.f47.body.map lc = some f47_c.st := by kernel_rfl
theorem f47_res : Tryz.f47.results.toList = [.tmp 2] := by kernel_rfl
theorem f47_nt : Tryz.f47.ntmps = 21 := by kernel_rfl
theorem f47_nm : (Tryz.f47.name == "runtime.NumGoroutine") = false := by kernel_rfl
def f48_r0 : List LOp := [
 ⟨some 4, .assign (.const (.bool false)), none⟩]
def f48_r1 : List LOp := [
 ⟨some 5, .move (.tmp 0), none⟩,
 ⟨some 6, .move (.tmp 1), none⟩,
 ⟨some 7, .call { callee := .value (.func 71), args := #[.tmp 5, .tmp 6], argTypes := #[37, 34] }, none⟩,
 ⟨some 8, .binOp .geq 3 (.tmp 7) (.const (.int .i64 0)) 3, none⟩,
 ⟨some 4, .assign (.tmp 8), none⟩]
def f48_c : LC := (.seq (.reg f48_r0 [] none) (.seq (.reg f48_r1 [] none) .ret))
theorem f48_lc : Tryz.f48.body.map lc = some f48_c.st := by kernel_rfl
theorem f48_res : Tryz.f48.results.toList = [.tmp 4] := by kernel_rfl
theorem f48_nt : Tryz.f48.ntmps = 9 := by kernel_rfl
theorem f48_nm : (Tryz.f48.name == "runtime.NumGoroutine") = false := by kernel_rfl
def f49_r0 : List LOp := [
 ⟨some 1, .box 26 (.tmp 0), none⟩,
 ⟨some 2, .assign (.const (.bool false)), none⟩]
def f49_r1 : List LOp := [
 ⟨some 3, .load 26 (.tmp 1), none⟩,
 ⟨some 4, .call { callee := .value (.func 28), args := #[.tmp 3], argTypes := #[26] }, none⟩,
 ⟨some 5, .unOp .not 4 (.tmp 4), none⟩,
 ⟨some 2, .assign (.tmp 5), none⟩]
def f49_c : LC := (.seq (.reg f49_r0 [] none) (.seq (.reg f49_r1 [] none) .ret))
theorem f49_lc : Tryz.f49.body.map lc = some f49_c.st := by kernel_rfl
theorem f49_res : Tryz.f49.results.toList = [.tmp 2] := by kernel_rfl
theorem f49_nt : Tryz.f49.ntmps = 6 := by kernel_rfl
theorem f49_nm : (Tryz.f49.name == "runtime.NumGoroutine") = false := by kernel_rfl
def f50_r0 : List LOp := [
 ⟨some 2, .assign (.const (.slice none 0 0)), none⟩]
def f50_r1 : List LOp := [
 ⟨some 3, .assign (.const (.slice none 0 0)), none⟩]
def f50_r2 : List LOp := [
 ⟨some 6, .move (.tmp 0), none⟩,
 ⟨some 7, .call { callee := .builtin .len, args := #[.tmp 6], argTypes := #[24] }, none⟩,
 ⟨some 8, .move (.const (.int .i64 0)), none⟩]
def f50_r3 : List LOp := [
 ⟨some 9, .binOp .lss 3 (.tmp 8) (.tmp 7) 3, none⟩]
def f50_r4 : List LOp := [
 ⟨some 10, .indexAddr 24 (.tmp 6) (.tmp 8), none⟩,
 ⟨some 11, .load 66 (.tmp 10), none⟩,
 ⟨some 5, .alloc 66, none⟩,
 ⟨none, .store 66 (.tmp 5) (.tmp 11), none⟩]
def f50_r5 : List LOp := [
 ⟨some 12, .move (.tmp 3), none⟩,
 ⟨some 13, .fieldAddr 66 (.tmp 5) 0, none⟩,
 ⟨some 14, .load 9 (.tmp 13), none⟩,
 ⟨some 15, .buildSlice 22 1 #[(0, .tmp 14)], none⟩,
 ⟨some 16, .call { callee := .builtin .append, args := #[.tmp 12, .tmp 15], argTypes := #[22, 22] }, none⟩,
 ⟨some 3, .assign (.tmp 16), none⟩]
def f50_r6 : List LOp := [
 ⟨some 17, .binOp .add 3 (.tmp 8) (.const (.int .i64 1)) 3, none⟩,
 ⟨some 8, .move (.tmp 17), none⟩]
def f50_l7 : LC := (.seq (.reg f50_r3 [] none) (.seq (.cond (.tmp 9) .skip (.exit 0)) (.seq (.block 1 (.seq (.reg f50_r4 [] none) (.reg f50_r5 [] none))) (.reg f50_r6 [] none))))
def f50_i7 (t3 t6 t7 t8 : D) : List D := [.any, .any, .any, t3, .any, .any, t6, t7, t8, .any, .any, .any, .any, .any, .any, .any, .any, .any, .any]
def f50_r8 : List LOp := [
 ⟨some 18, .move (.tmp 3), none⟩,
 ⟨some 2, .assign (.tmp 18), none⟩]
def f50_c : LC := (.seq (.reg f50_r0 [] none) (.seq (.reg f50_r1 [] none) (.seq (.seq (.reg f50_r2 [] none) (.block 0 (.loop f50_l7))) (.seq (.reg f50_r8 [] none) .ret))))
theorem f50_lc : Tryz.f50.body.map lc = some f50_c.st := by kernel_rfl
theorem f50_res : Tryz.f50.results.toList = [.tmp 2] := by kernel_rfl
theorem f50_nt : Tryz.f50.ntmps = 19 := by kernel_rfl
theorem f50_nm : (Tryz.f50.name == "runtime.NumGoroutine") = false := by kernel_rfl
def f51_r0 : List LOp := [
 ⟨some 2, .assign (.const (.slice none 0 0)), none⟩]
def f51_r1 : List LOp := [
 ⟨some 4, .move (.tmp 0), none⟩,
 ⟨some 5, .call { callee := .value (.func 72), args := #[.tmp 4], argTypes := #[100] }, none⟩,
 ⟨some 3, .assign (.tmp 5), none⟩]
def f51_r2 : List LOp := [
 ⟨some 6, .move (.tmp 3), none⟩,
 ⟨some 7, .call { callee := .value (.func 73), args := #[.tmp 6], argTypes := #[22] }, none⟩]
def f51_r3 : List LOp := [
 ⟨some 8, .move (.tmp 3), none⟩,
 ⟨some 2, .assign (.tmp 8), none⟩]
def f51_c : LC := (.seq (.reg f51_r0 [] none) (.seq (.reg f51_r1 [] none) (.seq (.reg f51_r2 [] none) (.seq (.reg f51_r3 [] none) .ret))))
theorem f51_lc : Tryz.f51.body.map lc = some f51_c.st := by kernel_rfl
theorem f51_res : Tryz.f51.results.toList = [.tmp 2] := by kernel_rfl
theorem f51_nt : Tryz.f51.ntmps = 9 := by kernel_rfl
theorem f51_nm : (Tryz.f51.name == "runtime.NumGoroutine") = false := by kernel_rfl
def f52_r0 : List LOp := [
 ⟨some 1, .box 22 (.tmp 0), none⟩,
 ⟨some 2, .assign (.const .nilFunc), none⟩]
def f52_r1 : List LOp := [
 ⟨some 3, .makeFunc (.func 74) #[] #[.tmp 1], none⟩,
 ⟨some 2, .assign (.tmp 3), none⟩]
def f52_c : LC := (.seq (.reg f52_r0 [] none) (.seq (.reg f52_r1 [] none) .ret))
theorem f52_lc : Tryz.f52.body.map lc = some f52_c.st := by kernel_rfl
theorem f52_res : Tryz.f52.results.toList = [.tmp 2] := by kernel_rfl
theorem f52_nt : Tryz.f52.ntmps = 4 := by kernel_rfl
theorem f52_nm : (Tryz.f52.name == "runtime.NumGoroutine") = false := by kernel_rfl
def f53_r0 : List LOp := [
 ⟨some 2, .assign (.const (.bool false)), none⟩]
def f53_r1 : List LOp := [
 ⟨some 3, .move (.tmp 0), none⟩,
 ⟨some 4, .call { callee := .value (.func 75), args := #[.tmp 3, .func 76], argTypes := #[22, 113] }, none⟩,
 ⟨some 5, .unOp .not 4 (.tmp 4), none⟩,
 ⟨some 2, .assign (.tmp 5), none⟩]
def f53_c : LC := (.seq (.reg f53_r0 [] none) (.seq (.reg f53_r1 [] none) .ret))
theorem f53_lc : Tryz.f53.body.map lc = some f53_c.st := by kernel_rfl
theorem f53_res : Tryz.f53.results.toList = [.tmp 2] := by kernel_rfl
theorem f53_nt : Tryz.f53.ntmps = 6 := by kernel_rfl
theorem f53_nm : (Tryz.f53.name == "runtime.NumGoroutine") = false := by kernel_rfl
def f55_r0 : List LOp := [
 ⟨some 1, .box 9 (.tmp 0), none⟩,
 ⟨some 2, .assign (.const .nilFunc), none⟩]
def f55_r1 : List LOp := [
 ⟨some 3, .makeFunc (.func 78) #[] #[.tmp 1], none⟩,
 ⟨some 2, .assign (.tmp 3), none⟩]
def f55_c : LC := (.seq (.reg f55_r0 [0] none) (.seq (.reg f55_r1 [] none) .ret))
theorem f55_lc : Tryz.f55.body.map lc = some f55_c.st := by kernel_rfl
theorem f55_res : Tryz.f55.results.toList = [.tmp 2] := by kernel_rfl
theorem f55_nt : Tryz.f55.ntmps = 4 := by kernel_rfl
theorem f55_nm : (Tryz.f55.name == "runtime.NumGoroutine") = false := by kernel_rfl
def f56_r0 : List LOp := [
 ⟨some 4, .assign (.const (.string { data := #[] })), none⟩,
 ⟨some 5, .assign (.const (.bool false)), none⟩]
def f56_r1 : List LOp := [
 ⟨some 6, .move (.tmp 0), none⟩,
 ⟨some 7, .move (.tmp 1), none⟩,
 ⟨some 8, .call { callee := .value (.func 80), args := #[.tmp 6, .tmp 7], argTypes := #[9, 9] }, none⟩,
 ⟨some 9, .extract (.tmp 8) 0, none⟩,
 ⟨some 10, .extract (.tmp 8) 1, none⟩,
 ⟨some 4, .assign (.tmp 9), none⟩,
 ⟨some 5, .assign (.tmp 10), none⟩]
def f56_c : LC := (.seq (.reg f56_r0 [] none) (.seq (.reg f56_r1 [] none) .ret))
theorem f56_lc : Tryz.f56.body.map lc = some f56_c.st := by kernel_rfl
theorem f56_res : Tryz.f56.results.toList = [.tmp 4, .tmp 5] := by kernel_rfl
theorem f56_nt : Tryz.f56.ntmps = 11 := by kernel_rfl
theorem f56_nm : (Tryz.f56.name == "runtime.NumGoroutine") = false := by kernel_rfl
def f58_r0 : List LOp := [
 ⟨some 4, .assign (.const (.bool false)), none⟩]
def f58_r1 : List LOp := [
 ⟨some 5, .move (.tmp 0), none⟩,
 ⟨some 6, .move (.tmp 1), none⟩,
 ⟨some 7, .call { callee := .value (.func 82), args := #[.tmp 5, .tmp 6], argTypes := #[22, 9] }, none⟩,
 ⟨some 8, .binOp .geq 3 (.tmp 7) (.const (.int .i64 0)) 3, none⟩,
 ⟨some 4, .assign (.tmp 8), none⟩]
def f58_c : LC := (.seq (.reg f58_r0 [] none) (.seq (.reg f58_r1 [] none) .ret))
theorem f58_lc : Tryz.f58.body.map lc = some f58_c.st := by kernel_rfl
theorem f58_res : Tryz.f58.results.toList = [.tmp 4] := by kernel_rfl
theorem f58_nt : Tryz.f58.ntmps = 9 := by kernel_rfl
theorem f58_nm : (Tryz.f58.name == "runtime.NumGoroutine") = false := by kernel_rfl
def f59_r0 : List LOp := [
 ⟨some 6, .call { callee := .builtin .recover, args := #[], argTypes := #[] }, none⟩]
def f59_r1 : List LOp := [
 ⟨some 8, .binOp .eql 20 (.tmp 6) (.const .nilIface) 20, none⟩]
def f59_r2 : List LOp := [
 ⟨some 3, .assign (.tmp 6), none⟩]
def f59_r3 : List LOp := [
 ⟨some 9, .typeAssert (.tmp 6) 20 109 true, none⟩,
 ⟨some 10, .extract (.tmp 9) 1, none⟩,
 ⟨some 11, .extract (.tmp 9) 0, none⟩]
def f59_r4 : List LOp := [
 ⟨some 4, .alloc 109, none⟩,
 ⟨none, .store 109 (.tmp 4) (.tmp 11), none⟩]
def f59_r5 : List LOp := [
 ⟨some 12, .build 40 #[], none⟩,
 ⟨some 13, .fieldAddr 109 (.tmp 4) 0, none⟩,
 ⟨some 14, .load 3 (.tmp 13), none⟩,
 ⟨some 15, .fieldAddr 109 (.tmp 4) 1, none⟩,
 ⟨some 16, .load 27 (.tmp 15), none⟩,
 ⟨none, .store 40 (.tmp 0) (.tmp 12), none⟩,
 ⟨none, .store 3 (.tmp 1) (.tmp 14), none⟩,
 ⟨none, .store 27 (.tmp 2) (.tmp 16), none⟩]
def f59_r6 : List LOp := [
 ⟨some 5, .assign (.tmp 6), none⟩]
def f59_r7 : List LOp := [
 ⟨some 7, .move (.tmp 5), none⟩,
 ⟨none, .panic (.tmp 7), none⟩]
def f59_c : LC := (.seq (.reg f59_r0 [] none) (.block 0 (.seq (.reg f59_r1 [] none) (.cond (.tmp 8) (.reg f59_r2 [] none) (.seq (.reg f59_r3 [] none) (.cond (.tmp 10) (.seq (.reg f59_r4 [] none) (.regq f59_r5 [] 0 (.free [[], [], [1], [], [3], [0, 0], [2, 5, 0, 1, 2, 5], [4, 6, 0, 1, 2, 3, 4, 5, 6]]))) (.seq (.reg f59_r6 [] none) (.reg f59_r7 [] none))))))))
theorem f59_lc : Tryz.f59.body.map lc = some f59_c.st := by kernel_rfl
theorem f59_res : Tryz.f59.results.toList = [] := by kernel_rfl
theorem f59_nt : Tryz.f59.ntmps = 17 := by kernel_rfl
theorem f59_nm : (Tryz.f59.name == "runtime.NumGoroutine") = false := by kernel_rfl
def f60_r0 : List LOp := [
 ⟨some 2, .alloc 40, none⟩]
def f60_r1 : List LOp := [
 ⟨some 4, .move (.tmp 0), none⟩,
 ⟨some 5, .call { callee := .value (.func 83), args := #[.tmp 4], argTypes := #[61] }, none⟩,
 ⟨some 6, .buildSlice 38 1 #[(0, .tmp 5)], none⟩,
 ⟨some 3, .assign (.tmp 6), none⟩]
def f60_r2 : List LOp := [
 ⟨some 7, .move (.tmp 0), none⟩,
 ⟨some 8, .call { callee := .value (.func 84), args := #[.tmp 7, .const (.int .u8 124)], argTypes := #[61, 5] }, none⟩]
def f60_r3 : List LOp := [
 ⟨some 9, .move (.tmp 0), none⟩,
 ⟨some 10, .nilCheck (.tmp 9), none⟩,
 ⟨some 11, .fieldAddr 63 (.tmp 10) 1, none⟩,
 ⟨some 12, .load 3 (.tmp 11), none⟩,
 ⟨some 13, .binOp .add 3 (.tmp 12) (.const (.int .i64 1)) 3, none⟩,
 ⟨some 14, .nilCheck (.tmp 9), none⟩,
 ⟨some 15, .fieldAddr 63 (.tmp 14) 1, none⟩,
 ⟨none, .store 3 (.tmp 15) (.tmp 13), none⟩]
def f60_r4 : List LOp := [
 ⟨some 16, .move (.tmp 3), none⟩,
 ⟨some 17, .move (.tmp 0), none⟩,
 ⟨some 18, .call { callee := .value (.func 83), args := #[.tmp 17], argTypes := #[61] }, none⟩,
 ⟨some 19, .buildSlice 38 1 #[(0, .tmp 18)], none⟩,
 ⟨some 20, .call { callee := .builtin .append, args := #[.tmp 16, .tmp 19], argTypes := #[38, 38] }, none⟩,
 ⟨some 3, .assign (.tmp 20), none⟩]
def f60_l5 : LC := (.seq (.seq (.reg f60_r2 [] none) (.cond (.tmp 8) .skip (.exit 0))) (.block 1 (.seq (.reg f60_r3 [] none) (.reg f60_r4 [] none))))
def f60_i5 (t0 t2 t3 : D) : List D := [t0, .any, t2, t3, .any, .any, .any, .any, .any, .any, .any, .any, .any, .any, .any, .any, .any, .any, .any, .any, .any, .any, .any]
def f60_r6 : List LOp := [
 ⟨some 21, .move (.tmp 3), none⟩,
 ⟨some 22, .call { callee := .value (.func 85), args := #[.const (.int .u8 5), .tmp 21], argTypes := #[5, 38] }, none⟩,
 ⟨none, .store 40 (.tmp 2) (.tmp 22), none⟩]
def f60_c : LC := (.seq (.reg f60_r0 [] none) (.seq (.reg f60_r1 [2] none) (.seq (.block 0 (.loop f60_l5)) (.seq (.reg f60_r6 [] none) .ret))))
theorem f60_lc : Tryz.f60.body.map lc = some f60_c.st := by kernel_rfl
theorem f60_res : Tryz.f60.results.toList = [.cell 2 40] := by kernel_rfl
theorem f60_nt : Tryz.f60.ntmps = 23 := by kernel_rfl
theorem f60_nm : (Tryz.f60.name == "runtime.NumGoroutine") = false := by kernel_rfl
def f61_r0 : List LOp := [
 ⟨some 2, .move (.tmp 0), none⟩,
 ⟨some 3, .nilCheck (.tmp 2), none⟩,
 ⟨some 4, .fieldAddr 63 (.tmp 3) 1, none⟩,
 ⟨some 5, .load 3 (.tmp 4), none⟩,
 ⟨some 6, .move (.tmp 0), none⟩,
 ⟨some 7, .nilCheck (.tmp 6), none⟩,
 ⟨some 8, .fieldAddr 63 (.tmp 7) 0, none⟩,
 ⟨some 9, .load 9 (.tmp 8), none⟩,
 ⟨some 10, .call { callee := .builtin .len, args := #[.tmp 9], argTypes := #[9] }, none⟩,
 ⟨some 11, .binOp .lss 3 (.tmp 5) (.tmp 10) 3, none⟩,
 ⟨some 12, .move (.tmp 11), none⟩,
 ⟨some 13, .move (.tmp 0), some (10, true)⟩,
 ⟨some 14, .nilCheck (.tmp 13), some (10, true)⟩,
 ⟨some 15, .fieldAddr 63 (.tmp 14) 0, some (10, true)⟩,
 ⟨some 16, .load 9 (.tmp 15), some (10, true)⟩,
 ⟨some 17, .move (.tmp 0), some (10, true)⟩,
 ⟨some 18, .nilCheck (.tmp 17), some (10, true)⟩,
 ⟨some 19, .fieldAddr 63 (.tmp 18) 1, some (10, true)⟩,
 ⟨some 20, .load 3 (.tmp 19), some (10, true)⟩,
 ⟨some 21, .index 9 (.tmp 16) (.tmp 20), some (10, true)⟩,
 ⟨some 22, .binOp .eql 5 (.tmp 21) (.const (.int .u8 32)) 5, some (10, true)⟩,
 ⟨some 23, .pick (.tmp 12) (.tmp 22) (.const (.bool false)), none⟩]
def f61_r1 : List LOp := [
 ⟨some 24, .move (.tmp 0), none⟩,
 ⟨some 25, .nilCheck (.tmp 24), none⟩,
 ⟨some 26, .fieldAddr 63 (.tmp 25) 1, none⟩,
 ⟨some 27, .load 3 (.tmp 26), none⟩,
 ⟨some 28, .binOp .add 3 (.tmp 27) (.const (.int .i64 1)) 3, none⟩,
 ⟨some 29, .nilCheck (.tmp 24), none⟩,
 ⟨some 30, .fieldAddr 63 (.tmp 29) 1, none⟩,
 ⟨none, .store 3 (.tmp 30) (.tmp 28), none⟩]
def f61_l2 : LC := (.seq (.seq (.reg f61_r0 [] (some 22)) (.cond (.tmp 23) .skip (.exit 0))) (.block 1 (.reg f61_r1 [] none)))
def f61_i2 (t0 : D) : List D := [t0, .any, .any, .any, .any, .any, .any, .any, .any, .any, .any, .any, .any, .any, .any, .any, .any, .any, .any, .any, .any, .any, .any, .any, .any, .any, .any, .any, .any, .any, .any]
def f61_c : LC := (.block 0 (.loop f61_l2))
theorem f61_lc : Tryz.f61.body.map lc = some f61_c.st := by kernel_rfl
theorem f61_res : Tryz.f61.results.toList = [] := by kernel_rfl
theorem f61_nt : Tryz.f61.ntmps = 31 := by kernel_rfl
theorem f61_nm : (Tryz.f61.name == "runtime.NumGoroutine") = false := by kernel_rfl
def f62_r0 : List LOp := [
 ⟨some 6, .move (.tmp 1), none⟩,
 ⟨some 7, .move (.tmp 2), none⟩,
 ⟨some 8, .build 109 #[(0, .tmp 6), (1, .tmp 7)], none⟩,
 ⟨some 9, .makeInterface 109 (.tmp 8), none⟩,
 ⟨none, .panic (.tmp 9), none⟩]
def f62_c : LC := (.reg f62_r0 [] none)
theorem f62_lc : Tryz.f62.body.map lc = some f62_c.st := by kernel_rfl
theorem f62_res : Tryz.f62.results.toList = [] := by kernel_rfl
theorem f62_nt : Tryz.f62.ntmps = 10 := by kernel_rfl
theorem f62_nm : (Tryz.f62.name == "runtime.NumGoroutine") = false := by kernel_rfl
def f63_r0 : List LOp := [
 ⟨some 2, .assign (.const (.slice none 0 0)), none⟩]
def f63_r1 : List LOp := [
 ⟨some 3, .assign (.const (.int .i64 0)), none⟩]
def f63_r2 : List LOp := [
 ⟨some 9, .move (.tmp 0), none⟩,
 ⟨some 10, .call { callee := .builtin .len, args := #[.tmp 9], argTypes := #[125] }, none⟩,
 ⟨some 11, .move (.const (.int .i64 0)), none⟩]
def f63_r3 : List LOp := [
 ⟨some 12, .binOp .lss 3 (.tmp 11) (.tmp 10) 3, none⟩]
def f63_r4 : List LOp := [
 ⟨some 13, .indexAddr 125 (.tmp 9) (.tmp 11), none⟩,
 ⟨some 14, .load 22 (.tmp 13), none⟩,
 ⟨some 5, .assign (.tmp 14), none⟩]
def f63_r5 : List LOp := [
 ⟨some 15, .move (.tmp 3), none⟩,
 ⟨some 16, .move (.tmp 5), none⟩,
 ⟨some 17, .call { callee := .builtin .len, args := #[.tmp 16], argTypes := #[22] }, none⟩,
 ⟨some 18, .binOp .add 3 (.tmp 15) (.tmp 17) 3, none⟩,
 ⟨some 3, .assign (.tmp 18), none⟩]
def f63_r6 : List LOp := [
 ⟨some 19, .move (.tmp 3), none⟩,
 ⟨some 20, .binOp .lss 3 (.tmp 19) (.const (.int .i64 0)) 3, none⟩]
def f63_r7 : List LOp := [
 ⟨some 21, .makeInterface 9 (.const (.string { data := #[108, 101, 110, 32, 111, 117, 116, 32, 111, 102, 32, 114, 97, 110, 103, 101] })), none⟩,
 ⟨none, .panic (.tmp 21), none⟩]
def f63_r8 : List LOp := [
 ⟨some 22, .binOp .add 3 (.tmp 11) (.const (.int .i64 1)) 3, none⟩,
 ⟨some 11, .move (.tmp 22), none⟩]
def f63_l9 : LC := (.seq (.reg f63_r3 [] none) (.seq (.cond (.tmp 12) .skip (.exit 0)) (.seq (.block 1 (.seq (.reg f63_r4 [] none) (.seq (.reg f63_r5 [] none) (.seq (.reg f63_r6 [] none) (.cond (.tmp 20) (.reg f63_r7 [] none) .skip))))) (.reg f63_r8 [] none))))
def f63_i9 (t0 t3 t9 t10 t11 : D) : List D := [t0, .any, .any, t3, .any, .any, .any, .any, .any, t9, t10, t11, .any, .any, .any, .any, .any, .any, .any, .any, .any, .any, .any, .any, .any, .any, .any, .any, .any, .any, .any, .any, .any, .any, .any, .any]
def f63_r10 : List LOp := [
 ⟨some 23, .move (.tmp 3), none⟩,
 ⟨some 24, .call { callee := .value (.func 86), args := #[.const (.slice none 0 0), .tmp 23], argTypes := #[22, 3] }, none⟩,
 ⟨some 6, .assign (.tmp 24), none⟩]
def f63_r11 : List LOp := [
 ⟨some 25, .move (.tmp 0), none⟩,
 ⟨some 26, .call { callee := .builtin .len, args := #[.tmp 25], argTypes := #[125] }, none⟩,
 ⟨some 27, .move (.const (.int .i64 0)), none⟩]
def f63_r12 : List LOp := [
 ⟨some 28, .binOp .lss 3 (.tmp 27) (.tmp 26) 3, none⟩]
def f63_r13 : List LOp := [
 ⟨some 29, .indexAddr 125 (.tmp 25) (.tmp 27), none⟩,
 ⟨some 30, .load 22 (.tmp 29), none⟩,
 ⟨some 8, .assign (.tmp 30), none⟩]
def f63_r14 : List LOp := [
 ⟨some 31, .move (.tmp 6), none⟩,
 ⟨some 32, .move (.tmp 8), none⟩,
 ⟨some 33, .call { callee := .builtin .append, args := #[.tmp 31, .tmp 32], argTypes := #[22, 22] }, none⟩,
 ⟨some 6, .assign (.tmp 33), none⟩]
def f63_r15 : List LOp := [
 ⟨some 34, .binOp .add 3 (.tmp 27) (.const (.int .i64 1)) 3, none⟩,
 ⟨some 27, .move (.tmp 34), none⟩]
def f63_l16 : LC := (.seq (.reg f63_r12 [] none) (.seq (.cond (.tmp 28) .skip (.exit 2)) (.seq (.block 3 (.seq (.reg f63_r13 [] none) (.reg f63_r14 [] none))) (.reg f63_r15 [] none))))
def f63_i16 (t6 t25 t26 t27 : D) : List D := [.any, .any, .any, .any, .any, .any, t6, .any, .any, .any, .any, .any, .any, .any, .any, .any, .any, .any, .any, .any, .any, .any, .any, .any, .any, t25, t26, t27, .any, .any, .any, .any, .any, .any, .any, .any]
def f63_r17 : List LOp := [
 ⟨some 35, .move (.tmp 6), none⟩,
 ⟨some 2, .assign (.tmp 35), none⟩]
def f63_c : LC := (.seq (.reg f63_r0 [] none) (.seq (.reg f63_r1 [] none) (.seq (.seq (.reg f63_r2 [] none) (.block 0 (.loop f63_l9))) (.seq (.reg f63_r10 [] none) (.seq (.seq (.reg f63_r11 [] none) (.block 2 (.loop f63_l16))) (.seq (.reg f63_r17 [] none) .ret))))))
theorem f63_lc : Tryz.f63.body.map lc = some f63_c.st := by kernel_rfl
theorem f63_res : Tryz.f63.results.toList = [.tmp 2] := by kernel_rfl
theorem f63_nt : Tryz.f63.ntmps = 36 := by kernel_rfl
theorem f63_nm : (Tryz.f63.name == "runtime.NumGoroutine") = false := by kernel_rfl
def f64_r0 : List LOp := [
 ⟨some 2, .assign (.const (.bool false)), none⟩]
def f64_r1 : List LOp := [
 ⟨some 5, .move (.tmp 0), none⟩,
 ⟨some 6, .call { callee := .builtin .len, args := #[.tmp 5], argTypes := #[9] }, none⟩,
 ⟨some 7, .binOp .lss 3 (.tmp 6) (.const (.int .i64 1)) 3, none⟩,
 ⟨some 8, .move (.tmp 7), none⟩,
 ⟨some 9, .move (.tmp 0), some (3, false)⟩,
 ⟨some 10, .call { callee := .builtin .len, args := #[.tmp 9], argTypes := #[9] }, some (3, false)⟩,
 ⟨some 11, .binOp .gtr 3 (.tmp 10) (.const (.int .i64 30)) 3, some (3, false)⟩,
 ⟨some 12, .pick (.tmp 8) (.const (.bool true)) (.tmp 11), none⟩,
 ⟨some 13, .move (.tmp 12), none⟩,
 ⟨some 14, .move (.tmp 0), some (8, false)⟩,
 ⟨some 15, .index 9 (.tmp 14) (.const (.int .i64 0)), some (8, false)⟩,
 ⟨some 16, .binOp .lss 5 (.tmp 15) (.const (.int .u8 97)) 5, some (8, false)⟩,
 ⟨some 17, .pick (.tmp 13) (.const (.bool true)) (.tmp 16), none⟩,
 ⟨some 18, .move (.tmp 17), none⟩,
 ⟨some 19, .move (.tmp 0), some (13, false)⟩,
 ⟨some 20, .index 9 (.tmp 19) (.const (.int .i64 0)), some (13, false)⟩,
 ⟨some 21, .binOp .gtr 5 (.tmp 20) (.const (.int .u8 122)) 5, some (13, false)⟩,
 ⟨some 22, .pick (.tmp 18) (.const (.bool true)) (.tmp 21), none⟩]
def f64_r2 : List LOp := [
 ⟨some 2, .assign (.const (.bool false)), none⟩]
def f64_r3 : List LOp := [
 ⟨some 3, .assign (.const (.int .i64 0)), none⟩]
def f64_r4 : List LOp := [
 ⟨some 23, .move (.tmp 3), none⟩,
 ⟨some 24, .move (.tmp 0), none⟩,
 ⟨some 25, .call { callee := .builtin .len, args := #[.tmp 24], argTypes := #[9] }, none⟩,
 ⟨some 26, .binOp .lss 3 (.tmp 23) (.tmp 25) 3, none⟩]
def f64_r5 : List LOp := [
 ⟨some 29, .move (.tmp 0), none⟩,
 ⟨some 30, .move (.tmp 3), none⟩,
 ⟨some 31, .index 9 (.tmp 29) (.tmp 30), none⟩,
 ⟨some 4, .assign (.tmp 31), none⟩]
def f64_r6 : List LOp := [
 ⟨some 32, .move (.tmp 4), none⟩,
 ⟨some 33, .binOp .geq 5 (.tmp 32) (.const (.int .u8 97)) 5, none⟩,
 ⟨some 34, .move (.tmp 33), none⟩,
 ⟨some 35, .move (.tmp 4), some (2, true)⟩,
 ⟨some 36, .binOp .leq 5 (.tmp 35) (.const (.int .u8 122)) 5, some (2, true)⟩,
 ⟨some 37, .pick (.tmp 34) (.tmp 36) (.const (.bool false)), none⟩,
 ⟨some 38, .move (.tmp 37), none⟩,
 ⟨some 39, .move (.tmp 4), some (6, false)⟩,
 ⟨some 40, .binOp .geq 5 (.tmp 39) (.const (.int .u8 48)) 5, some (6, false)⟩,
 ⟨some 41, .move (.tmp 40), some (6, false)⟩,
 ⟨some 42, .move (.tmp 4), some (9, true)⟩,
 ⟨some 43, .binOp .leq 5 (.tmp 42) (.const (.int .u8 57)) 5, some (9, true)⟩,
 ⟨some 44, .pick (.tmp 41) (.tmp 43) (.const (.bool false)), some (6, false)⟩,
 ⟨some 45, .pick (.tmp 38) (.const (.bool true)) (.tmp 44), none⟩,
 ⟨some 46, .move (.tmp 45), none⟩,
 ⟨some 47, .move (.tmp 4), some (14, false)⟩,
 ⟨some 48, .binOp .eql 5 (.tmp 47) (.const (.int .u8 95)) 5, some (14, false)⟩,
 ⟨some 49, .pick (.tmp 46) (.const (.bool true)) (.tmp 48), none⟩,
 ⟨some 50, .unOp .not 4 (.tmp 49), none⟩]
def f64_r7 : List LOp := [
 ⟨some 2, .assign (.const (.bool false)), none⟩]
def f64_r8 : List LOp := [
 ⟨some 27, .move (.tmp 3), none⟩,
 ⟨some 28, .binOp .add 3 (.tmp 27) (.const (.int .i64 1)) 3, none⟩,
 ⟨some 3, .assign (.tmp 28), none⟩]
def f64_l9 : LC := (.seq (.seq (.reg f64_r4 [] none) (.cond (.tmp 26) .skip (.exit 0))) (.seq (.block 1 (.seq (.reg f64_r5 [] none) (.seq (.reg f64_r6 [] none) (.cond (.tmp 50) (.seq (.reg f64_r7 [] none) .ret) .skip)))) (.reg f64_r8 [] none)))
def f64_i9 (t0 t3 : D) : List D := [t0, .any, .any, t3, .any, .any, .any, .any, .any, .any, .any, .any, .any, .any, .any, .any, .any, .any, .any, .any, .any, .any, .any, .any, .any, .any, .any, .any, .any, .any, .any, .any, .any, .any, .any, .any, .any, .any, .any, .any, .any, .any, .any, .any, .any, .any, .any, .any, .any, .any, .any]
def f64_r10 : List LOp := [
 ⟨some 2, .assign (.const (.bool true)), none⟩]
def f64_c : LC := (.seq (.reg f64_r0 [] none) (.seq (.seq (.reg f64_r1 [] none) (.cond (.tmp 22) (.seq (.reg f64_r2 [] none) .ret) .skip)) (.seq (.seq (.reg f64_r3 [] none) (.block 0 (.loop f64_l9))) (.seq (.reg f64_r10 [] none) .ret))))
theorem f64_lc : Tryz.f64.body.map lc = some f64_c.st := by kernel_rfl
theorem f64_res : Tryz.f64.results.toList = [.tmp 2] := by kernel_rfl
theorem f64_nt : Tryz.f64.ntmps = 51 := by kernel_rfl
theorem f64_nm : (Tryz.f64.name == "runtime.NumGoroutine") = false := by kernel_rfl
def f65_r0 : List LOp := [
 ⟨some 8, .alloc 72, none⟩]
def f65_r1 : List LOp := [
 ⟨some 11, .buildSlice 38 0 #[], none⟩,
 ⟨some 9, .assign (.tmp 11), none⟩]
def f65_r2 : List LOp := [
 ⟨some 12, .move (.tmp 0), none⟩,
 ⟨some 13, .move (.tmp 1), none⟩,
 ⟨some 14, .move (.tmp 2), none⟩,
 ⟨some 15, .move (.tmp 3), none⟩,
 ⟨some 16, .call { callee := .value (.func 87), args := #[.tmp 12, .tmp 13, .tmp 14, .tmp 15], argTypes := #[9, 3, 22, 22] }, none⟩,
 ⟨some 10, .alloc 72, none⟩,
 ⟨none, .store 72 (.tmp 10) (.tmp 16), none⟩]
def f65_r3 : List LOp := [
 ⟨some 17, .fieldAddr 72 (.tmp 10) 2, none⟩,
 ⟨some 18, .load 3 (.tmp 17), none⟩,
 ⟨some 19, .binOp .neq 3 (.tmp 18) (.const (.int .i64 0)) 3, none⟩]
def f65_r4 : List LOp := [
 ⟨some 20, .load 72 (.tmp 10), none⟩,
 ⟨none, .store 72 (.tmp 8) (.tmp 20), none⟩]
def f65_r5 : List LOp := [
 ⟨some 21, .move (.tmp 9), none⟩,
 ⟨some 22, .fieldAddr 72 (.tmp 10) 0, none⟩,
 ⟨some 23, .load 40 (.tmp 22), none⟩,
 ⟨some 24, .buildSlice 38 1 #[(0, .tmp 23)], none⟩,
 ⟨some 25, .call { callee := .builtin .append, args := #[.tmp 21, .tmp 24], argTypes := #[38, 38] }, none⟩,
 ⟨some 9, .assign (.tmp 25), none⟩]
def f65_r6 : List LOp := [
 ⟨some 26, .fieldAddr 72 (.tmp 10) 1, none⟩,
 ⟨some 27, .load 3 (.tmp 26), none⟩,
 ⟨some 1, .assign (.tmp 27), none⟩]
def f65_r7 : List LOp := [
 ⟨some 28, .move (.tmp 0), none⟩,
 ⟨some 29, .move (.tmp 1), none⟩,
 ⟨some 30, .call { callee := .value (.func 88), args := #[.tmp 28, .tmp 29, .const (.int .u8 124)], argTypes := #[9, 3, 5] }, none⟩,
 ⟨some 31, .unOp .not 4 (.tmp 30), none⟩]
def f65_r8 : List LOp := [
 ⟨some 32, .move (.tmp 9), none⟩,
 ⟨some 33, .call { callee := .value (.func 89), args := #[.const (.int .u8 5), .tmp 32], argTypes := #[5, 38] }, none⟩,
 ⟨some 34, .move (.tmp 1), none⟩,
 ⟨some 35, .build 72 #[(0, .tmp 33), (1, .tmp 34)], none⟩,
 ⟨none, .store 72 (.tmp 8) (.tmp 35), none⟩]
def f65_r9 : List LOp := [
 ⟨some 36, .move (.tmp 0), none⟩,
 ⟨some 37, .move (.tmp 1), none⟩,
 ⟨some 38, .call { callee := .value (.func 66), args := #[.tmp 36, .tmp 37], argTypes := #[9, 3] }, none⟩,
 ⟨some 39, .binOp .add 3 (.tmp 38) (.const (.int .i64 1)) 3, none⟩,
 ⟨some 1, .assign (.tmp 39), none⟩]
def f65_l10 : LC := (.block 1 (.seq (.reg f65_r2 [] none) (.seq (.seq (.reg f65_r3 [] none) (.cond (.tmp 19) (.seq (.reg f65_r4 [] none) .ret) .skip)) (.seq (.reg f65_r5 [] none) (.seq (.reg f65_r6 [] none) (.seq (.seq (.reg f65_r7 [] none) (.cond (.tmp 31) (.seq (.reg f65_r8 [] none) .ret) .skip)) (.reg f65_r9 [] none)))))))
def f65_i10 (t0 t1 t2 t3 t8 t9 : D) : List D := [t0, t1, t2, t3, .any, .any, .any, .any, t8, t9, .any, .any, .any, .any, .any, .any, .any, .any, .any, .any, .any, .any, .any, .any, .any, .any, .any, .any, .any, .any, .any, .any, .any, .any, .any, .any, .any, .any, .any, .any]
def f65_c : LC := (.seq (.reg f65_r0 [] none) (.seq (.reg f65_r1 [0] none) (.block 0 (.loop f65_l10))))
theorem f65_lc : Tryz.f65.body.map lc = some f65_c.st := by kernel_rfl
theorem f65_res : Tryz.f65.results.toList = [.cell 8 72] := by kernel_rfl
theorem f65_nt : Tryz.f65.ntmps = 40 := by kernel_rfl
theorem f65_nm : (Tryz.f65.name == "runtime.NumGoroutine") = false := by kernel_rfl
def f66_r0 : List LOp := [
 ⟨some 4, .assign (.const (.int .i64 0)), none⟩]
def f66_r1 : List LOp := [
 ⟨some 5, .move (.tmp 1), none⟩,
 ⟨some 6, .move (.tmp 0), none⟩,
 ⟨some 7, .call { callee := .builtin .len, args := #[.tmp 6], argTypes := #[9] }, none⟩,
 ⟨some 8, .binOp .lss 3 (.tmp 5) (.tmp 7) 3, none⟩,
 ⟨some 9, .move (.tmp 8), none⟩,
 ⟨some 10, .move (.tmp 0), some (4, true)⟩,
 ⟨some 11, .move (.tmp 1), some (4, true)⟩,
 ⟨some 12, .index 9 (.tmp 10) (.tmp 11), some (4, true)⟩,
 ⟨some 13, .binOp .eql 5 (.tmp 12) (.const (.int .u8 32)) 5, some (4, true)⟩,
 ⟨some 14, .pick (.tmp 9) (.tmp 13) (.const (.bool false)), none⟩]
def f66_r2 : List LOp := [
 ⟨some 15, .move (.tmp 1), none⟩,
 ⟨some 16, .binOp .add 3 (.tmp 15) (.const (.int .i64 1)) 3, none⟩,
 ⟨some 1, .assign (.tmp 16), none⟩]
def f66_l3 : LC := (.seq (.seq (.reg f66_r1 [] none) (.cond (.tmp 14) .skip (.exit 0))) (.block 1 (.reg f66_r2 [] none)))
def f66_i3 (t0 t1 : D) : List D := [t0, t1, .any, .any, .any, .any, .any, .any, .any, .any, .any, .any, .any, .any, .any, .any, .any, .any]
def f66_r4 : List LOp := [
 ⟨some 17, .move (.tmp 1), none⟩,
 ⟨some 4, .assign (.tmp 17), none⟩]
def f66_c : LC := (.seq (.reg f66_r0 [] none) (.seq (.block 0 (.loop f66_l3)) (.seq (.reg f66_r4 [] none) .ret)))
theorem f66_lc : Tryz.f66.body.map lc = some f66_c.st := by kernel_rfl
theorem f66_res : Tryz.f66.results.toList = [.tmp 4] := by kernel_rfl
theorem f66_nt : Tryz.f66.ntmps = 18 := by kernel_rfl
theorem f66_nm : (Tryz.f66.name == "runtime.NumGoroutine") = false := by kernel_rfl
def f68_r0 : List LOp := [
 ⟨some 4, .assign (.const (.bool false)), none⟩]
def f68_r1 : List LOp := [
 ⟨some 5, .move (.tmp 0), none⟩,
 ⟨some 6, .move (.tmp 1), none⟩,
 ⟨some 7, .call { callee := .value (.func 91), args := #[.tmp 5, .tmp 6], argTypes := #[80, 5] }, none⟩,
 ⟨some 8, .binOp .geq 3 (.tmp 7) (.const (.int .i64 0)) 3, none⟩,
 ⟨some 4, .assign (.tmp 8), none⟩]
def f68_c : LC := (.seq (.reg f68_r0 [] none) (.seq (.reg f68_r1 [] none) .ret))
theorem f68_lc : Tryz.f68.body.map lc = some f68_c.st := by kernel_rfl
theorem f68_res : Tryz.f68.results.toList = [.tmp 4] := by kernel_rfl
theorem f68_nt : Tryz.f68.ntmps = 9 := by kernel_rfl
theorem f68_nm : (Tryz.f68.name == "runtime.NumGoroutine") = false := by kernel_rfl
def f69_r0 : List LOp := [
 ⟨some 4, .assign (.const (.int .i64 0)), none⟩]
def f69_r1 : List LOp := [
 ⟨some 6, .move (.tmp 0), none⟩,
 ⟨some 7, .call { callee := .builtin .len, args := #[.tmp 6], argTypes := #[38] }, none⟩,
 ⟨some 8, .move (.const (.int .i64 0)), none⟩]
def f69_r2 : List LOp := [
 ⟨some 9, .binOp .lss 3 (.tmp 8) (.tmp 7) 3, none⟩]
def f69_r3 : List LOp := [
 ⟨some 10, .move (.tmp 8), none⟩,
 ⟨some 5, .assign (.tmp 10), none⟩]
def f69_r4 : List LOp := [
 ⟨some 11, .move (.tmp 1), none⟩,
 ⟨some 12, .move (.tmp 0), none⟩,
 ⟨some 13, .move (.tmp 5), none⟩,
 ⟨some 14, .indexAddr 38 (.tmp 12) (.tmp 13), none⟩,
 ⟨some 15, .load 40 (.tmp 14), none⟩,
 ⟨some 16, .call { callee := .value (.tmp 11), args := #[.tmp 15], argTypes := #[40] }, none⟩]
def f69_r5 : List LOp := [
 ⟨some 17, .move (.tmp 5), none⟩,
 ⟨some 4, .assign (.tmp 17), none⟩]
def f69_r6 : List LOp := [
 ⟨some 18, .binOp .add 3 (.tmp 8) (.const (.int .i64 1)) 3, none⟩,
 ⟨some 8, .move (.tmp 18), none⟩]
def f69_l7 : LC := (.seq (.reg f69_r2 [] none) (.seq (.cond (.tmp 9) .skip (.exit 0)) (.seq (.block 1 (.seq (.reg f69_r3 [] none) (.seq (.reg f69_r4 [] none) (.cond (.tmp 16) (.seq (.reg f69_r5 [] none) .ret) .skip)))) (.reg f69_r6 [] none))))
def f69_i7 (t0 t1 t7 t8 : D) : List D := [t0, t1, .any, .any, .any, .any, .any, t7, t8, .any, .any, .any, .any, .any, .any, .any, .any, .any, .any]
def f69_r8 : List LOp := [
 ⟨some 4, .assign (.const (.int .i64 (-1))), none⟩]
def f69_c : LC := (.seq (.reg f69_r0 [] none) (.seq (.seq (.reg f69_r1 [] none) (.block 0 (.loop f69_l7))) (.seq (.reg f69_r8 [] none) .ret)))
theorem f69_lc : Tryz.f69.body.map lc = some f69_c.st := by kernel_rfl
theorem f69_res : Tryz.f69.results.toList = [.tmp 4] := by kernel_rfl
theorem f69_nt : Tryz.f69.ntmps = 19 := by kernel_rfl
theorem f69_nm : (Tryz.f69.name == "runtime.NumGoroutine") = false := by kernel_rfl
def f70_r0 : List LOp := [
 ⟨some 2, .box 40 (.tmp 0), none⟩,
 ⟨some 3, .assign (.const (.bool false)), none⟩]
def f70_r1 : List LOp := [
 ⟨some 4, .load 26 (.tmp 1), none⟩,
 ⟨some 5, .load 40 (.tmp 2), none⟩,
 ⟨some 6, .call { callee := .value (.func 46), args := #[.tmp 4, .tmp 5], argTypes := #[26, 40] }, none⟩,
 ⟨some 7, .unOp .not 4 (.tmp 6), none⟩,
 ⟨some 3, .assign (.tmp 7), none⟩]
def f70_c : LC := (.seq (.reg f70_r0 [] none) (.seq (.reg f70_r1 [] none) .ret))
theorem f70_lc : Tryz.f70.body.map lc = some f70_c.st := by kernel_rfl
theorem f70_res : Tryz.f70.results.toList = [.tmp 3] := by kernel_rfl
theorem f70_nt : Tryz.f70.ntmps = 8 := by kernel_rfl
theorem f70_nm : (Tryz.f70.name == "runtime.NumGoroutine") = false := by kernel_rfl
def f71_r0 : List LOp := [
 ⟨some 4, .assign (.const (.int .i64 0)), none⟩]
def f71_r1 : List LOp := [
 ⟨some 6, .move (.tmp 0), none⟩,
 ⟨some 7, .call { callee := .builtin .len, args := #[.tmp 6], argTypes := #[37] }, none⟩,
 ⟨some 8, .move (.const (.int .i64 0)), none⟩]
def f71_r2 : List LOp := [
 ⟨some 9, .binOp .lss 3 (.tmp 8) (.tmp 7) 3, none⟩]
def f71_r3 : List LOp := [
 ⟨some 10, .move (.tmp 8), none⟩,
 ⟨some 5, .assign (.tmp 10), none⟩]
def f71_r4 : List LOp := [
 ⟨some 11, .move (.tmp 1), none⟩,
 ⟨some 12, .move (.tmp 0), none⟩,
 ⟨some 13, .move (.tmp 5), none⟩,
 ⟨some 14, .indexAddr 37 (.tmp 12) (.tmp 13), none⟩,
 ⟨some 15, .load 26 (.tmp 14), none⟩,
 ⟨some 16, .call { callee := .value (.tmp 11), args := #[.tmp 15], argTypes := #[26] }, none⟩]
def f71_r5 : List LOp := [
 ⟨some 17, .move (.tmp 5), none⟩,
 ⟨some 4, .assign (.tmp 17), none⟩]
def f71_r6 : List LOp := [
 ⟨some 18, .binOp .add 3 (.tmp 8) (.const (.int .i64 1)) 3, none⟩,
 ⟨some 8, .move (.tmp 18), none⟩]
def f71_l7 : LC := (.seq (.reg f71_r2 [] none) (.seq (.cond (.tmp 9) .skip (.exit 0)) (.seq (.block 1 (.seq (.reg f71_r3 [] none) (.seq (.reg f71_r4 [] none) (.cond (.tmp 16) (.seq (.reg f71_r5 [] none) .ret) .skip)))) (.reg f71_r6 [] none))))
def f71_i7 (t0 t1 t7 t8 : D) : List D := [t0, t1, .any, .any, .any, .any, .any, t7, t8, .any, .any, .any, .any, .any, .any, .any, .any, .any, .any]
def f71_r8 : List LOp := [
 ⟨some 4, .assign (.const (.int .i64 (-1))), none⟩]
def f71_c : LC := (.seq (.reg f71_r0 [] none) (.seq (.seq (.reg f71_r1 [] none) (.block 0 (.loop f71_l7))) (.seq (.reg f71_r8 [] none) .ret)))
theorem f71_lc : Tryz.f71.body.map lc = some f71_c.st := by kernel_rfl
theorem f71_res : Tryz.f71.results.toList = [.tmp 4] := by kernel_rfl
theorem f71_nt : Tryz.f71.ntmps = 19 := by kernel_rfl
theorem f71_nm : (Tryz.f71.name == "runtime.NumGoroutine") = false := by kernel_rfl
def f72_r0 : List LOp := [
 ⟨some 2, .assign (.const (.slice none 0 0)), none⟩]
def f72_r1 : List LOp := [
 ⟨some 3, .move (.tmp 0), none⟩,
 ⟨some 4, .call { callee := .value (.func 92), args := #[.const (.slice none 0 0), .tmp 3], argTypes := #[22, 100] }, none⟩,
 ⟨some 2, .assign (.tmp 4), none⟩]
def f72_c : LC := (.seq (.reg f72_r0 [] none) (.seq (.reg f72_r1 [] none) .ret))
theorem f72_lc : Tryz.f72.body.map lc = some f72_c.st := by kernel_rfl
theorem f72_res : Tryz.f72.results.toList = [.tmp 2] := by kernel_rfl
theorem f72_nt : Tryz.f72.ntmps = 5 := by kernel_rfl
theorem f72_nm : (Tryz.f72.name == "runtime.NumGoroutine") = false := by kernel_rfl
def f74_r0 : List LOp := [
 ⟨some 5, .load 22 (.tmp 1), none⟩,
 ⟨some 6, .call { callee := .builtin .len, args := #[.tmp 5], argTypes := #[22] }, none⟩,
 ⟨some 7, .move (.const (.int .i64 0)), none⟩]
def f74_r1 : List LOp := [
 ⟨some 8, .binOp .lss 3 (.tmp 7) (.tmp 6) 3, none⟩]
def f74_r2 : List LOp := [
 ⟨some 9, .indexAddr 22 (.tmp 5) (.tmp 7), none⟩,
 ⟨some 10, .load 9 (.tmp 9), none⟩,
 ⟨some 4, .assign (.tmp 10), none⟩]
def f74_r3 : List LOp := [
 ⟨some 11, .move (.tmp 0), none⟩,
 ⟨some 12, .move (.tmp 4), none⟩,
 ⟨some 13, .call { callee := .value (.tmp 11), args := #[.tmp 12], argTypes := #[9] }, none⟩,
 ⟨some 14, .unOp .not 4 (.tmp 13), none⟩]
def f74_r4 : List LOp := [
 ⟨some 15, .binOp .add 3 (.tmp 7) (.const (.int .i64 1)) 3, none⟩,
 ⟨some 7, .move (.tmp 15), none⟩]
def f74_l5 : LC := (.seq (.reg f74_r1 [] none) (.seq (.cond (.tmp 8) .skip (.exit 0)) (.seq (.block 1 (.seq (.reg f74_r2 [] none) (.seq (.reg f74_r3 [] none) (.cond (.tmp 14) .ret .skip)))) (.reg f74_r4 [] none))))
def f74_i5 (t0 t5 t6 t7 : D) : List D := [t0, .any, .any, .any, .any, t5, t6, t7, .any, .any, .any, .any, .any, .any, .any, .any]
def f74_c : LC := (.seq (.reg f74_r0 [] none) (.block 0 (.loop f74_l5)))
theorem f74_lc : Tryz.f74.body.map lc = some f74_c.st := by kernel_rfl
theorem f74_res : Tryz.f74.results.toList = [] := by kernel_rfl
theorem f74_nt : Tryz.f74.ntmps = 16 := by kernel_rfl
theorem f74_nm : (Tryz.f74.name == "runtime.NumGoroutine") = false := by kernel_rfl
def f75_r0 : List LOp := [
 ⟨some 4, .assign (.const (.bool false)), none⟩]
def f75_r1 : List LOp := [
 ⟨some 5, .move (.tmp 0), none⟩,
 ⟨some 6, .move (.tmp 1), none⟩,
 ⟨some 7, .call { callee := .value (.func 95), args := #[.tmp 5, .tmp 6], argTypes := #[22, 113] }, none⟩,
 ⟨some 8, .binOp .geq 3 (.tmp 7) (.const (.int .i64 0)) 3, none⟩,
 ⟨some 4, .assign (.tmp 8), none⟩]
def f75_c : LC := (.seq (.reg f75_r0 [] none) (.seq (.reg f75_r1 [] none) .ret))
theorem f75_lc : Tryz.f75.body.map lc = some f75_c.st := by kernel_rfl
theorem f75_res : Tryz.f75.results.toList = [.tmp 4] := by kernel_rfl
theorem f75_nt : Tryz.f75.ntmps = 9 := by kernel_rfl
theorem f75_nm : (Tryz.f75.name == "runtime.NumGoroutine") = false := by kernel_rfl
def f76_r0 : List LOp := [
 ⟨some 2, .assign (.const (.bool false)), none⟩]
def f76_r1 : List LOp := [
 ⟨some 3, .move (.tmp 0), none⟩,
 ⟨some 4, .call { callee := .value (.func 77), args := #[.tmp 3], argTypes := #[9] }, none⟩,
 ⟨some 5, .unOp .not 4 (.tmp 4), none⟩,
 ⟨some 2, .assign (.tmp 5), none⟩]
def f76_c : LC := (.seq (.reg f76_r0 [] none) (.seq (.reg f76_r1 [] none) .ret))
theorem f76_lc : Tryz.f76.body.map lc = some f76_c.st := by kernel_rfl
theorem f76_res : Tryz.f76.results.toList = [.tmp 2] := by kernel_rfl
theorem f76_nt : Tryz.f76.ntmps = 6 := by kernel_rfl
theorem f76_nm : (Tryz.f76.name == "runtime.NumGoroutine") = false := by kernel_rfl
def f77_r0 : List LOp := [
 ⟨some 2, .assign (.const (.bool false)), none⟩]
def f77_r1 : List LOp := [
 ⟨some 6, .move (.tmp 0), none⟩,
 ⟨some 7, .range 9 (.tmp 6), none⟩]
def f77_r2 : List LOp := [
 ⟨some 8, .next (.tmp 7) true, none⟩,
 ⟨some 9, .extract (.tmp 8) 0, none⟩]
def f77_r3 : List LOp := [
 ⟨some 10, .extract (.tmp 8) 1, none⟩,
 ⟨some 11, .extract (.tmp 8) 2, none⟩,
 ⟨some 3, .assign (.tmp 10), none⟩,
 ⟨some 4, .assign (.tmp 11), none⟩]
def f77_r4 : List LOp := [
 ⟨some 12, .move (.tmp 4), none⟩,
 ⟨some 13, .binOp .geq 21 (.tmp 12) (.const (.int .i32 97)) 21, none⟩,
 ⟨some 14, .move (.tmp 13), none⟩,
 ⟨some 15, .move (.tmp 4), some (2, true)⟩,
 ⟨some 16, .binOp .leq 21 (.tmp 15) (.const (.int .i32 122)) 21, some (2, true)⟩,
 ⟨some 17, .pick (.tmp 14) (.tmp 16) (.const (.bool false)), none⟩,
 ⟨some 5, .assign (.tmp 17), none⟩]
def f77_r5 : List LOp := [
 ⟨some 18, .move (.tmp 5), none⟩,
 ⟨some 19, .unOp .not 4 (.tmp 18), none⟩,
 ⟨some 20, .move (.tmp 19), none⟩,
 ⟨some 21, .move (.tmp 3), some (2, true)⟩,
 ⟨some 22, .binOp .eql 3 (.tmp 21) (.const (.int .i64 0)) 3, some (2, true)⟩,
 ⟨some 23, .move (.tmp 22), some (2, true)⟩,
 ⟨some 24, .move (.tmp 4), some (5, false)⟩,
 ⟨some 25, .binOp .neq 21 (.tmp 24) (.const (.int .i32 95)) 21, some (5, false)⟩,
 ⟨some 26, .move (.tmp 25), some (5, false)⟩,
 ⟨some 27, .move (.tmp 4), some (8, true)⟩,
 ⟨some 28, .binOp .lss 21 (.tmp 27) (.const (.int .i32 48)) 21, some (8, true)⟩,
 ⟨some 29, .move (.tmp 28), some (8, true)⟩,
 ⟨some 30, .move (.tmp 4), some (11, false)⟩,
 ⟨some 31, .binOp .gtr 21 (.tmp 30) (.const (.int .i32 57)) 21, some (11, false)⟩,
 ⟨some 32, .pick (.tmp 29) (.const (.bool true)) (.tmp 31), some (8, true)⟩,
 ⟨some 33, .pick (.tmp 26) (.tmp 32) (.const (.bool false)), some (5, false)⟩,
 ⟨some 34, .pick (.tmp 23) (.const (.bool true)) (.tmp 33), some (2, true)⟩,
 ⟨some 35, .pick (.tmp 20) (.tmp 34) (.const (.bool false)), none⟩]
def f77_r6 : List LOp := [
 ⟨some 2, .assign (.const (.bool false)), none⟩]
def f77_l7 : LC := (.seq (.reg f77_r2 [] none) (.seq (.cond (.tmp 9) .skip (.exit 0)) (.block 1 (.seq (.reg f77_r3 [] none) (.seq (.reg f77_r4 [] none) (.seq (.reg f77_r5 [] none) (.cond (.tmp 35) (.seq (.reg f77_r6 [] none) .ret) .skip)))))))
def f77_i7 (t0 t7 : D) : List D := [t0, .any, .any, .any, .any, .any, .any, t7, .any, .any, .any, .any, .any, .any, .any, .any, .any, .any, .any, .any, .any, .any, .any, .any, .any, .any, .any, .any, .any, .any, .any, .any, .any, .any, .any, .any, .any, .any, .any, .any, .any, .any, .any, .any]
def f77_r8 : List LOp := [
 ⟨some 36, .move (.tmp 0), none⟩,
 ⟨some 37, .call { callee := .builtin .len, args := #[.tmp 36], argTypes := #[9] }, none⟩,
 ⟨some 38, .binOp .geq 3 (.tmp 37) (.const (.int .i64 1)) 3, none⟩,
 ⟨some 39, .move (.tmp 38), none⟩,
 ⟨some 40, .move (.tmp 0), some (3, true)⟩,
 ⟨some 41, .call { callee := .builtin .len, args := #[.tmp 40], argTypes := #[9] }, some (3, true)⟩,
 ⟨some 42, .binOp .leq 3 (.tmp 41) (.const (.int .i64 30)) 3, some (3, true)⟩,
 ⟨some 43, .pick (.tmp 39) (.tmp 42) (.const (.bool false)), none⟩,
 ⟨some 2, .assign (.tmp 43), none⟩]
def f77_c : LC := (.seq (.reg f77_r0 [] none) (.seq (.seq (.reg f77_r1 [] none) (.block 0 (.loop f77_l7))) (.seq (.reg f77_r8 [] none) .ret)))
theorem f77_lc : Tryz.f77.body.map lc = some f77_c.st := by kernel_rfl
theorem f77_res : Tryz.f77.results.toList = [.tmp 2] := by kernel_rfl
theorem f77_nt : Tryz.f77.ntmps = 44 := by kernel_rfl
theorem f77_nm : (Tryz.f77.name == "runtime.NumGoroutine") = false := by kernel_rfl
def f78_r0 : List LOp := [
 ⟨some 5, .load 9 (.tmp 1), none⟩,
 ⟨some 6, .call { callee := .builtin .len, args := #[.tmp 5], argTypes := #[9] }, none⟩,
 ⟨some 7, .binOp .gtr 3 (.tmp 6) (.const (.int .i64 0)) 3, none⟩]
def f78_r1 : List LOp := [
 ⟨some 3, .assign (.const (.string { data := #[] })), none⟩]
def f78_r2 : List LOp := [
 ⟨some 8, .load 9 (.tmp 1), none⟩,
 ⟨some 9, .call { callee := .value (.func 79), args := #[.tmp 8, .const (.int .u8 10)], argTypes := #[9, 5] }, none⟩,
 ⟨some 4, .assign (.tmp 9), none⟩]
def f78_r3 : List LOp := [
 ⟨some 10, .move (.tmp 4), none⟩,
 ⟨some 11, .binOp .geq 3 (.tmp 10) (.const (.int .i64 0)) 3, none⟩]
def f78_r4 : List LOp := [
 ⟨some 12, .load 9 (.tmp 1), none⟩,
 ⟨some 13, .move (.tmp 4), none⟩,
 ⟨some 14, .binOp .add 3 (.tmp 13) (.const (.int .i64 1)) 3, none⟩,
 ⟨some 15, .slice 9 (.tmp 12) none (some (.tmp 14)) none, none⟩,
 ⟨some 16, .load 9 (.tmp 1), none⟩,
 ⟨some 17, .move (.tmp 4), none⟩,
 ⟨some 18, .binOp .add 3 (.tmp 17) (.const (.int .i64 1)) 3, none⟩,
 ⟨some 19, .slice 9 (.tmp 16) (some (.tmp 18)) none none, none⟩,
 ⟨some 3, .assign (.tmp 15), none⟩,
 ⟨none, .store 9 (.tmp 1) (.tmp 19), none⟩]
def f78_r5 : List LOp := [
 ⟨some 20, .load 9 (.tmp 1), none⟩,
 ⟨some 3, .assign (.tmp 20), none⟩,
 ⟨none, .store 9 (.tmp 1) (.const (.string { data := #[] })), none⟩]
def f78_r6 : List LOp := [
 ⟨some 21, .move (.tmp 0), none⟩,
 ⟨some 22, .move (.tmp 3), none⟩,
 ⟨some 23, .call { callee := .value (.tmp 21), args := #[.tmp 22], argTypes := #[9] }, none⟩,
 ⟨some 24, .unOp .not 4 (.tmp 23), none⟩]
def f78_l7 : LC := (.seq (.seq (.reg f78_r0 [] none) (.cond (.tmp 7) .skip (.exit 0))) (.block 1 (.seq (.reg f78_r1 [] none) (.seq (.seq (.reg f78_r2 [] none) (.seq (.reg f78_r3 [] none) (.cond (.tmp 11) (.regp f78_r4 [] [1, 2, 5, 6] 9) (.reg f78_r5 [] none)))) (.seq (.reg f78_r6 [] none) (.cond (.tmp 24) .ret .skip))))))
def f78_i7 (t0 t1 : D) : List D := [t0, t1, .any, .any, .any, .any, .any, .any, .any, .any, .any, .any, .any, .any, .any, .any, .any, .any, .any, .any, .any, .any, .any, .any, .any]
def f78_c : LC := (.block 0 (.loop f78_l7))
theorem f78_lc : Tryz.f78.body.map lc = some f78_c.st := by kernel_rfl
theorem f78_res : Tryz.f78.results.toList = [] := by kernel_rfl
theorem f78_nt : Tryz.f78.ntmps = 25 := by kernel_rfl
theorem f78_nm : (Tryz.f78.name == "runtime.NumGoroutine") = false := by kernel_rfl
def f79_r0 : List LOp := [
 ⟨some 4, .assign (.const (.int .i64 0)), none⟩]
def f79_r1 : List LOp := [
 ⟨some 5, .move (.tmp 0), none⟩,
 ⟨some 6, .move (.tmp 1), none⟩,
 ⟨some 7, .call { callee := .value (.func 96), args := #[.tmp 5, .tmp 6], argTypes := #[9, 5] }, none⟩,
 ⟨some 4, .assign (.tmp 7), none⟩]
def f79_c : LC := (.seq (.reg f79_r0 [] none) (.seq (.reg f79_r1 [] none) .ret))
theorem f79_lc : Tryz.f79.body.map lc = some f79_c.st := by kernel_rfl
theorem f79_res : Tryz.f79.results.toList = [.tmp 4] := by kernel_rfl
theorem f79_nt : Tryz.f79.ntmps = 8 := by kernel_rfl
theorem f79_nm : (Tryz.f79.name == "runtime.NumGoroutine") = false := by kernel_rfl
def f80_r0 : List LOp := [
 ⟨some 4, .assign (.const (.string { data := #[] })), none⟩,
 ⟨some 5, .assign (.const (.bool false)), none⟩]
def f80_r1 : List LOp := [
 ⟨some 6, .move (.tmp 0), none⟩,
 ⟨some 7, .move (.tmp 1), none⟩,
 ⟨some 8, .call { callee := .value (.func 97), args := #[.tmp 6, .tmp 7], argTypes := #[9, 9] }, none⟩,
 ⟨some 9, .unOp .not 4 (.tmp 8), none⟩]
def f80_r2 : List LOp := [
 ⟨some 10, .move (.tmp 0), none⟩,
 ⟨some 4, .assign (.tmp 10), none⟩,
 ⟨some 5, .assign (.const (.bool false)), none⟩]
def f80_r3 : List LOp := [
 ⟨some 11, .move (.tmp 0), none⟩,
 ⟨some 12, .move (.tmp 0), none⟩,
 ⟨some 13, .call { callee := .builtin .len, args := #[.tmp 12], argTypes := #[9] }, none⟩,
 ⟨some 14, .move (.tmp 1), none⟩,
 ⟨some 15, .call { callee := .builtin .len, args := #[.tmp 14], argTypes := #[9] }, none⟩,
 ⟨some 16, .binOp .sub 3 (.tmp 13) (.tmp 15) 3, none⟩,
 ⟨some 17, .slice 9 (.tmp 11) none (some (.tmp 16)) none, none⟩,
 ⟨some 4, .assign (.tmp 17), none⟩,
 ⟨some 5, .assign (.const (.bool true)), none⟩]
def f80_c : LC := (.seq (.reg f80_r0 [] none) (.seq (.seq (.reg f80_r1 [] none) (.cond (.tmp 9) (.seq (.reg f80_r2 [] none) .ret) .skip)) (.seq (.reg f80_r3 [] none) .ret)))
theorem f80_lc : Tryz.f80.body.map lc = some f80_c.st := by kernel_rfl
theorem f80_res : Tryz.f80.results.toList = [.tmp 4, .tmp 5] := by kernel_rfl
theorem f80_nt : Tryz.f80.ntmps = 18 := by kernel_rfl
theorem f80_nm : (Tryz.f80.name == "runtime.NumGoroutine") = false := by kernel_rfl
def f82_r0 : List LOp := [
 ⟨some 4, .assign (.const (.int .i64 0)), none⟩]
def f82_r1 : List LOp := [
 ⟨some 6, .move (.tmp 0), none⟩,
 ⟨some 7, .call { callee := .builtin .len, args := #[.tmp 6], argTypes := #[22] }, none⟩,
 ⟨some 8, .move (.const (.int .i64 0)), none⟩]
def f82_r2 : List LOp := [
 ⟨some 9, .binOp .lss 3 (.tmp 8) (.tmp 7) 3, none⟩]
def f82_r3 : List LOp := [
 ⟨some 10, .move (.tmp 8), none⟩,
 ⟨some 5, .assign (.tmp 10), none⟩]
def f82_r4 : List LOp := [
 ⟨some 11, .move (.tmp 1), none⟩,
 ⟨some 12, .move (.tmp 0), none⟩,
 ⟨some 13, .move (.tmp 5), none⟩,
 ⟨some 14, .indexAddr 22 (.tmp 12) (.tmp 13), none⟩,
 ⟨some 15, .load 9 (.tmp 14), none⟩,
 ⟨some 16, .binOp .eql 9 (.tmp 11) (.tmp 15) 9, none⟩]
def f82_r5 : List LOp := [
 ⟨some 17, .move (.tmp 5), none⟩,
 ⟨some 4, .assign (.tmp 17), none⟩]
def f82_r6 : List LOp := [
 ⟨some 18, .binOp .add 3 (.tmp 8) (.const (.int .i64 1)) 3, none⟩,
 ⟨some 8, .move (.tmp 18), none⟩]
def f82_l7 : LC := (.seq (.reg f82_r2 [] none) (.seq (.cond (.tmp 9) .skip (.exit 0)) (.seq (.block 1 (.seq (.reg f82_r3 [] none) (.seq (.reg f82_r4 [] none) (.cond (.tmp 16) (.seq (.reg f82_r5 [] none) .ret) .skip)))) (.reg f82_r6 [] none))))
def f82_i7 (t0 t1 t7 t8 : D) : List D := [t0, t1, .any, .any, .any, .any, .any, t7, t8, .any, .any, .any, .any, .any, .any, .any, .any, .any, .any]
def f82_r8 : List LOp := [
 ⟨some 4, .assign (.const (.int .i64 (-1))), none⟩]
def f82_c : LC := (.seq (.reg f82_r0 [] none) (.seq (.seq (.reg f82_r1 [] none) (.block 0 (.loop f82_l7))) (.seq (.reg f82_r8 [] none) .ret)))
theorem f82_lc : Tryz.f82.body.map lc = some f82_c.st := by kernel_rfl
theorem f82_res : Tryz.f82.results.toList = [.tmp 4] := by kernel_rfl
theorem f82_nt : Tryz.f82.ntmps = 19 := by kernel_rfl
theorem f82_nm : (Tryz.f82.name == "runtime.NumGoroutine") = false := by kernel_rfl
def f83_r0 : List LOp := [
 ⟨some 2, .alloc 40, none⟩]
def f83_r1 : List LOp := [
 ⟨some 4, .move (.tmp 0), none⟩,
 ⟨some 5, .call { callee := .value (.func 99), args := #[.tmp 4], argTypes := #[61] }, none⟩,
 ⟨some 6, .buildSlice 38 1 #[(0, .tmp 5)], none⟩,
 ⟨some 3, .assign (.tmp 6), none⟩]
def f83_r2 : List LOp := [
 ⟨some 7, .move (.tmp 0), none⟩,
 ⟨some 8, .call { callee := .value (.func 84), args := #[.tmp 7, .const (.int .u8 91)], argTypes := #[61, 5] }, none⟩,
 ⟨some 9, .move (.tmp 8), none⟩,
 ⟨some 10, .move (.tmp 0), some (2, false)⟩,
 ⟨some 11, .call { callee := .value (.func 84), args := #[.tmp 10, .const (.int .u8 40)], argTypes := #[61, 5] }, some (2, false)⟩,
 ⟨some 12, .pick (.tmp 9) (.const (.bool true)) (.tmp 11), none⟩,
 ⟨some 13, .move (.tmp 12), none⟩,
 ⟨some 14, .move (.tmp 0), some (6, false)⟩,
 ⟨some 15, .call { callee := .value (.func 100), args := #[.tmp 14], argTypes := #[61] }, some (6, false)⟩,
 ⟨some 16, .pick (.tmp 13) (.const (.bool true)) (.tmp 15), none⟩]
def f83_r3 : List LOp := [
 ⟨some 17, .move (.tmp 3), none⟩,
 ⟨some 18, .move (.tmp 0), none⟩,
 ⟨some 19, .call { callee := .value (.func 99), args := #[.tmp 18], argTypes := #[61] }, none⟩,
 ⟨some 20, .buildSlice 38 1 #[(0, .tmp 19)], none⟩,
 ⟨some 21, .call { callee := .builtin .append, args := #[.tmp 17, .tmp 20], argTypes := #[38, 38] }, none⟩,
 ⟨some 3, .assign (.tmp 21), none⟩]
def f83_l4 : LC := (.seq (.seq (.reg f83_r2 [] none) (.cond (.tmp 16) .skip (.exit 0))) (.block 1 (.reg f83_r3 [] none)))
def f83_i4 (t0 t2 t3 : D) : List D := [t0, .any, t2, t3, .any, .any, .any, .any, .any, .any, .any, .any, .any, .any, .any, .any, .any, .any, .any, .any, .any, .any, .any, .any]
def f83_r5 : List LOp := [
 ⟨some 22, .move (.tmp 3), none⟩,
 ⟨some 23, .call { callee := .value (.func 85), args := #[.const (.int .u8 4), .tmp 22], argTypes := #[5, 38] }, none⟩,
 ⟨none, .store 40 (.tmp 2) (.tmp 23), none⟩]
def f83_c : LC := (.seq (.reg f83_r0 [] none) (.seq (.reg f83_r1 [2] none) (.seq (.block 0 (.loop f83_l4)) (.seq (.reg f83_r5 [] none) .ret))))
theorem f83_lc : Tryz.f83.body.map lc = some f83_c.st := by kernel_rfl
theorem f83_res : Tryz.f83.results.toList = [.cell 2 40] := by kernel_rfl
theorem f83_nt : Tryz.f83.ntmps = 24 := by kernel_rfl
theorem f83_nm : (Tryz.f83.name == "runtime.NumGoroutine") = false := by kernel_rfl
def f84_r0 : List LOp := [
 ⟨some 4, .assign (.const (.bool false)), none⟩]
def f84_r1 : List LOp := [
 ⟨some 5, .move (.tmp 0), none⟩,
 ⟨some 6, .call { callee := .value (.func 61), args := #[.tmp 5], argTypes := #[61] }, none⟩]
def f84_r2 : List LOp := [
 ⟨some 7, .move (.tmp 0), none⟩,
 ⟨some 8, .nilCheck (.tmp 7), none⟩,
 ⟨some 9, .fieldAddr 63 (.tmp 8) 1, none⟩,
 ⟨some 10, .load 3 (.tmp 9), none⟩,
 ⟨some 11, .move (.tmp 0), none⟩,
 ⟨some 12, .nilCheck (.tmp 11), none⟩,
 ⟨some 13, .fieldAddr 63 (.tmp 12) 0, none⟩,
 ⟨some 14, .load 9 (.tmp 13), none⟩,
 ⟨some 15, .call { callee := .builtin .len, args := #[.tmp 14], argTypes := #[9] }, none⟩,
 ⟨some 16, .binOp .lss 3 (.tmp 10) (.tmp 15) 3, none⟩,
 ⟨some 17, .move (.tmp 16), none⟩,
 ⟨some 18, .move (.tmp 0), some (10, true)⟩,
 ⟨some 19, .nilCheck (.tmp 18), some (10, true)⟩,
 ⟨some 20, .fieldAddr 63 (.tmp 19) 0, some (10, true)⟩,
 ⟨some 21, .load 9 (.tmp 20), some (10, true)⟩,
 ⟨some 22, .move (.tmp 0), some (10, true)⟩,
 ⟨some 23, .nilCheck (.tmp 22), some (10, true)⟩,
 ⟨some 24, .fieldAddr 63 (.tmp 23) 1, some (10, true)⟩,
 ⟨some 25, .load 3 (.tmp 24), some (10, true)⟩,
 ⟨some 26, .index 9 (.tmp 21) (.tmp 25), some (10, true)⟩,
 ⟨some 27, .move (.tmp 1), some (10, true)⟩,
 ⟨some 28, .binOp .eql 5 (.tmp 26) (.tmp 27) 5, some (10, true)⟩,
 ⟨some 29, .pick (.tmp 17) (.tmp 28) (.const (.bool false)), none⟩,
 ⟨some 4, .assign (.tmp 29), none⟩]
def f84_c : LC := (.seq (.reg f84_r0 [] none) (.seq (.reg f84_r1 [] none) (.seq (.reg f84_r2 [] (some 23)) .ret)))
theorem f84_lc : Tryz.f84.body.map lc = some f84_c.st := by kernel_rfl
theorem f84_res : Tryz.f84.results.toList = [.tmp 4] := by kernel_rfl
theorem f84_nt : Tryz.f84.ntmps = 30 := by kernel_rfl
theorem f84_nm : (Tryz.f84.name == "runtime.NumGoroutine") = false := by kernel_rfl
def f85_r0 : List LOp := [
 ⟨some 2, .box 5 (.tmp 0), none⟩,
 ⟨some 4, .alloc 40, none⟩]
def f85_r1 : List LOp := [
 ⟨some 8, .move (.tmp 1), none⟩,
 ⟨some 9, .move (.tmp 1), none⟩,
 ⟨some 10, .call { callee := .builtin .len, args := #[.tmp 9], argTypes := #[38] }, none⟩,
 ⟨some 11, .binOp .sub 3 (.tmp 10) (.const (.int .i64 1)) 3, none⟩,
 ⟨some 12, .indexAddr 38 (.tmp 8) (.tmp 11), none⟩,
 ⟨some 13, .load 40 (.tmp 12), none⟩,
 ⟨some 5, .alloc 40, none⟩,
 ⟨none, .store 40 (.tmp 5) (.tmp 13), none⟩]
def f85_r2 : List LOp := [
 ⟨some 14, .move (.tmp 1), none⟩,
 ⟨some 15, .move (.tmp 1), none⟩,
 ⟨some 16, .call { callee := .builtin .len, args := #[.tmp 15], argTypes := #[38] }, none⟩,
 ⟨some 17, .binOp .sub 3 (.tmp 16) (.const (.int .i64 1)) 3, none⟩,
 ⟨some 18, .slice 38 (.tmp 14) none (some (.tmp 17)) none, none⟩,
 ⟨some 19, .call { callee := .value (.func 101), args := #[.tmp 18], argTypes := #[38] }, none⟩]
def f85_r3 : List LOp := [
 ⟨some 7, .alloc 40, none⟩,
 ⟨none, .store 40 (.tmp 7) (.tmp 21), none⟩]
def f85_r4 : List LOp := [
 ⟨some 22, .load 5 (.tmp 2), none⟩,
 ⟨some 23, .load 40 (.tmp 7), none⟩,
 ⟨some 24, .load 40 (.tmp 5), none⟩,
 ⟨some 25, .buildSlice 38 2 #[(0, .tmp 23), (1, .tmp 24)], none⟩,
 ⟨some 26, .build 40 #[(0, .tmp 22), (2, .tmp 25)], none⟩,
 ⟨none, .store 40 (.tmp 5) (.tmp 26), none⟩]
def f85_a5 : LC := (.reg f85_r3 [] none)
def f85_b5 : LC := (.block 1 (.reg f85_r4 [] none))
def f85_r6 : List LOp := [
 ⟨some 27, .load 40 (.tmp 5), none⟩,
 ⟨none, .store 40 (.tmp 4) (.tmp 27), none⟩]
def f85_c : LC := (.seq (.reg f85_r0 [] none) (.seq (.reg f85_r1 [] none) (.seq (.seq (.reg f85_r2 [] none) (.block 0 (.rfun (.tmp 19) [20, 21] f85_a5 f85_b5))) (.seq (.reg f85_r6 [] none) .ret))))
theorem f85_lc : Tryz.f85.body.map lc = some f85_c.st := by kernel_rfl
theorem f85_res : Tryz.f85.results.toList = [.cell 4 40] := by kernel_rfl
theorem f85_nt : Tryz.f85.ntmps = 28 := by kernel_rfl
theorem f85_nm : (Tryz.f85.name == "runtime.NumGoroutine") = false := by kernel_rfl
def f87_r0 : List LOp := [
 ⟨some 8, .alloc 72, none⟩]
def f87_r1 : List LOp := [
 ⟨some 11, .buildSlice 38 0 #[], none⟩,
 ⟨some 9, .assign (.tmp 11), none⟩]
def f87_r2 : List LOp := [
 ⟨some 12, .move (.tmp 9), none⟩,
 ⟨some 13, .call { callee := .builtin .len, args := #[.tmp 12], argTypes := #[38] }, none⟩,
 ⟨some 14, .binOp .eql 3 (.tmp 13) (.const (.int .i64 0)) 3, none⟩,
 ⟨some 15, .move (.tmp 14), none⟩,
 ⟨some 16, .move (.tmp 0), some (3, false)⟩,
 ⟨some 17, .move (.tmp 1), some (3, false)⟩,
 ⟨some 18, .call { callee := .value (.func 88), args := #[.tmp 16, .tmp 17, .const (.int .u8 91)], argTypes := #[9, 3, 5] }, some (3, false)⟩,
 ⟨some 19, .pick (.tmp 15) (.const (.bool true)) (.tmp 18), none⟩,
 ⟨some 20, .move (.tmp 19), none⟩,
 ⟨some 21, .move (.tmp 0), some (8, false)⟩,
 ⟨some 22, .move (.tmp 1), some (8, false)⟩,
 ⟨some 23, .call { callee := .value (.func 88), args := #[.tmp 21, .tmp 22, .const (.int .u8 40)], argTypes := #[9, 3, 5] }, some (8, false)⟩,
 ⟨some 24, .pick (.tmp 20) (.const (.bool true)) (.tmp 23), none⟩,
 ⟨some 25, .move (.tmp 24), none⟩,
 ⟨some 26, .move (.tmp 0), some (13, false)⟩,
 ⟨some 27, .move (.tmp 1), some (13, false)⟩,
 ⟨some 28, .call { callee := .value (.func 102), args := #[.tmp 26, .tmp 27], argTypes := #[9, 3] }, some (13, false)⟩,
 ⟨some 29, .pick (.tmp 25) (.const (.bool true)) (.tmp 28), none⟩]
def f87_r3 : List LOp := [
 ⟨some 30, .move (.tmp 0), none⟩,
 ⟨some 31, .move (.tmp 1), none⟩,
 ⟨some 32, .move (.tmp 2), none⟩,
 ⟨some 33, .move (.tmp 3), none⟩,
 ⟨some 34, .call { callee := .value (.func 103), args := #[.tmp 30, .tmp 31, .tmp 32, .tmp 33], argTypes := #[9, 3, 22, 22] }, none⟩,
 ⟨some 10, .alloc 72, none⟩,
 ⟨none, .store 72 (.tmp 10) (.tmp 34), none⟩]
def f87_r4 : List LOp := [
 ⟨some 35, .fieldAddr 72 (.tmp 10) 2, none⟩,
 ⟨some 36, .load 3 (.tmp 35), none⟩,
 ⟨some 37, .binOp .neq 3 (.tmp 36) (.const (.int .i64 0)) 3, none⟩]
def f87_r5 : List LOp := [
 ⟨some 38, .load 72 (.tmp 10), none⟩,
 ⟨none, .store 72 (.tmp 8) (.tmp 38), none⟩]
def f87_r6 : List LOp := [
 ⟨some 39, .move (.tmp 9), none⟩,
 ⟨some 40, .fieldAddr 72 (.tmp 10) 0, none⟩,
 ⟨some 41, .load 40 (.tmp 40), none⟩,
 ⟨some 42, .buildSlice 38 1 #[(0, .tmp 41)], none⟩,
 ⟨some 43, .call { callee := .builtin .append, args := #[.tmp 39, .tmp 42], argTypes := #[38, 38] }, none⟩,
 ⟨some 9, .assign (.tmp 43), none⟩]
def f87_r7 : List LOp := [
 ⟨some 44, .fieldAddr 72 (.tmp 10) 1, none⟩,
 ⟨some 45, .load 3 (.tmp 44), none⟩,
 ⟨some 1, .assign (.tmp 45), none⟩]
def f87_l8 : LC := (.seq (.seq (.reg f87_r2 [] none) (.cond (.tmp 29) .skip (.exit 0))) (.block 1 (.seq (.reg f87_r3 [] none) (.seq (.seq (.reg f87_r4 [] none) (.cond (.tmp 37) (.seq (.reg f87_r5 [] none) .ret) .skip)) (.seq (.reg f87_r6 [] none) (.reg f87_r7 [] none))))))
def f87_i8 (t0 t1 t2 t3 t8 t9 : D) : List D := [t0, t1, t2, t3, .any, .any, .any, .any, t8, t9, .any, .any, .any, .any, .any, .any, .any, .any, .any, .any, .any, .any, .any, .any, .any, .any, .any, .any, .any, .any, .any, .any, .any, .any, .any, .any, .any, .any, .any, .any, .any, .any, .any, .any, .any, .any, .any, .any, .any, .any]
def f87_r9 : List LOp := [
 ⟨some 46, .move (.tmp 9), none⟩,
 ⟨some 47, .call { callee := .value (.func 89), args := #[.const (.int .u8 4), .tmp 46], argTypes := #[5, 38] }, none⟩,
 ⟨some 48, .move (.tmp 1), none⟩,
 ⟨some 49, .build 72 #[(0, .tmp 47), (1, .tmp 48)], none⟩,
 ⟨none, .store 72 (.tmp 8) (.tmp 49), none⟩]
def f87_c : LC := (.seq (.reg f87_r0 [] none) (.seq (.reg f87_r1 [0] none) (.seq (.block 0 (.loop f87_l8)) (.seq (.reg f87_r9 [] none) .ret))))
theorem f87_lc : Tryz.f87.body.map lc = some f87_c.st := by kernel_rfl
theorem f87_res : Tryz.f87.results.toList = [.cell 8 72] := by kernel_rfl
theorem f87_nt : Tryz.f87.ntmps = 50 := by kernel_rfl
theorem f87_nm : (Tryz.f87.name == "runtime.NumGoroutine") = false := by kernel_rfl
def f88_r0 : List LOp := [
 ⟨some 6, .assign (.const (.bool false)), none⟩]
def f88_r1 : List LOp := [
 ⟨some 7, .move (.tmp 0), none⟩,
 ⟨some 8, .move (.tmp 1), none⟩,
 ⟨some 9, .call { callee := .value (.func 66), args := #[.tmp 7, .tmp 8], argTypes := #[9, 3] }, none⟩,
 ⟨some 1, .assign (.tmp 9), none⟩]
def f88_r2 : List LOp := [
 ⟨some 10, .move (.tmp 1), none⟩,
 ⟨some 11, .move (.tmp 0), none⟩,
 ⟨some 12, .call { callee := .builtin .len, args := #[.tmp 11], argTypes := #[9] }, none⟩,
 ⟨some 13, .binOp .lss 3 (.tmp 10) (.tmp 12) 3, none⟩,
 ⟨some 14, .move (.tmp 13), none⟩,
 ⟨some 15, .move (.tmp 0), some (4, true)⟩,
 ⟨some 16, .move (.tmp 1), some (4, true)⟩,
 ⟨some 17, .index 9 (.tmp 15) (.tmp 16), some (4, true)⟩,
 ⟨some 18, .move (.tmp 2), some (4, true)⟩,
 ⟨some 19, .binOp .eql 5 (.tmp 17) (.tmp 18) 5, some (4, true)⟩,
 ⟨some 20, .pick (.tmp 14) (.tmp 19) (.const (.bool false)), none⟩,
 ⟨some 6, .assign (.tmp 20), none⟩]
def f88_c : LC := (.seq (.reg f88_r0 [] none) (.seq (.reg f88_r1 [] none) (.seq (.reg f88_r2 [] none) .ret)))
theorem f88_lc : Tryz.f88.body.map lc = some f88_c.st := by kernel_rfl
theorem f88_res : Tryz.f88.results.toList = [.tmp 6] := by kernel_rfl
theorem f88_nt : Tryz.f88.ntmps = 21 := by kernel_rfl
theorem f88_nm : (Tryz.f88.name == "runtime.NumGoroutine") = false := by kernel_rfl
def f89_r0 : List LOp := [
 ⟨some 4, .alloc 40, none⟩]
def f89_r1 : List LOp := [
 ⟨some 5, .move (.tmp 1), none⟩,
 ⟨some 6, .call { callee := .builtin .len, args := #[.tmp 5], argTypes := #[38] }, none⟩,
 ⟨some 7, .binOp .eql 3 (.tmp 6) (.const (.int .i64 1)) 3, none⟩]
def f89_r2 : List LOp := [
 ⟨some 8, .move (.tmp 1), none⟩,
 ⟨some 9, .indexAddr 38 (.tmp 8) (.const (.int .i64 0)), none⟩,
 ⟨some 10, .load 40 (.tmp 9), none⟩,
 ⟨none, .store 40 (.tmp 4) (.tmp 10), none⟩]
def f89_r3 : List LOp := [
 ⟨some 11, .move (.tmp 0), none⟩,
 ⟨some 12, .move (.tmp 1), none⟩,
 ⟨some 13, .indexAddr 38 (.tmp 12) (.const (.int .i64 0)), none⟩,
 ⟨some 14, .load 40 (.tmp 13), none⟩,
 ⟨some 15, .move (.tmp 0), none⟩,
 ⟨some 16, .move (.tmp 1), none⟩,
 ⟨some 17, .slice 38 (.tmp 16) (some (.const (.int .i64 1))) none none, none⟩,
 ⟨some 18, .call { callee := .value (.func 89), args := #[.tmp 15, .tmp 17], argTypes := #[5, 38] }, none⟩,
 ⟨some 19, .buildSlice 38 2 #[(0, .tmp 14), (1, .tmp 18)], none⟩,
 ⟨some 20, .build 40 #[(0, .tmp 11), (2, .tmp 19)], none⟩,
 ⟨none, .store 40 (.tmp 4) (.tmp 20), none⟩]
def f89_c : LC := (.seq (.reg f89_r0 [] none) (.seq (.seq (.reg f89_r1 [] none) (.cond (.tmp 7) (.seq (.reg f89_r2 [] none) .ret) .skip)) (.seq (.reg f89_r3 [] (some 9)) .ret)))
theorem f89_lc : Tryz.f89.body.map lc = some f89_c.st := by kernel_rfl
theorem f89_res : Tryz.f89.results.toList = [.cell 4 40] := by kernel_rfl
theorem f89_nt : Tryz.f89.ntmps = 21 := by kernel_rfl
theorem f89_nm : (Tryz.f89.name == "runtime.NumGoroutine") = false := by kernel_rfl
def f91_r0 : List LOp := [
 ⟨some 4, .assign (.const (.int .i64 0)), none⟩]
def f91_r1 : List LOp := [
 ⟨some 6, .move (.tmp 0), none⟩,
 ⟨some 7, .call { callee := .builtin .len, args := #[.tmp 6], argTypes := #[80] }, none⟩,
 ⟨some 8, .move (.const (.int .i64 0)), none⟩]
def f91_r2 : List LOp := [
 ⟨some 9, .binOp .lss 3 (.tmp 8) (.tmp 7) 3, none⟩]
def f91_r3 : List LOp := [
 ⟨some 10, .move (.tmp 8), none⟩,
 ⟨some 5, .assign (.tmp 10), none⟩]
def f91_r4 : List LOp := [
 ⟨some 11, .move (.tmp 1), none⟩,
 ⟨some 12, .move (.tmp 0), none⟩,
 ⟨some 13, .move (.tmp 5), none⟩,
 ⟨some 14, .indexAddr 80 (.tmp 12) (.tmp 13), none⟩,
 ⟨some 15, .load 5 (.tmp 14), none⟩,
 ⟨some 16, .binOp .eql 5 (.tmp 11) (.tmp 15) 5, none⟩]
def f91_r5 : List LOp := [
 ⟨some 17, .move (.tmp 5), none⟩,
 ⟨some 4, .assign (.tmp 17), none⟩]
def f91_r6 : List LOp := [
 ⟨some 18, .binOp .add 3 (.tmp 8) (.const (.int .i64 1)) 3, none⟩,
 ⟨some 8, .move (.tmp 18), none⟩]
def f91_l7 : LC := (.seq (.reg f91_r2 [] none) (.seq (.cond (.tmp 9) .skip (.exit 0)) (.seq (.block 1 (.seq (.reg f91_r3 [] none) (.seq (.reg f91_r4 [] none) (.cond (.tmp 16) (.seq (.reg f91_r5 [] none) .ret) .skip)))) (.reg f91_r6 [] none))))
def f91_i7 (t0 t1 t7 t8 : D) : List D := [t0, t1, .any, .any, .any, .any, .any, t7, t8, .any, .any, .any, .any, .any, .any, .any, .any, .any, .any]
def f91_r8 : List LOp := [
 ⟨some 4, .assign (.const (.int .i64 (-1))), none⟩]
def f91_c : LC := (.seq (.reg f91_r0 [] none) (.seq (.seq (.reg f91_r1 [] none) (.block 0 (.loop f91_l7))) (.seq (.reg f91_r8 [] none) .ret)))
theorem f91_lc : Tryz.f91.body.map lc = some f91_c.st := by kernel_rfl
theorem f91_res : Tryz.f91.results.toList = [.tmp 4] := by kernel_rfl
theorem f91_nt : Tryz.f91.ntmps = 19 := by kernel_rfl
theorem f91_nm : (Tryz.f91.name == "runtime.NumGoroutine") = false := by kernel_rfl
def f92_r0 : List LOp := [
 ⟨some 2, .box 22 (.tmp 0), none⟩,
 ⟨some 4, .assign (.const (.slice none 0 0)), none⟩]
def f92_r1 : List LOp := [
 ⟨some 6, .move (.tmp 1), none⟩]
def f92_r2 : List LOp := [
 ⟨some 5, .assign (.tmp 7), none⟩]
def f92_r3 : List LOp := [
 ⟨some 8, .load 22 (.tmp 2), none⟩,
 ⟨some 9, .move (.tmp 5), none⟩,
 ⟨some 10, .buildSlice 22 1 #[(0, .tmp 9)], none⟩,
 ⟨some 11, .call { callee := .builtin .append, args := #[.tmp 8, .tmp 10], argTypes := #[22, 22] }, none⟩,
 ⟨none, .store 22 (.tmp 2) (.tmp 11), none⟩]
def f92_a4 : LC := (.reg f92_r2 [] none)
def f92_b4 : LC := (.block 1 (.reg f92_r3 [] none))
def f92_r5 : List LOp := [
 ⟨some 12, .load 22 (.tmp 2), none⟩,
 ⟨some 4, .assign (.tmp 12), none⟩]
def f92_c : LC := (.seq (.reg f92_r0 [0] none) (.seq (.seq (.reg f92_r1 [] none) (.block 0 (.rfun (.tmp 6) [7] f92_a4 f92_b4))) (.seq (.reg f92_r5 [] none) .ret)))
theorem f92_lc : Tryz.f92.body.map lc = some f92_c.st := by kernel_rfl
theorem f92_res : Tryz.f92.results.toList = [.tmp 4] := by kernel_rfl
theorem f92_nt : Tryz.f92.ntmps = 13 := by kernel_rfl
theorem f92_nm : (Tryz.f92.name == "runtime.NumGoroutine") = false := by kernel_rfl
def f95_r0 : List LOp := [
 ⟨some 4, .assign (.const (.int .i64 0)), none⟩]
def f95_r1 : List LOp := [
 ⟨some 6, .move (.tmp 0), none⟩,
 ⟨some 7, .call { callee := .builtin .len, args := #[.tmp 6], argTypes := #[22] }, none⟩,
 ⟨some 8, .move (.const (.int .i64 0)), none⟩]
def f95_r2 : List LOp := [
 ⟨some 9, .binOp .lss 3 (.tmp 8) (.tmp 7) 3, none⟩]
def f95_r3 : List LOp := [
 ⟨some 10, .move (.tmp 8), none⟩,
 ⟨some 5, .assign (.tmp 10), none⟩]
def f95_r4 : List LOp := [
 ⟨some 11, .move (.tmp 1), none⟩,
 ⟨some 12, .move (.tmp 0), none⟩,
 ⟨some 13, .move (.tmp 5), none⟩,
 ⟨some 14, .indexAddr 22 (.tmp 12) (.tmp 13), none⟩,
 ⟨some 15, .load 9 (.tmp 14), none⟩,
 ⟨some 16, .call { callee := .value (.tmp 11), args := #[.tmp 15], argTypes := #[9] }, none⟩]
def f95_r5 : List LOp := [
 ⟨some 17, .move (.tmp 5), none⟩,
 ⟨some 4, .assign (.tmp 17), none⟩]
def f95_r6 : List LOp := [
 ⟨some 18, .binOp .add 3 (.tmp 8) (.const (.int .i64 1)) 3, none⟩,
 ⟨some 8, .move (.tmp 18), none⟩]
def f95_l7 : LC := (.seq (.reg f95_r2 [] none) (.seq (.cond (.tmp 9) .skip (.exit 0)) (.seq (.block 1 (.seq (.reg f95_r3 [] none) (.seq (.reg f95_r4 [] none) (.cond (.tmp 16) (.seq (.reg f95_r5 [] none) .ret) .skip)))) (.reg f95_r6 [] none))))
def f95_i7 (t0 t1 t7 t8 : D) : List D := [t0, t1, .any, .any, .any, .any, .any, t7, t8, .any, .any, .any, .any, .any, .any, .any, .any, .any, .any]
def f95_r8 : List LOp := [
 ⟨some 4, .assign (.const (.int .i64 (-1))), none⟩]
def f95_c : LC := (.seq (.reg f95_r0 [] none) (.seq (.seq (.reg f95_r1 [] none) (.block 0 (.loop f95_l7))) (.seq (.reg f95_r8 [] none) .ret)))
theorem f95_lc : Tryz.f95.body.map lc = some f95_c.st := by kernel_rfl
theorem f95_res : Tryz.f95.results.toList = [.tmp 4] := by kernel_rfl
theorem f95_nt : Tryz.f95.ntmps = 19 := by kernel_rfl
theorem f95_nm : (Tryz.f95.name == "runtime.NumGoroutine") = false := by kernel_rfl
def f97_r0 : List LOp := [
 ⟨some 4, .assign (.const (.bool false)), none⟩]
def f97_r1 : List LOp := [
 ⟨some 5, .move (.tmp 0), none⟩,
 ⟨some 6, .call { callee := .builtin .len, args := #[.tmp 5], argTypes := #[9] }, none⟩,
 ⟨some 7, .move (.tmp 1), none⟩,
 ⟨some 8, .call { callee := .builtin .len, args := #[.tmp 7], argTypes := #[9] }, none⟩,
 ⟨some 9, .binOp .geq 3 (.tmp 6) (.tmp 8) 3, none⟩,
 ⟨some 10, .move (.tmp 9), none⟩,
 ⟨some 11, .move (.tmp 0), some (5, true)⟩,
 ⟨some 12, .move (.tmp 0), some (5, true)⟩,
 ⟨some 13, .call { callee := .builtin .len, args := #[.tmp 12], argTypes := #[9] }, some (5, true)⟩,
 ⟨some 14, .move (.tmp 1), some (5, true)⟩,
 ⟨some 15, .call { callee := .builtin .len, args := #[.tmp 14], argTypes := #[9] }, some (5, true)⟩,
 ⟨some 16, .binOp .sub 3 (.tmp 13) (.tmp 15) 3, some (5, true)⟩,
 ⟨some 17, .slice 9 (.tmp 11) (some (.tmp 16)) none none, some (5, true)⟩,
 ⟨some 18, .move (.tmp 1), some (5, true)⟩,
 ⟨some 19, .binOp .eql 9 (.tmp 17) (.tmp 18) 9, some (5, true)⟩,
 ⟨some 20, .pick (.tmp 10) (.tmp 19) (.const (.bool false)), none⟩,
 ⟨some 4, .assign (.tmp 20), none⟩]
def f97_c : LC := (.seq (.reg f97_r0 [] none) (.seq (.reg f97_r1 [] none) .ret))
theorem f97_lc : Tryz.f97.body.map lc = some f97_c.st := by kernel_rfl
theorem f97_res : Tryz.f97.results.toList = [.tmp 4] := by kernel_rfl
theorem f97_nt : Tryz.f97.ntmps = 21 := by kernel_rfl
theorem f97_nm : (Tryz.f97.name == "runtime.NumGoroutine") = false := by kernel_rfl
def f99_r0 : List LOp := [
 ⟨some 2, .alloc 40, none⟩]
def f99_r1 : List LOp := [
 ⟨some 5, .move (.tmp 0), none⟩,
 ⟨some 6, .call { callee := .value (.func 84), args := #[.tmp 5, .const (.int .u8 91)], argTypes := #[61, 5] }, none⟩,
 ⟨some 4, .assign (.tmp 6), none⟩]
def f99_r2 : List LOp := [
 ⟨some 7, .move (.tmp 0), none⟩,
 ⟨some 8, .nilCheck (.tmp 7), none⟩,
 ⟨some 9, .fieldAddr 63 (.tmp 8) 1, none⟩,
 ⟨some 10, .load 3 (.tmp 9), none⟩,
 ⟨some 11, .binOp .add 3 (.tmp 10) (.const (.int .i64 1)) 3, none⟩,
 ⟨some 12, .nilCheck (.tmp 7), none⟩,
 ⟨some 13, .fieldAddr 63 (.tmp 12) 1, none⟩,
 ⟨none, .store 3 (.tmp 13) (.tmp 11), none⟩]
def f99_r3 : List LOp := [
 ⟨some 14, .move (.tmp 0), none⟩,
 ⟨some 15, .call { callee := .value (.func 119), args := #[.tmp 14, .const (.int .u8 93)], argTypes := #[61, 5] }, none⟩]
def f99_r4 : List LOp := [
 ⟨some 16, .build 40 #[(0, .const (.int .u8 1))], none⟩,
 ⟨none, .store 40 (.tmp 2) (.tmp 16), none⟩]
def f99_r5 : List LOp := [
 ⟨some 18, .move (.tmp 0), none⟩,
 ⟨some 19, .call { callee := .value (.func 84), args := #[.tmp 18, .const (.int .u8 40)], argTypes := #[61, 5] }, none⟩,
 ⟨some 17, .assign (.tmp 19), none⟩]
def f99_r6 : List LOp := [
 ⟨some 20, .move (.tmp 0), none⟩,
 ⟨some 21, .nilCheck (.tmp 20), none⟩,
 ⟨some 22, .fieldAddr 63 (.tmp 21) 1, none⟩,
 ⟨some 23, .load 3 (.tmp 22), none⟩,
 ⟨some 24, .binOp .add 3 (.tmp 23) (.const (.int .i64 1)) 3, none⟩,
 ⟨some 25, .nilCheck (.tmp 20), none⟩,
 ⟨some 26, .fieldAddr 63 (.tmp 25) 1, none⟩,
 ⟨none, .store 3 (.tmp 26) (.tmp 24), none⟩]
def f99_r7 : List LOp := [
 ⟨some 27, .move (.tmp 0), none⟩,
 ⟨some 28, .call { callee := .value (.func 84), args := #[.tmp 27, .const (.int .u8 41)], argTypes := #[61, 5] }, none⟩]
def f99_r8 : List LOp := [
 ⟨some 29, .move (.tmp 0), none⟩,
 ⟨some 30, .nilCheck (.tmp 29), none⟩,
 ⟨some 31, .fieldAddr 63 (.tmp 30) 1, none⟩,
 ⟨some 32, .load 3 (.tmp 31), none⟩,
 ⟨some 33, .binOp .add 3 (.tmp 32) (.const (.int .i64 1)) 3, none⟩,
 ⟨some 34, .nilCheck (.tmp 29), none⟩,
 ⟨some 35, .fieldAddr 63 (.tmp 34) 1, none⟩,
 ⟨none, .store 3 (.tmp 35) (.tmp 33), none⟩]
def f99_r9 : List LOp := [
 ⟨some 36, .build 40 #[(0, .const (.int .u8 2))], none⟩,
 ⟨none, .store 40 (.tmp 2) (.tmp 36), none⟩]
def f99_r10 : List LOp := [
 ⟨some 37, .move (.tmp 0), none⟩,
 ⟨some 38, .call { callee := .value (.func 60), args := #[.tmp 37], argTypes := #[61] }, none⟩,
 ⟨some 3, .alloc 40, none⟩,
 ⟨none, .store 40 (.tmp 3) (.tmp 38), none⟩]
def f99_r11 : List LOp := [
 ⟨some 39, .move (.tmp 0), none⟩,
 ⟨some 40, .call { callee := .value (.func 119), args := #[.tmp 39, .const (.int .u8 41)], argTypes := #[61, 5] }, none⟩]
def f99_r12 : List LOp := [
 ⟨some 41, .load 40 (.tmp 3), none⟩,
 ⟨none, .store 40 (.tmp 2) (.tmp 41), none⟩]
def f99_r13 : List LOp := [
 ⟨some 42, .move (.tmp 0), none⟩,
 ⟨some 43, .call { callee := .value (.func 120), args := #[.tmp 42], argTypes := #[61] }, none⟩,
 ⟨none, .store 40 (.tmp 2) (.tmp 43), none⟩]
def f99_c : LC := (.seq (.reg f99_r0 [] none) (.seq (.block 0 (.seq (.reg f99_r1 [] none) (.cond (.tmp 4) (.seq (.reg f99_r2 [] none) (.seq (.reg f99_r3 [] none) (.seq (.reg f99_r4 [] none) .ret))) (.seq (.reg f99_r5 [] none) (.cond (.tmp 17) (.seq (.reg f99_r6 [] none) (.seq (.seq (.reg f99_r7 [] none) (.cond (.tmp 28) (.seq (.reg f99_r8 [] none) (.seq (.reg f99_r9 [] none) .ret)) .skip)) (.seq (.reg f99_r10 [] none) (.seq (.reg f99_r11 [] none) (.seq (.reg f99_r12 [] none) .ret))))) .skip))))) (.seq (.reg f99_r13 [] none) .ret)))
theorem f99_lc : Tryz.f99.body.map lc = some f99_c.st := by kernel_rfl
theorem f99_res : Tryz.f99.results.toList = [.cell 2 40] := by kernel_rfl
theorem f99_nt : Tryz.f99.ntmps = 44 := by kernel_rfl
theorem f99_nm : (Tryz.f99.name == "runtime.NumGoroutine") = false := by kernel_rfl
def f100_r0 : List LOp := [
 ⟨some 2, .assign (.const (.bool false)), none⟩]
def f100_r1 : List LOp := [
 ⟨some 3, .move (.tmp 0), none⟩,
 ⟨some 4, .call { callee := .value (.func 61), args := #[.tmp 3], argTypes := #[61] }, none⟩]
def f100_r2 : List LOp := [
 ⟨some 5, .move (.tmp 0), none⟩,
 ⟨some 6, .nilCheck (.tmp 5), none⟩,
 ⟨some 7, .fieldAddr 63 (.tmp 6) 1, none⟩,
 ⟨some 8, .load 3 (.tmp 7), none⟩,
 ⟨some 9, .move (.tmp 0), none⟩,
 ⟨some 10, .nilCheck (.tmp 9), none⟩,
 ⟨some 11, .fieldAddr 63 (.tmp 10) 0, none⟩,
 ⟨some 12, .load 9 (.tmp 11), none⟩,
 ⟨some 13, .call { callee := .builtin .len, args := #[.tmp 12], argTypes := #[9] }, none⟩,
 ⟨some 14, .binOp .lss 3 (.tmp 8) (.tmp 13) 3, none⟩,
 ⟨some 15, .move (.tmp 14), none⟩,
 ⟨some 16, .move (.tmp 0), some (10, true)⟩,
 ⟨some 17, .nilCheck (.tmp 16), some (10, true)⟩,
 ⟨some 18, .fieldAddr 63 (.tmp 17) 0, some (10, true)⟩,
 ⟨some 19, .load 9 (.tmp 18), some (10, true)⟩,
 ⟨some 20, .move (.tmp 0), some (10, true)⟩,
 ⟨some 21, .nilCheck (.tmp 20), some (10, true)⟩,
 ⟨some 22, .fieldAddr 63 (.tmp 21) 1, some (10, true)⟩,
 ⟨some 23, .load 3 (.tmp 22), some (10, true)⟩,
 ⟨some 24, .index 9 (.tmp 19) (.tmp 23), some (10, true)⟩,
 ⟨some 25, .binOp .geq 5 (.tmp 24) (.const (.int .u8 97)) 5, some (10, true)⟩,
 ⟨some 26, .pick (.tmp 15) (.tmp 25) (.const (.bool false)), none⟩,
 ⟨some 27, .move (.tmp 26), none⟩,
 ⟨some 28, .move (.tmp 0), some (22, true)⟩,
 ⟨some 29, .nilCheck (.tmp 28), some (22, true)⟩,
 ⟨some 30, .fieldAddr 63 (.tmp 29) 0, some (22, true)⟩,
 ⟨some 31, .load 9 (.tmp 30), some (22, true)⟩,
 ⟨some 32, .move (.tmp 0), some (22, true)⟩,
 ⟨some 33, .nilCheck (.tmp 32), some (22, true)⟩,
 ⟨some 34, .fieldAddr 63 (.tmp 33) 1, some (22, true)⟩,
 ⟨some 35, .load 3 (.tmp 34), some (22, true)⟩,
 ⟨some 36, .index 9 (.tmp 31) (.tmp 35), some (22, true)⟩,
 ⟨some 37, .binOp .leq 5 (.tmp 36) (.const (.int .u8 122)) 5, some (22, true)⟩,
 ⟨some 38, .pick (.tmp 27) (.tmp 37) (.const (.bool false)), none⟩,
 ⟨some 2, .assign (.tmp 38), none⟩]
def f100_c : LC := (.seq (.reg f100_r0 [] none) (.seq (.reg f100_r1 [] none) (.seq (.reg f100_r2 [] (some 34)) .ret)))
theorem f100_lc : Tryz.f100.body.map lc = some f100_c.st := by kernel_rfl
theorem f100_res : Tryz.f100.results.toList = [.tmp 2] := by kernel_rfl
theorem f100_nt : Tryz.f100.ntmps = 39 := by kernel_rfl
theorem f100_nm : (Tryz.f100.name == "runtime.NumGoroutine") = false := by kernel_rfl
def f101_r0 : List LOp := [
 ⟨some 1, .box 38 (.tmp 0), none⟩,
 ⟨some 2, .assign (.const .nilFunc), none⟩]
def f101_r1 : List LOp := [
 ⟨some 3, .makeFunc (.func 121) #[] #[.tmp 1], none⟩,
 ⟨some 2, .assign (.tmp 3), none⟩]
def f101_c : LC := (.seq (.reg f101_r0 [] none) (.seq (.reg f101_r1 [] none) .ret))
theorem f101_lc : Tryz.f101.body.map lc = some f101_c.st := by kernel_rfl
theorem f101_res : Tryz.f101.results.toList = [.tmp 2] := by kernel_rfl
theorem f101_nt : Tryz.f101.ntmps = 4 := by kernel_rfl
theorem f101_nm : (Tryz.f101.name == "runtime.NumGoroutine") = false := by kernel_rfl
def f102_r0 : List LOp := [
 ⟨some 4, .assign (.const (.bool false)), none⟩]
def f102_r1 : List LOp := [
 ⟨some 5, .move (.tmp 0), none⟩,
 ⟨some 6, .move (.tmp 1), none⟩,
 ⟨some 7, .call { callee := .value (.func 66), args := #[.tmp 5, .tmp 6], argTypes := #[9, 3] }, none⟩,
 ⟨some 1, .assign (.tmp 7), none⟩]
def f102_r2 : List LOp := [
 ⟨some 8, .move (.tmp 1), none⟩,
 ⟨some 9, .move (.tmp 0), none⟩,
 ⟨some 10, .call { callee := .builtin .len, args := #[.tmp 9], argTypes := #[9] }, none⟩,
 ⟨some 11, .binOp .lss 3 (.tmp 8) (.tmp 10) 3, none⟩,
 ⟨some 12, .move (.tmp 11), none⟩,
 ⟨some 13, .move (.tmp 0), some (4, true)⟩,
 ⟨some 14, .move (.tmp 1), some (4, true)⟩,
 ⟨some 15, .index 9 (.tmp 13) (.tmp 14), some (4, true)⟩,
 ⟨some 16, .binOp .geq 5 (.tmp 15) (.const (.int .u8 97)) 5, some (4, true)⟩,
 ⟨some 17, .pick (.tmp 12) (.tmp 16) (.const (.bool false)), none⟩,
 ⟨some 18, .move (.tmp 17), none⟩,
 ⟨some 19, .move (.tmp 0), some (10, true)⟩,
 ⟨some 20, .move (.tmp 1), some (10, true)⟩,
 ⟨some 21, .index 9 (.tmp 19) (.tmp 20), some (10, true)⟩,
 ⟨some 22, .binOp .leq 5 (.tmp 21) (.const (.int .u8 122)) 5, some (10, true)⟩,
 ⟨some 23, .pick (.tmp 18) (.tmp 22) (.const (.bool false)), none⟩,
 ⟨some 4, .assign (.tmp 23), none⟩]
def f102_c : LC := (.seq (.reg f102_r0 [] none) (.seq (.reg f102_r1 [] none) (.seq (.reg f102_r2 [] none) .ret)))
theorem f102_lc : Tryz.f102.body.map lc = some f102_c.st := by kernel_rfl
theorem f102_res : Tryz.f102.results.toList = [.tmp 4] := by kernel_rfl
theorem f102_nt : Tryz.f102.ntmps = 24 := by kernel_rfl
theorem f102_nm : (Tryz.f102.name == "runtime.NumGoroutine") = false := by kernel_rfl
def f103_r0 : List LOp := [
 ⟨some 8, .alloc 72, none⟩]
def f103_r1 : List LOp := [
 ⟨some 13, .move (.tmp 0), none⟩,
 ⟨some 14, .move (.tmp 1), none⟩,
 ⟨some 15, .call { callee := .value (.func 66), args := #[.tmp 13, .tmp 14], argTypes := #[9, 3] }, none⟩,
 ⟨some 1, .assign (.tmp 15), none⟩]
def f103_r2 : List LOp := [
 ⟨some 16, .move (.tmp 0), none⟩,
 ⟨some 17, .move (.tmp 1), none⟩,
 ⟨some 18, .call { callee := .value (.func 88), args := #[.tmp 16, .tmp 17, .const (.int .u8 91)], argTypes := #[9, 3, 5] }, none⟩]
def f103_r3 : List LOp := [
 ⟨some 19, .move (.tmp 0), none⟩,
 ⟨some 20, .move (.tmp 1), none⟩,
 ⟨some 21, .binOp .add 3 (.tmp 20) (.const (.int .i64 1)) 3, none⟩,
 ⟨some 22, .call { callee := .value (.func 88), args := #[.tmp 19, .tmp 21, .const (.int .u8 93)], argTypes := #[9, 3, 5] }, none⟩,
 ⟨some 23, .unOp .not 4 (.tmp 22), none⟩]
def f103_r4 : List LOp := [
 ⟨some 24, .move (.tmp 0), none⟩,
 ⟨some 25, .move (.tmp 1), none⟩,
 ⟨some 26, .binOp .add 3 (.tmp 25) (.const (.int .i64 1)) 3, none⟩,
 ⟨some 27, .call { callee := .value (.func 66), args := #[.tmp 24, .tmp 26], argTypes := #[9, 3] }, none⟩,
 ⟨some 28, .build 72 #[(1, .tmp 27), (2, .const (.int .i64 2))], none⟩,
 ⟨none, .store 72 (.tmp 8) (.tmp 28), none⟩]
def f103_r5 : List LOp := [
 ⟨some 29, .build 40 #[(0, .const (.int .u8 1))], none⟩,
 ⟨some 30, .move (.tmp 0), none⟩,
 ⟨some 31, .move (.tmp 1), none⟩,
 ⟨some 32, .binOp .add 3 (.tmp 31) (.const (.int .i64 1)) 3, none⟩,
 ⟨some 33, .call { callee := .value (.func 66), args := #[.tmp 30, .tmp 32], argTypes := #[9, 3] }, none⟩,
 ⟨some 34, .binOp .add 3 (.tmp 33) (.const (.int .i64 1)) 3, none⟩,
 ⟨some 35, .build 72 #[(0, .tmp 29), (1, .tmp 34)], none⟩,
 ⟨none, .store 72 (.tmp 8) (.tmp 35), none⟩]
def f103_r6 : List LOp := [
 ⟨some 36, .move (.tmp 0), none⟩,
 ⟨some 37, .move (.tmp 1), none⟩,
 ⟨some 38, .call { callee := .value (.func 88), args := #[.tmp 36, .tmp 37, .const (.int .u8 40)], argTypes := #[9, 3, 5] }, none⟩]
def f103_r7 : List LOp := [
 ⟨some 39, .move (.tmp 0), none⟩,
 ⟨some 40, .move (.tmp 1), none⟩,
 ⟨some 41, .binOp .add 3 (.tmp 40) (.const (.int .i64 1)) 3, none⟩,
 ⟨some 42, .call { callee := .value (.func 88), args := #[.tmp 39, .tmp 41, .const (.int .u8 41)], argTypes := #[9, 3, 5] }, none⟩]
def f103_r8 : List LOp := [
 ⟨some 43, .build 40 #[(0, .const (.int .u8 2))], none⟩,
 ⟨some 44, .move (.tmp 0), none⟩,
 ⟨some 45, .move (.tmp 1), none⟩,
 ⟨some 46, .binOp .add 3 (.tmp 45) (.const (.int .i64 1)) 3, none⟩,
 ⟨some 47, .call { callee := .value (.func 66), args := #[.tmp 44, .tmp 46], argTypes := #[9, 3] }, none⟩,
 ⟨some 48, .binOp .add 3 (.tmp 47) (.const (.int .i64 1)) 3, none⟩,
 ⟨some 49, .build 72 #[(0, .tmp 43), (1, .tmp 48)], none⟩,
 ⟨none, .store 72 (.tmp 8) (.tmp 49), none⟩]
def f103_r9 : List LOp := [
 ⟨some 50, .move (.tmp 0), none⟩,
 ⟨some 51, .move (.tmp 1), none⟩,
 ⟨some 52, .binOp .add 3 (.tmp 51) (.const (.int .i64 1)) 3, none⟩,
 ⟨some 53, .move (.tmp 2), none⟩,
 ⟨some 54, .move (.tmp 3), none⟩,
 ⟨some 55, .call { callee := .value (.func 65), args := #[.tmp 50, .tmp 52, .tmp 53, .tmp 54], argTypes := #[9, 3, 22, 22] }, none⟩,
 ⟨some 9, .alloc 72, none⟩,
 ⟨none, .store 72 (.tmp 9) (.tmp 55), none⟩]
def f103_r10 : List LOp := [
 ⟨some 56, .fieldAddr 72 (.tmp 9) 2, none⟩,
 ⟨some 57, .load 3 (.tmp 56), none⟩,
 ⟨some 58, .binOp .neq 3 (.tmp 57) (.const (.int .i64 0)) 3, none⟩]
def f103_r11 : List LOp := [
 ⟨some 59, .load 72 (.tmp 9), none⟩,
 ⟨none, .store 72 (.tmp 8) (.tmp 59), none⟩]
def f103_r12 : List LOp := [
 ⟨some 60, .move (.tmp 0), none⟩,
 ⟨some 61, .fieldAddr 72 (.tmp 9) 1, none⟩,
 ⟨some 62, .load 3 (.tmp 61), none⟩,
 ⟨some 63, .call { callee := .value (.func 88), args := #[.tmp 60, .tmp 62, .const (.int .u8 41)], argTypes := #[9, 3, 5] }, none⟩,
 ⟨some 64, .unOp .not 4 (.tmp 63), none⟩]
def f103_r13 : List LOp := [
 ⟨some 65, .move (.tmp 0), none⟩,
 ⟨some 66, .fieldAddr 72 (.tmp 9) 1, none⟩,
 ⟨some 67, .load 3 (.tmp 66), none⟩,
 ⟨some 68, .call { callee := .value (.func 66), args := #[.tmp 65, .tmp 67], argTypes := #[9, 3] }, none⟩,
 ⟨some 69, .build 72 #[(1, .tmp 68), (2, .const (.int .i64 2))], none⟩,
 ⟨none, .store 72 (.tmp 8) (.tmp 69), none⟩]
def f103_r14 : List LOp := [
 ⟨some 70, .fieldAddr 72 (.tmp 9) 0, none⟩,
 ⟨some 71, .load 40 (.tmp 70), none⟩,
 ⟨some 72, .move (.tmp 0), none⟩,
 ⟨some 73, .fieldAddr 72 (.tmp 9) 1, none⟩,
 ⟨some 74, .load 3 (.tmp 73), none⟩,
 ⟨some 75, .call { callee := .value (.func 66), args := #[.tmp 72, .tmp 74], argTypes := #[9, 3] }, none⟩,
 ⟨some 76, .binOp .add 3 (.tmp 75) (.const (.int .i64 1)) 3, none⟩,
 ⟨some 77, .build 72 #[(0, .tmp 71), (1, .tmp 76)], none⟩,
 ⟨none, .store 72 (.tmp 8) (.tmp 77), none⟩]
def f103_r15 : List LOp := [
 ⟨some 78, .move (.tmp 0), none⟩,
 ⟨some 79, .move (.tmp 1), none⟩,
 ⟨some 80, .call { callee := .value (.func 102), args := #[.tmp 78, .tmp 79], argTypes := #[9, 3] }, none⟩,
 ⟨some 81, .unOp .not 4 (.tmp 80), none⟩]
def f103_r16 : List LOp := [
 ⟨some 82, .move (.tmp 1), none⟩,
 ⟨some 83, .build 72 #[(1, .tmp 82), (2, .const (.int .i64 2))], none⟩,
 ⟨none, .store 72 (.tmp 8) (.tmp 83), none⟩]
def f103_r17 : List LOp := [
 ⟨some 84, .move (.tmp 1), none⟩,
 ⟨some 10, .assign (.tmp 84), none⟩]
def f103_r18 : List LOp := [
 ⟨some 85, .move (.tmp 10), none⟩,
 ⟨some 86, .move (.tmp 0), none⟩,
 ⟨some 87, .call { callee := .builtin .len, args := #[.tmp 86], argTypes := #[9] }, none⟩,
 ⟨some 88, .binOp .lss 3 (.tmp 85) (.tmp 87) 3, none⟩,
 ⟨some 89, .move (.tmp 88), none⟩,
 ⟨some 90, .move (.tmp 0), some (4, true)⟩,
 ⟨some 91, .move (.tmp 10), some (4, true)⟩,
 ⟨some 92, .index 9 (.tmp 90) (.tmp 91), some (4, true)⟩,
 ⟨some 93, .binOp .geq 5 (.tmp 92) (.const (.int .u8 97)) 5, some (4, true)⟩,
 ⟨some 94, .move (.tmp 93), some (4, true)⟩,
 ⟨some 95, .move (.tmp 0), some (9, true)⟩,
 ⟨some 96, .move (.tmp 10), some (9, true)⟩,
 ⟨some 97, .index 9 (.tmp 95) (.tmp 96), some (9, true)⟩,
 ⟨some 98, .binOp .leq 5 (.tmp 97) (.const (.int .u8 122)) 5, some (9, true)⟩,
 ⟨some 99, .pick (.tmp 94) (.tmp 98) (.const (.bool false)), some (4, true)⟩,
 ⟨some 100, .move (.tmp 99), some (4, true)⟩,
 ⟨some 101, .move (.tmp 0), some (15, false)⟩,
 ⟨some 102, .move (.tmp 10), some (15, false)⟩,
 ⟨some 103, .index 9 (.tmp 101) (.tmp 102), some (15, false)⟩,
 ⟨some 104, .binOp .geq 5 (.tmp 103) (.const (.int .u8 48)) 5, some (15, false)⟩,
 ⟨some 105, .move (.tmp 104), some (15, false)⟩,
 ⟨some 106, .move (.tmp 0), some (20, true)⟩,
 ⟨some 107, .move (.tmp 10), some (20, true)⟩,
 ⟨some 108, .index 9 (.tmp 106) (.tmp 107), some (20, true)⟩,
 ⟨some 109, .binOp .leq 5 (.tmp 108) (.const (.int .u8 57)) 5, some (20, true)⟩,
 ⟨some 110, .pick (.tmp 105) (.tmp 109) (.const (.bool false)), some (15, false)⟩,
 ⟨some 111, .pick (.tmp 100) (.const (.bool true)) (.tmp 110), some (4, true)⟩,
 ⟨some 112, .move (.tmp 111), some (4, true)⟩,
 ⟨some 113, .move (.tmp 0), some (27, false)⟩,
 ⟨some 114, .move (.tmp 10), some (27, false)⟩,
 ⟨some 115, .index 9 (.tmp 113) (.tmp 114), some (27, false)⟩,
 ⟨some 116, .binOp .eql 5 (.tmp 115) (.const (.int .u8 95)) 5, some (27, false)⟩,
 ⟨some 117, .pick (.tmp 112) (.const (.bool true)) (.tmp 116), some (4, true)⟩,
 ⟨some 118, .pick (.tmp 89) (.tmp 117) (.const (.bool false)), none⟩]
def f103_r19 : List LOp := [
 ⟨some 119, .move (.tmp 10), none⟩,
 ⟨some 120, .binOp .add 3 (.tmp 119) (.const (.int .i64 1)) 3, none⟩,
 ⟨some 10, .assign (.tmp 120), none⟩]
def f103_l20 : LC := (.seq (.seq (.reg f103_r18 [] none) (.cond (.tmp 118) .skip (.exit 0))) (.block 1 (.reg f103_r19 [] none)))
def f103_i20 (t0 t1 t2 t3 t8 t10 : D) : List D := [t0, t1, t2, t3, .any, .any, .any, .any, t8, .any, t10, .any, .any, .any, .any, .any, .any, .any, .any, .any, .any, .any, .any, .any, .any, .any, .any, .any, .any, .any, .any, .any, .any, .any, .any, .any, .any, .any, .any, .any, .any, .any, .any, .any, .any, .any, .any, .any, .any, .any, .any, .any, .any, .any, .any, .any, .any, .any, .any, .any, .any, .any, .any, .any, .any, .any, .any, .any, .any, .any, .any, .any, .any, .any, .any, .any, .any, .any, .any, .any, .any, .any, .any, .any, .any, .any, .any, .any, .any, .any, .any, .any, .any, .any, .any, .any, .any, .any, .any, .any, .any, .any, .any, .any, .any, .any, .any, .any, .any, .any, .any, .any, .any, .any, .any, .any, .any, .any, .any, .any, .any, .any, .any, .any, .any, .any, .any, .any, .any, .any, .any, .any, .any, .any, .any, .any, .any, .any, .any, .any, .any, .any, .any, .any, .any, .any, .any, .any, .any, .any, .any, .any, .any, .any, .any, .any, .any, .any, .any, .any, .any]
def f103_r21 : List LOp := [
 ⟨some 121, .move (.tmp 2), none⟩,
 ⟨some 122, .call { callee := .builtin .len, args := #[.tmp 121], argTypes := #[22] }, none⟩,
 ⟨some 123, .move (.const (.int .i64 0)), none⟩]
def f103_r22 : List LOp := [
 ⟨some 124, .binOp .lss 3 (.tmp 123) (.tmp 122) 3, none⟩]
def f103_r23 : List LOp := [
 ⟨some 125, .move (.tmp 123), none⟩,
 ⟨some 11, .assign (.tmp 125), none⟩]
def f103_r24 : List LOp := [
 ⟨some 126, .move (.tmp 2), none⟩,
 ⟨some 127, .move (.tmp 11), none⟩,
 ⟨some 128, .indexAddr 22 (.tmp 126) (.tmp 127), none⟩,
 ⟨some 129, .load 9 (.tmp 128), none⟩,
 ⟨some 130, .move (.tmp 0), none⟩,
 ⟨some 131, .move (.tmp 1), none⟩,
 ⟨some 132, .move (.tmp 10), none⟩,
 ⟨some 133, .slice 9 (.tmp 130) (some (.tmp 131)) (some (.tmp 132)) none, none⟩,
 ⟨some 134, .binOp .eql 9 (.tmp 129) (.tmp 133) 9, none⟩]
def f103_r25 : List LOp := [
 ⟨some 135, .move (.tmp 11), none⟩,
 ⟨some 136, .build 40 #[(0, .const (.int .u8 3)), (1, .tmp 135)], none⟩,
 ⟨some 137, .move (.tmp 10), none⟩,
 ⟨some 138, .build 72 #[(0, .tmp 136), (1, .tmp 137)], none⟩,
 ⟨none, .store 72 (.tmp 8) (.tmp 138), none⟩]
def f103_r26 : List LOp := [
 ⟨some 139, .binOp .add 3 (.tmp 123) (.const (.int .i64 1)) 3, none⟩,
 ⟨some 123, .move (.tmp 139), none⟩]
def f103_l27 : LC := (.seq (.reg f103_r22 [] none) (.seq (.cond (.tmp 124) .skip (.exit 2)) (.seq (.block 3 (.seq (.reg f103_r23 [] none) (.seq (.reg f103_r24 [] (some 8)) (.cond (.tmp 134) (.seq (.reg f103_r25 [] none) .ret) .skip)))) (.reg f103_r26 [] none))))
def f103_i27 (t0 t1 t2 t3 t8 t10 t122 t123 : D) : List D := [t0, t1, t2, t3, .any, .any, .any, .any, t8, .any, t10, .any, .any, .any, .any, .any, .any, .any, .any, .any, .any, .any, .any, .any, .any, .any, .any, .any, .any, .any, .any, .any, .any, .any, .any, .any, .any, .any, .any, .any, .any, .any, .any, .any, .any, .any, .any, .any, .any, .any, .any, .any, .any, .any, .any, .any, .any, .any, .any, .any, .any, .any, .any, .any, .any, .any, .any, .any, .any, .any, .any, .any, .any, .any, .any, .any, .any, .any, .any, .any, .any, .any, .any, .any, .any, .any, .any, .any, .any, .any, .any, .any, .any, .any, .any, .any, .any, .any, .any, .any, .any, .any, .any, .any, .any, .any, .any, .any, .any, .any, .any, .any, .any, .any, .any, .any, .any, .any, .any, .any, .any, .any, t122, t123, .any, .any, .any, .any, .any, .any, .any, .any, .any, .any, .any, .any, .any, .any, .any, .any, .any, .any, .any, .any, .any, .any, .any, .any, .any, .any, .any, .any, .any, .any, .any, .any, .any, .any, .any, .any, .any]
def f103_r28 : List LOp := [
 ⟨some 140, .move (.tmp 3), none⟩,
 ⟨some 141, .call { callee := .builtin .len, args := #[.tmp 140], argTypes := #[22] }, none⟩,
 ⟨some 142, .move (.const (.int .i64 0)), none⟩]
def f103_r29 : List LOp := [
 ⟨some 143, .binOp .lss 3 (.tmp 142) (.tmp 141) 3, none⟩]
def f103_r30 : List LOp := [
 ⟨some 144, .move (.tmp 142), none⟩,
 ⟨some 12, .assign (.tmp 144), none⟩]
def f103_r31 : List LOp := [
 ⟨some 145, .move (.tmp 3), none⟩,
 ⟨some 146, .move (.tmp 12), none⟩,
 ⟨some 147, .indexAddr 22 (.tmp 145) (.tmp 146), none⟩,
 ⟨some 148, .load 9 (.tmp 147), none⟩,
 ⟨some 149, .move (.tmp 0), none⟩,
 ⟨some 150, .move (.tmp 1), none⟩,
 ⟨some 151, .move (.tmp 10), none⟩,
 ⟨some 152, .slice 9 (.tmp 149) (some (.tmp 150)) (some (.tmp 151)) none, none⟩,
 ⟨some 153, .binOp .eql 9 (.tmp 148) (.tmp 152) 9, none⟩]
def f103_r32 : List LOp := [
 ⟨some 154, .move (.tmp 12), none⟩,
 ⟨some 155, .build 40 #[(0, .const (.int .u8 6)), (1, .tmp 154)], none⟩,
 ⟨some 156, .move (.tmp 10), none⟩,
 ⟨some 157, .build 72 #[(0, .tmp 155), (1, .tmp 156)], none⟩,
 ⟨none, .store 72 (.tmp 8) (.tmp 157), none⟩]
def f103_r33 : List LOp := [
 ⟨some 158, .binOp .add 3 (.tmp 142) (.const (.int .i64 1)) 3, none⟩,
 ⟨some 142, .move (.tmp 158), none⟩]
def f103_l34 : LC := (.seq (.reg f103_r29 [] none) (.seq (.cond (.tmp 143) .skip (.exit 4)) (.seq (.block 5 (.seq (.reg f103_r30 [] none) (.seq (.reg f103_r31 [] (some 8)) (.cond (.tmp 153) (.seq (.reg f103_r32 [] none) .ret) .skip)))) (.reg f103_r33 [] none))))
def f103_i34 (t0 t1 t3 t8 t10 t141 t142 : D) : List D := [t0, t1, .any, t3, .any, .any, .any, .any, t8, .any, t10, .any, .any, .any, .any, .any, .any, .any, .any, .any, .any, .any, .any, .any, .any, .any, .any, .any, .any, .any, .any, .any, .any, .any, .any, .any, .any, .any, .any, .any, .any, .any, .any, .any, .any, .any, .any, .any, .any, .any, .any, .any, .any, .any, .any, .any, .any, .any, .any, .any, .any, .any, .any, .any, .any, .any, .any, .any, .any, .any, .any, .any, .any, .any, .any, .any, .any, .any, .any, .any, .any, .any, .any, .any, .any, .any, .any, .any, .any, .any, .any, .any, .any, .any, .any, .any, .any, .any, .any, .any, .any, .any, .any, .any, .any, .any, .any, .any, .any, .any, .any, .any, .any, .any, .any, .any, .any, .any, .any, .any, .any, .any, .any, .any, .any, .any, .any, .any, .any, .any, .any, .any, .any, .any, .any, .any, .any, .any, .any, .any, .any, t141, t142, .any, .any, .any, .any, .any, .any, .any, .any, .any, .any, .any, .any, .any, .any, .any, .any, .any, .any]
def f103_r35 : List LOp := [
 ⟨some 159, .move (.tmp 1), none⟩,
 ⟨some 160, .build 72 #[(1, .tmp 159), (2, .const (.int .i64 5))], none⟩,
 ⟨none, .store 72 (.tmp 8) (.tmp 160), none⟩]
def f103_c : LC := (.seq (.reg f103_r0 [] none) (.seq (.reg f103_r1 [] none) (.seq (.seq (.reg f103_r2 [] none) (.cond (.tmp 18) (.seq (.seq (.reg f103_r3 [] none) (.cond (.tmp 23) (.seq (.reg f103_r4 [] none) .ret) .skip)) (.seq (.reg f103_r5 [] none) .ret)) .skip)) (.seq (.seq (.reg f103_r6 [] none) (.cond (.tmp 38) (.seq (.seq (.reg f103_r7 [] none) (.cond (.tmp 42) (.seq (.reg f103_r8 [] none) .ret) .skip)) (.seq (.reg f103_r9 [] none) (.seq (.seq (.reg f103_r10 [] none) (.cond (.tmp 58) (.seq (.reg f103_r11 [] none) .ret) .skip)) (.seq (.seq (.reg f103_r12 [] none) (.cond (.tmp 64) (.seq (.reg f103_r13 [] none) .ret) .skip)) (.seq (.reg f103_r14 [] (some 7)) .ret))))) .skip)) (.seq (.seq (.reg f103_r15 [] none) (.cond (.tmp 81) (.seq (.reg f103_r16 [] none) .ret) .skip)) (.seq (.reg f103_r17 [] none) (.seq (.block 0 (.loop f103_l20)) (.seq (.seq (.reg f103_r21 [] none) (.block 2 (.loop f103_l27))) (.seq (.seq (.reg f103_r28 [] none) (.block 4 (.loop f103_l34))) (.seq (.reg f103_r35 [] none) .ret))))))))))
theorem f103_lc : Tryz.f103.body.map lc = some f103_c.st := by kernel_rfl
theorem f103_res : Tryz.f103.results.toList = [.cell 8 72] := by kernel_rfl
theorem f103_nt : Tryz.f103.ntmps = 161 := by kernel_rfl
theorem f103_nm : (Tryz.f103.name == "runtime.NumGoroutine") = false := by kernel_rfl
def f119_r0 : List LOp := [
 ⟨some 4, .move (.tmp 0), none⟩,
 ⟨some 5, .move (.tmp 1), none⟩,
 ⟨some 6, .call { callee := .value (.func 84), args := #[.tmp 4, .tmp 5], argTypes := #[61, 5] }, none⟩,
 ⟨some 7, .unOp .not 4 (.tmp 6), none⟩]
def f119_r1 : List LOp := [
 ⟨some 8, .move (.tmp 0), none⟩,
 ⟨some 9, .move (.tmp 0), none⟩,
 ⟨some 10, .nilCheck (.tmp 9), none⟩,
 ⟨some 11, .fieldAddr 63 (.tmp 10) 1, none⟩,
 ⟨some 12, .load 3 (.tmp 11), none⟩,
 ⟨some 13, .call { callee := .value (.func 62), args := #[.tmp 8, .tmp 12, .const (.int .i64 2)], argTypes := #[61, 3, 27] }, none⟩]
def f119_r2 : List LOp := [
 ⟨some 14, .move (.tmp 0), none⟩,
 ⟨some 15, .nilCheck (.tmp 14), none⟩,
 ⟨some 16, .fieldAddr 63 (.tmp 15) 1, none⟩,
 ⟨some 17, .load 3 (.tmp 16), none⟩,
 ⟨some 18, .binOp .add 3 (.tmp 17) (.const (.int .i64 1)) 3, none⟩,
 ⟨some 19, .nilCheck (.tmp 14), none⟩,
 ⟨some 20, .fieldAddr 63 (.tmp 19) 1, none⟩,
 ⟨none, .store 3 (.tmp 20) (.tmp 18), none⟩]
def f119_c : LC := (.seq (.seq (.reg f119_r0 [] none) (.cond (.tmp 7) (.reg f119_r1 [] none) .skip)) (.reg f119_r2 [] none))
theorem f119_lc : Tryz.f119.body.map lc = some f119_c.st := by kernel_rfl
theorem f119_res : Tryz.f119.results.toList = [] := by kernel_rfl
theorem f119_nt : Tryz.f119.ntmps = 21 := by kernel_rfl
theorem f119_nm : (Tryz.f119.name == "runtime.NumGoroutine") = false := by kernel_rfl
def f120_r0 : List LOp := [
 ⟨some 2, .alloc 40, none⟩]
def f120_r1 : List LOp := [
 ⟨some 7, .move (.tmp 0), none⟩,
 ⟨some 8, .call { callee := .value (.func 100), args := #[.tmp 7], argTypes := #[61] }, none⟩,
 ⟨some 9, .unOp .not 4 (.tmp 8), none⟩]
def f120_r2 : List LOp := [
 ⟨some 10, .move (.tmp 0), none⟩,
 ⟨some 11, .move (.tmp 0), none⟩,
 ⟨some 12, .nilCheck (.tmp 11), none⟩,
 ⟨some 13, .fieldAddr 63 (.tmp 12) 1, none⟩,
 ⟨some 14, .load 3 (.tmp 13), none⟩,
 ⟨some 15, .call { callee := .value (.func 62), args := #[.tmp 10, .tmp 14, .const (.int .i64 2)], argTypes := #[61, 3, 27] }, none⟩]
def f120_r3 : List LOp := [
 ⟨some 16, .move (.tmp 0), none⟩,
 ⟨some 17, .nilCheck (.tmp 16), none⟩,
 ⟨some 18, .fieldAddr 63 (.tmp 17) 1, none⟩,
 ⟨some 19, .load 3 (.tmp 18), none⟩,
 ⟨some 3, .assign (.tmp 19), none⟩]
def f120_r4 : List LOp := [
 ⟨some 20, .move (.tmp 0), none⟩,
 ⟨some 21, .nilCheck (.tmp 20), none⟩,
 ⟨some 22, .fieldAddr 63 (.tmp 21) 1, none⟩,
 ⟨some 23, .load 3 (.tmp 22), none⟩,
 ⟨some 24, .move (.tmp 0), none⟩,
 ⟨some 25, .nilCheck (.tmp 24), none⟩,
 ⟨some 26, .fieldAddr 63 (.tmp 25) 0, none⟩,
 ⟨some 27, .load 9 (.tmp 26), none⟩,
 ⟨some 28, .call { callee := .builtin .len, args := #[.tmp 27], argTypes := #[9] }, none⟩,
 ⟨some 29, .binOp .lss 3 (.tmp 23) (.tmp 28) 3, none⟩,
 ⟨some 30, .move (.tmp 29), none⟩,
 ⟨some 31, .move (.tmp 0), some (10, true)⟩,
 ⟨some 32, .nilCheck (.tmp 31), some (10, true)⟩,
 ⟨some 33, .fieldAddr 63 (.tmp 32) 0, some (10, true)⟩,
 ⟨some 34, .load 9 (.tmp 33), some (10, true)⟩,
 ⟨some 35, .move (.tmp 0), some (10, true)⟩,
 ⟨some 36, .nilCheck (.tmp 35), some (10, true)⟩,
 ⟨some 37, .fieldAddr 63 (.tmp 36) 1, some (10, true)⟩,
 ⟨some 38, .load 3 (.tmp 37), some (10, true)⟩,
 ⟨some 39, .index 9 (.tmp 34) (.tmp 38), some (10, true)⟩,
 ⟨some 40, .call { callee := .value (.func 129), args := #[.tmp 39], argTypes := #[5] }, some (10, true)⟩,
 ⟨some 41, .pick (.tmp 30) (.tmp 40) (.const (.bool false)), none⟩]
def f120_r5 : List LOp := [
 ⟨some 42, .move (.tmp 0), none⟩,
 ⟨some 43, .nilCheck (.tmp 42), none⟩,
 ⟨some 44, .fieldAddr 63 (.tmp 43) 1, none⟩,
 ⟨some 45, .load 3 (.tmp 44), none⟩,
 ⟨some 46, .binOp .add 3 (.tmp 45) (.const (.int .i64 1)) 3, none⟩,
 ⟨some 47, .nilCheck (.tmp 42), none⟩,
 ⟨some 48, .fieldAddr 63 (.tmp 47) 1, none⟩,
 ⟨none, .store 3 (.tmp 48) (.tmp 46), none⟩]
def f120_l6 : LC := (.seq (.seq (.reg f120_r4 [] (some 22)) (.cond (.tmp 41) .skip (.exit 0))) (.block 1 (.reg f120_r5 [] none)))
def f120_i6 (t0 t2 t3 : D) : List D := [t0, .any, t2, t3, .any, .any, .any, .any, .any, .any, .any, .any, .any, .any, .any, .any, .any, .any, .any, .any, .any, .any, .any, .any, .any, .any, .any, .any, .any, .any, .any, .any, .any, .any, .any, .any, .any, .any, .any, .any, .any, .any, .any, .any, .any, .any, .any, .any, .any, .any, .any, .any, .any, .any, .any, .any, .any, .any, .any, .any, .any, .any, .any, .any, .any, .any, .any, .any, .any, .any, .any, .any, .any, .any, .any, .any, .any, .any, .any, .any, .any, .any]
def f120_r7 : List LOp := [
 ⟨some 49, .move (.tmp 0), none⟩,
 ⟨some 50, .nilCheck (.tmp 49), none⟩,
 ⟨some 51, .fieldAddr 63 (.tmp 50) 0, none⟩,
 ⟨some 52, .load 9 (.tmp 51), none⟩,
 ⟨some 53, .move (.tmp 3), none⟩,
 ⟨some 54, .move (.tmp 0), none⟩,
 ⟨some 55, .nilCheck (.tmp 54), none⟩,
 ⟨some 56, .fieldAddr 63 (.tmp 55) 1, none⟩,
 ⟨some 57, .load 3 (.tmp 56), none⟩,
 ⟨some 58, .slice 9 (.tmp 52) (some (.tmp 53)) (some (.tmp 57)) none, none⟩,
 ⟨some 4, .assign (.tmp 58), none⟩]
def f120_r8 : List LOp := [
 ⟨some 59, .move (.tmp 0), none⟩,
 ⟨some 60, .nilCheck (.tmp 59), none⟩,
 ⟨some 61, .fieldAddr 63 (.tmp 60) 2, none⟩,
 ⟨some 62, .load 22 (.tmp 61), none⟩,
 ⟨some 63, .move (.tmp 4), none⟩,
 ⟨some 64, .call { callee := .value (.func 82), args := #[.tmp 62, .tmp 63], argTypes := #[22, 9] }, none⟩,
 ⟨some 5, .assign (.tmp 64), none⟩]
def f120_r9 : List LOp := [
 ⟨some 65, .move (.tmp 5), none⟩,
 ⟨some 66, .binOp .geq 3 (.tmp 65) (.const (.int .i64 0)) 3, none⟩]
def f120_r10 : List LOp := [
 ⟨some 67, .move (.tmp 5), none⟩,
 ⟨some 68, .build 40 #[(0, .const (.int .u8 3)), (1, .tmp 67)], none⟩,
 ⟨none, .store 40 (.tmp 2) (.tmp 68), none⟩]
def f120_r11 : List LOp := [
 ⟨some 69, .move (.tmp 0), none⟩,
 ⟨some 70, .nilCheck (.tmp 69), none⟩,
 ⟨some 71, .fieldAddr 63 (.tmp 70) 3, none⟩,
 ⟨some 72, .load 22 (.tmp 71), none⟩,
 ⟨some 73, .move (.tmp 4), none⟩,
 ⟨some 74, .call { callee := .value (.func 82), args := #[.tmp 72, .tmp 73], argTypes := #[22, 9] }, none⟩,
 ⟨some 6, .assign (.tmp 74), none⟩]
def f120_r12 : List LOp := [
 ⟨some 75, .move (.tmp 6), none⟩,
 ⟨some 76, .binOp .lss 3 (.tmp 75) (.const (.int .i64 0)) 3, none⟩]
def f120_r13 : List LOp := [
 ⟨some 77, .move (.tmp 0), none⟩,
 ⟨some 78, .move (.tmp 3), none⟩,
 ⟨some 79, .call { callee := .value (.func 62), args := #[.tmp 77, .tmp 78, .const (.int .i64 5)], argTypes := #[61, 3, 27] }, none⟩]
def f120_r14 : List LOp := [
 ⟨some 80, .move (.tmp 6), none⟩,
 ⟨some 81, .build 40 #[(0, .const (.int .u8 6)), (1, .tmp 80)], none⟩,
 ⟨none, .store 40 (.tmp 2) (.tmp 81), none⟩]
def f120_c : LC := (.seq (.reg f120_r0 [] none) (.seq (.seq (.reg f120_r1 [] none) (.cond (.tmp 9) (.reg f120_r2 [] none) .skip)) (.seq (.reg f120_r3 [] none) (.seq (.block 0 (.loop f120_l6)) (.seq (.reg f120_r7 [] (some 9)) (.seq (.seq (.reg f120_r8 [] none) (.seq (.reg f120_r9 [] none) (.cond (.tmp 66) (.seq (.reg f120_r10 [] none) .ret) .skip))) (.seq (.reg f120_r11 [] none) (.seq (.seq (.reg f120_r12 [] none) (.cond (.tmp 76) (.reg f120_r13 [] none) .skip)) (.seq (.reg f120_r14 [] none) .ret)))))))))
theorem f120_lc : Tryz.f120.body.map lc = some f120_c.st := by kernel_rfl
theorem f120_res : Tryz.f120.results.toList = [.cell 2 40] := by kernel_rfl
theorem f120_nt : Tryz.f120.ntmps = 82 := by kernel_rfl
theorem f120_nm : (Tryz.f120.name == "runtime.NumGoroutine") = false := by kernel_rfl
def f121_r0 : List LOp := [
 ⟨some 4, .load 38 (.tmp 1), none⟩,
 ⟨some 5, .call { callee := .builtin .len, args := #[.tmp 4], argTypes := #[38] }, none⟩,
 ⟨some 6, .binOp .sub 3 (.tmp 5) (.const (.int .i64 1)) 3, none⟩,
 ⟨some 3, .assign (.tmp 6), none⟩]
def f121_r1 : List LOp := [
 ⟨some 7, .move (.tmp 3), none⟩,
 ⟨some 8, .binOp .geq 3 (.tmp 7) (.const (.int .i64 0)) 3, none⟩]
def f121_r2 : List LOp := [
 ⟨some 11, .move (.tmp 0), none⟩,
 ⟨some 12, .move (.tmp 3), none⟩,
 ⟨some 13, .load 38 (.tmp 1), none⟩,
 ⟨some 14, .move (.tmp 3), none⟩,
 ⟨some 15, .indexAddr 38 (.tmp 13) (.tmp 14), none⟩,
 ⟨some 16, .load 40 (.tmp 15), none⟩,
 ⟨some 17, .call { callee := .value (.tmp 11), args := #[.tmp 12, .tmp 16], argTypes := #[3, 40] }, none⟩,
 ⟨some 18, .unOp .not 4 (.tmp 17), none⟩]
def f121_r3 : List LOp := [
 ⟨some 9, .move (.tmp 3), none⟩,
 ⟨some 10, .binOp .sub 3 (.tmp 9) (.const (.int .i64 1)) 3, none⟩,
 ⟨some 3, .assign (.tmp 10), none⟩]
def f121_l4 : LC := (.seq (.seq (.reg f121_r1 [] none) (.cond (.tmp 8) .skip (.exit 0))) (.seq (.block 1 (.seq (.reg f121_r2 [] none) (.cond (.tmp 18) .ret .skip))) (.reg f121_r3 [] none)))
def f121_i4 (t0 t1 t3 : D) : List D := [t0, t1, .any, t3, .any, .any, .any, .any, .any, .any, .any, .any, .any, .any, .any, .any, .any, .any, .any]
def f121_c : LC := (.seq (.reg f121_r0 [] none) (.block 0 (.loop f121_l4)))
theorem f121_lc : Tryz.f121.body.map lc = some f121_c.st := by kernel_rfl
theorem f121_res : Tryz.f121.results.toList = [] := by kernel_rfl
theorem f121_nt : Tryz.f121.ntmps = 19 := by kernel_rfl
theorem f121_nm : (Tryz.f121.name == "runtime.NumGoroutine") = false := by kernel_rfl
def f129_r0 : List LOp := [
 ⟨some 2, .assign (.const (.bool false)), none⟩]
def f129_r1 : List LOp := [
 ⟨some 3, .move (.tmp 0), none⟩,
 ⟨some 4, .binOp .geq 5 (.tmp 3) (.const (.int .u8 97)) 5, none⟩,
 ⟨some 5, .move (.tmp 4), none⟩,
 ⟨some 6, .move (.tmp 0), some (2, true)⟩,
 ⟨some 7, .binOp .leq 5 (.tmp 6) (.const (.int .u8 122)) 5, some (2, true)⟩,
 ⟨some 8, .pick (.tmp 5) (.tmp 7) (.const (.bool false)), none⟩,
 ⟨some 9, .move (.tmp 8), none⟩,
 ⟨some 10, .move (.tmp 0), some (6, false)⟩,
 ⟨some 11, .binOp .geq 5 (.tmp 10) (.const (.int .u8 48)) 5, some (6, false)⟩,
 ⟨some 12, .move (.tmp 11), some (6, false)⟩,
 ⟨some 13, .move (.tmp 0), some (9, true)⟩,
 ⟨some 14, .binOp .leq 5 (.tmp 13) (.const (.int .u8 57)) 5, some (9, true)⟩,
 ⟨some 15, .pick (.tmp 12) (.tmp 14) (.const (.bool false)), some (6, false)⟩,
 ⟨some 16, .pick (.tmp 9) (.const (.bool true)) (.tmp 15), none⟩,
 ⟨some 17, .move (.tmp 16), none⟩,
 ⟨some 18, .move (.tmp 0), some (14, false)⟩,
 ⟨some 19, .binOp .eql 5 (.tmp 18) (.const (.int .u8 95)) 5, some (14, false)⟩,
 ⟨some 20, .pick (.tmp 17) (.const (.bool true)) (.tmp 19), none⟩,
 ⟨some 2, .assign (.tmp 20), none⟩]
def f129_c : LC := (.seq (.reg f129_r0 [] none) (.seq (.reg f129_r1 [] none) .ret))
theorem f129_lc : Tryz.f129.body.map lc = some f129_c.st := by kernel_rfl
theorem f129_res : Tryz.f129.results.toList = [.tmp 2] := by kernel_rfl
theorem f129_nt : Tryz.f129.ntmps = 21 := by kernel_rfl
theorem f129_nm : (Tryz.f129.name == "runtime.NumGoroutine") = false := by kernel_rfl
attribute [go_sem] f39_r0 f39_r1 f39_r2 f39_r3 f39_r4 f39_r5 f39_r6 f39_r7 f39_r8 f39_r9 f39_r10 f39_r11 f39_r12 f39_r13 f39_r14 f39_r15 f39_r16 f39_r17 f39_r18 f39_r19 f39_r20 f39_r21 f39_r22 f39_c f40_r0 f40_r1 f40_r2 f40_r3 f40_c f41_r0 f41_r1 f41_c f43_r0 f43_r1 f43_r2 f43_r3 f43_c f44_r0 f44_r1 f44_c f45_r0 f45_r1 f45_c f46_r0 f46_r1 f46_r2 f46_r3 f46_r4 f46_r5 f46_r6 f46_r7 f46_r8 f46_r9 f46_r10 f46_r11 f46_r12 f46_r13 f46_c f47_r0 f47_r1 f47_r2 f47_r3 f47_r4 f47_r5 f47_r6 f47_l7 f47_i7 f47_r8 f47_c f48_r0 f48_r1 f48_c f49_r0 f49_r1 f49_c f50_r0 f50_r1 f50_r2 f50_r3 f50_r4 f50_r5 f50_r6 f50_l7 f50_i7 f50_r8 f50_c f51_r0 f51_r1 f51_r2 f51_r3 f51_c f52_r0 f52_r1 f52_c f53_r0 f53_r1 f53_c f55_r0 f55_r1 f55_c f56_r0 f56_r1 f56_c f58_r0 f58_r1 f58_c f59_r0 f59_r1 f59_r2 f59_r3 f59_r4 f59_r5 f59_r6 f59_r7 f59_c f60_r0 f60_r1 f60_r2 f60_r3 f60_r4 f60_l5 f60_i5 f60_r6 f60_c f61_r0 f61_r1 f61_l2 f61_i2 f61_c f62_r0 f62_c f63_r0 f63_r1 f63_r2 f63_r3 f63_r4 f63_r5 f63_r6 f63_r7 f63_r8 f63_l9 f63_i9 f63_r10 f63_r11 f63_r12 f63_r13 f63_r14 f63_r15 f63_l16 f63_i16 f63_r17 f63_c f64_r0 f64_r1 f64_r2 f64_r3 f64_r4 f64_r5 f64_r6 f64_r7 f64_r8 f64_l9 f64_i9 f64_r10 f64_c f65_r0 f65_r1 f65_r2 f65_r3 f65_r4 f65_r5 f65_r6 f65_r7 f65_r8 f65_r9 f65_l10 f65_i10 f65_c f66_r0 f66_r1 f66_r2 f66_l3 f66_i3 f66_r4 f66_c f68_r0 f68_r1 f68_c f69_r0 f69_r1 f69_r2 f69_r3 f69_r4 f69_r5 f69_r6 f69_l7 f69_i7 f69_r8 f69_c f70_r0 f70_r1 f70_c f71_r0 f71_r1 f71_r2 f71_r3 f71_r4 f71_r5 f71_r6 f71_l7 f71_i7 f71_r8 f71_c f72_r0 f72_r1 f72_c f74_r0 f74_r1 f74_r2 f74_r3 f74_r4 f74_l5 f74_i5 f74_c f75_r0 f75_r1 f75_c f76_r0 f76_r1 f76_c f77_r0 f77_r1 f77_r2 f77_r3 f77_r4 f77_r5 f77_r6 f77_l7 f77_i7 f77_r8 f77_c f78_r0 f78_r1 f78_r2 f78_r3 f78_r4 f78_r5 f78_r6 f78_l7 f78_i7 f78_c f79_r0 f79_r1 f79_c f80_r0 f80_r1 f80_r2 f80_r3 f80_c f82_r0 f82_r1 f82_r2 f82_r3 f82_r4 f82_r5 f82_r6 f82_l7 f82_i7 f82_r8 f82_c f83_r0 f83_r1 f83_r2 f83_r3 f83_l4 f83_i4 f83_r5 f83_c f84_r0 f84_r1 f84_r2 f84_c f85_r0 f85_r1 f85_r2 f85_r3 f85_r4 f85_a5 f85_b5 f85_r6 f85_c f87_r0 f87_r1 f87_r2 f87_r3 f87_r4 f87_r5 f87_r6 f87_r7 f87_l8 f87_i8 f87_r9 f87_c f88_r0 f88_r1 f88_r2 f88_c f89_r0 f89_r1 f89_r2 f89_r3 f89_c f91_r0 f91_r1 f91_r2 f91_r3 f91_r4 f91_r5 f91_r6 f91_l7 f91_i7 f91_r8 f91_c f92_r0 f92_r1 f92_r2 f92_r3 f92_a4 f92_b4 f92_r5 f92_c f95_r0 f95_r1 f95_r2 f95_r3 f95_r4 f95_r5 f95_r6 f95_l7 f95_i7 f95_r8 f95_c f97_r0 f97_r1 f97_c f99_r0 f99_r1 f99_r2 f99_r3 f99_r4 f99_r5 f99_r6 f99_r7 f99_r8 f99_r9 f99_r10 f99_r11 f99_r12 f99_r13 f99_c f100_r0 f100_r1 f100_r2 f100_c f101_r0 f101_r1 f101_c f102_r0 f102_r1 f102_r2 f102_c f103_r0 f103_r1 f103_r2 f103_r3 f103_r4 f103_r5 f103_r6 f103_r7 f103_r8 f103_r9 f103_r10 f103_r11 f103_r12 f103_r13 f103_r14 f103_r15 f103_r16 f103_r17 f103_r18 f103_r19 f103_l20 f103_i20 f103_r21 f103_r22 f103_r23 f103_r24 f103_r25 f103_r26 f103_l27 f103_i27 f103_r28 f103_r29 f103_r30 f103_r31 f103_r32 f103_r33 f103_l34 f103_i34 f103_r35 f103_c f119_r0 f119_r1 f119_r2 f119_c f120_r0 f120_r1 f120_r2 f120_r3 f120_r4 f120_r5 f120_l6 f120_i6 f120_r7 f120_r8 f120_r9 f120_r10 f120_r11 f120_r12 f120_r13 f120_r14 f120_c f121_r0 f121_r1 f121_r2 f121_r3 f121_l4 f121_i4 f121_c f129_r0 f129_r1 f129_c
end Go.Proofs.YtdliolbjngcgcaaGreat.W
