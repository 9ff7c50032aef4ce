/- Part of a program logic over data: rules of the walk, each proved. -/
import Derived.Test.YtdliolbjngcgcaaGreatDoorGenA
set_option linter.unusedVariables false
set_option linter.unusedSimpArgs false
set_option linter.unusedSectionVars false
set_option maxRecDepth 100000
namespace Go.Proofs.YtdliolbjngcgcaaGreatDoor.W
open Go Go.Proofs Go.Proofs.YtdliolbjngcgcaaGreatDoor.AWP
/-! internal/stringslite.Index -/
def f55_r0 : List LOp := [
  ⟨some 4, .assign (.const (.int .i64 0)), none⟩]
def f55_r1 : List LOp := [
  ⟨some 14, .move (.tmp 1), none⟩,
  ⟨some 15, .call { callee := .builtin .len, args := #[.tmp 14], argTypes := #[9] }, none⟩,
  ⟨some 5, .assign (.tmp 15), none⟩]
def f55_r2 : List LOp := [
  ⟨some 17, .move (.tmp 5), none⟩,
  ⟨some 18, .binOp .eql 3 (.tmp 17) (.const (.int .i64 0)) 3, none⟩,
  ⟨some 19, .move (.tmp 18), none⟩,
  ⟨some 20, .move (.tmp 1), some (2, false)⟩,
  ⟨some 21, .move (.tmp 0), some (2, false)⟩,
  ⟨some 22, .binOp .eql 9 (.tmp 20) (.tmp 21) 9, some (2, false)⟩,
  ⟨some 23, .pick (.tmp 19) (.const (.bool true)) (.tmp 22), none⟩,
  ⟨some 16, .assign (.tmp 23), none⟩]
def f55_r3 : List LOp := [
  ⟨some 4, .assign (.const (.int .i64 0)), none⟩]
def f55_r4 : List LOp := [
  ⟨some 25, .move (.tmp 5), none⟩,
  ⟨some 26, .binOp .eql 3 (.tmp 25) (.const (.int .i64 1)) 3, none⟩,
  ⟨some 24, .assign (.tmp 26), none⟩]
def f55_r5 : List LOp := [
  ⟨some 27, .move (.tmp 0), none⟩,
  ⟨some 28, .move (.tmp 1), none⟩,
  ⟨some 29, .index 9 (.tmp 28) (.const (.int .i64 0)), none⟩,
  ⟨some 30, .call { callee := .value (.func 37), args := #[.tmp 27, .tmp 29], argTypes := #[9, 5] }, none⟩,
  ⟨some 4, .assign (.tmp 30), none⟩]
def f55_r6 : List LOp := [
  ⟨some 32, .move (.tmp 5), none⟩,
  ⟨some 33, .move (.tmp 0), none⟩,
  ⟨some 34, .call { callee := .builtin .len, args := #[.tmp 33], argTypes := #[9] }, none⟩,
  ⟨some 35, .binOp .geq 3 (.tmp 32) (.tmp 34) 3, none⟩,
  ⟨some 31, .assign (.tmp 35), none⟩]
def f55_r7 : List LOp := [
  ⟨some 4, .assign (.const (.int .i64 (-1))), none⟩]
def f55_r8 : List LOp := [
  ⟨some 37, .move (.tmp 5), none⟩,
  ⟨some 38, .load 3 (.global 0), none⟩,
  ⟨some 39, .binOp .leq 3 (.tmp 37) (.tmp 38) 3, none⟩,
  ⟨some 40, .move (.tmp 39), none⟩,
  ⟨some 41, .move (.tmp 0), some (3, true)⟩,
  ⟨some 42, .call { callee := .builtin .len, args := #[.tmp 41], argTypes := #[9] }, some (3, true)⟩,
  ⟨some 43, .binOp .leq 3 (.tmp 42) (.const (.int .i64 64)) 3, some (3, true)⟩,
  ⟨some 44, .pick (.tmp 40) (.tmp 43) (.const (.bool false)), none⟩,
  ⟨some 36, .assign (.tmp 44), none⟩]
def f55_r9 : List LOp := [
  ⟨some 45, .move (.tmp 0), none⟩,
  ⟨some 46, .move (.tmp 1), none⟩,
  ⟨some 47, .call { callee := .value (.func 71), args := #[.tmp 45, .tmp 46], argTypes := #[9, 9] }, none⟩,
  ⟨some 4, .assign (.tmp 47), none⟩]
def f55_r10 : List LOp := [
  ⟨some 48, .move (.tmp 1), none⟩,
  ⟨some 49, .index 9 (.tmp 48) (.const (.int .i64 0)), none⟩,
  ⟨some 6, .assign (.tmp 49), none⟩]
def f55_r11 : List LOp := [
  ⟨some 50, .move (.tmp 1), none⟩,
  ⟨some 51, .index 9 (.tmp 50) (.const (.int .i64 1)), none⟩,
  ⟨some 7, .assign (.tmp 51), none⟩]
def f55_r12 : List LOp := [
  ⟨some 8, .assign (.const (.int .i64 0)), none⟩]
def f55_r13 : List LOp := [
  ⟨some 52, .move (.tmp 0), none⟩,
  ⟨some 53, .call { callee := .builtin .len, args := #[.tmp 52], argTypes := #[9] }, none⟩,
  ⟨some 54, .move (.tmp 5), none⟩,
  ⟨some 55, .binOp .sub 3 (.tmp 53) (.tmp 54) 3, none⟩,
  ⟨some 56, .binOp .add 3 (.tmp 55) (.const (.int .i64 1)) 3, none⟩,
  ⟨some 9, .assign (.tmp 56), none⟩]
def f55_r14 : List LOp := [
  ⟨some 10, .assign (.const (.int .i64 0)), none⟩]
def f55_r15 : List LOp := [
  ⟨some 57, .move (.tmp 8), none⟩,
  ⟨some 58, .move (.tmp 9), none⟩,
  ⟨some 59, .binOp .lss 3 (.tmp 57) (.tmp 58) 3, none⟩]
def f55_r16 : List LOp := [
  ⟨some 60, .move (.tmp 0), none⟩,
  ⟨some 61, .move (.tmp 8), none⟩,
  ⟨some 62, .index 9 (.tmp 60) (.tmp 61), none⟩,
  ⟨some 63, .move (.tmp 6), none⟩,
  ⟨some 64, .binOp .neq 5 (.tmp 62) (.tmp 63) 5, none⟩]
def f55_r17 : List LOp := [
  ⟨some 65, .move (.tmp 0), none⟩,
  ⟨some 66, .move (.tmp 8), none⟩,
  ⟨some 67, .binOp .add 3 (.tmp 66) (.const (.int .i64 1)) 3, none⟩,
  ⟨some 68, .move (.tmp 9), none⟩,
  ⟨some 69, .slice 9 (.tmp 65) (some (.tmp 67)) (some (.tmp 68)) none, none⟩,
  ⟨some 70, .move (.tmp 6), none⟩,
  ⟨some 71, .call { callee := .value (.func 37), args := #[.tmp 69, .tmp 70], argTypes := #[9, 5] }, none⟩,
  ⟨some 11, .assign (.tmp 71), none⟩]
def f55_r18 : List LOp := [
  ⟨some 72, .move (.tmp 11), none⟩,
  ⟨some 73, .binOp .lss 3 (.tmp 72) (.const (.int .i64 0)) 3, none⟩]
def f55_r19 : List LOp := [
  ⟨some 4, .assign (.const (.int .i64 (-1))), none⟩]
def f55_r20 : List LOp := [
  ⟨some 74, .move (.tmp 8), none⟩,
  ⟨some 75, .move (.tmp 11), none⟩,
  ⟨some 76, .binOp .add 3 (.tmp 75) (.const (.int .i64 1)) 3, none⟩,
  ⟨some 77, .binOp .add 3 (.tmp 74) (.tmp 76) 3, none⟩,
  ⟨some 8, .assign (.tmp 77), none⟩]
def f55_r21 : List LOp := [
  ⟨some 78, .move (.tmp 0), none⟩,
  ⟨some 79, .move (.tmp 8), none⟩,
  ⟨some 80, .binOp .add 3 (.tmp 79) (.const (.int .i64 1)) 3, none⟩,
  ⟨some 81, .index 9 (.tmp 78) (.tmp 80), none⟩,
  ⟨some 82, .move (.tmp 7), none⟩,
  ⟨some 83, .binOp .eql 5 (.tmp 81) (.tmp 82) 5, none⟩,
  ⟨some 84, .move (.tmp 83), none⟩,
  ⟨some 85, .move (.tmp 0), some (6, true)⟩,
  ⟨some 86, .move (.tmp 8), some (6, true)⟩,
  ⟨some 87, .move (.tmp 8), some (6, true)⟩,
  ⟨some 88, .move (.tmp 5), some (6, true)⟩,
  ⟨some 89, .binOp .add 3 (.tmp 87) (.tmp 88) 3, some (6, true)⟩,
  ⟨some 90, .slice 9 (.tmp 85) (some (.tmp 86)) (some (.tmp 89)) none, some (6, true)⟩,
  ⟨some 91, .move (.tmp 1), some (6, true)⟩,
  ⟨some 92, .binOp .eql 9 (.tmp 90) (.tmp 91) 9, some (6, true)⟩,
  ⟨some 93, .pick (.tmp 84) (.tmp 92) (.const (.bool false)), none⟩]
def f55_r22 : List LOp := [
  ⟨some 94, .move (.tmp 8), none⟩,
  ⟨some 4, .assign (.tmp 94), none⟩]
def f55_r23 : List LOp := [
  ⟨some 95, .move (.tmp 8), none⟩,
  ⟨some 96, .binOp .add 3 (.tmp 95) (.const (.int .i64 1)) 3, none⟩,
  ⟨some 8, .assign (.tmp 96), none⟩]
def f55_r24 : List LOp := [
  ⟨some 97, .move (.tmp 10), none⟩,
  ⟨some 98, .binOp .add 3 (.tmp 97) (.const (.int .i64 1)) 3, none⟩,
  ⟨some 10, .assign (.tmp 98), none⟩]
def f55_r25 : List LOp := [
  ⟨some 99, .move (.tmp 5), none⟩,
  ⟨some 100, .load 3 (.global 0), none⟩,
  ⟨some 101, .binOp .leq 3 (.tmp 99) (.tmp 100) 3, none⟩,
  ⟨some 102, .move (.tmp 101), none⟩,
  ⟨some 103, .move (.tmp 10), some (3, true)⟩,
  ⟨some 104, .move (.tmp 8), some (3, true)⟩,
  ⟨some 105, .call { callee := .value (.func 72), args := #[.tmp 104], argTypes := #[3] }, some (3, true)⟩,
  ⟨some 106, .binOp .gtr 3 (.tmp 103) (.tmp 105) 3, some (3, true)⟩,
  ⟨some 107, .pick (.tmp 102) (.tmp 106) (.const (.bool false)), none⟩]
def f55_r26 : List LOp := [
  ⟨some 108, .move (.tmp 0), none⟩,
  ⟨some 109, .move (.tmp 8), none⟩,
  ⟨some 110, .slice 9 (.tmp 108) (some (.tmp 109)) none none, none⟩,
  ⟨some 111, .move (.tmp 1), none⟩,
  ⟨some 112, .call { callee := .value (.func 71), args := #[.tmp 110, .tmp 111], argTypes := #[9, 9] }, none⟩,
  ⟨some 12, .assign (.tmp 112), none⟩]
def f55_r27 : List LOp := [
  ⟨some 113, .move (.tmp 12), none⟩,
  ⟨some 114, .binOp .geq 3 (.tmp 113) (.const (.int .i64 0)) 3, none⟩]
def f55_r28 : List LOp := [
  ⟨some 115, .move (.tmp 12), none⟩,
  ⟨some 116, .move (.tmp 8), none⟩,
  ⟨some 117, .binOp .add 3 (.tmp 115) (.tmp 116) 3, none⟩,
  ⟨some 4, .assign (.tmp 117), none⟩]
def f55_r29 : List LOp := [
  ⟨some 4, .assign (.const (.int .i64 (-1))), none⟩]
def f55_r30 : List LOp := [
  ⟨some 118, .move (.tmp 5), none⟩,
  ⟨some 119, .load 3 (.global 0), none⟩,
  ⟨some 120, .binOp .gtr 3 (.tmp 118) (.tmp 119) 3, none⟩,
  ⟨some 121, .move (.tmp 120), none⟩,
  ⟨some 122, .move (.tmp 10), some (3, true)⟩,
  ⟨some 123, .move (.tmp 8), some (3, true)⟩,
  ⟨some 124, .binOp .shr 3 (.tmp 123) (.const (.int .u64 4)) 120, some (3, true)⟩,
  ⟨some 125, .binOp .add 3 (.const (.int .i64 4)) (.tmp 124) 3, some (3, true)⟩,
  ⟨some 126, .binOp .geq 3 (.tmp 122) (.tmp 125) 3, some (3, true)⟩,
  ⟨some 127, .pick (.tmp 121) (.tmp 126) (.const (.bool false)), none⟩,
  ⟨some 128, .move (.tmp 127), none⟩,
  ⟨some 129, .move (.tmp 8), some (10, true)⟩,
  ⟨some 130, .move (.tmp 9), some (10, true)⟩,
  ⟨some 131, .binOp .lss 3 (.tmp 129) (.tmp 130) 3, some (10, true)⟩,
  ⟨some 132, .pick (.tmp 128) (.tmp 131) (.const (.bool false)), none⟩]
def f55_r31 : List LOp := [
  ⟨some 133, .move (.tmp 0), none⟩,
  ⟨some 134, .move (.tmp 8), none⟩,
  ⟨some 135, .slice 9 (.tmp 133) (some (.tmp 134)) none none, none⟩,
  ⟨some 136, .move (.tmp 1), none⟩,
  ⟨some 137, .call { callee := .value (.func 73), args := #[.tmp 135, .tmp 136], argTypes := #[9, 9] }, none⟩,
  ⟨some 13, .assign (.tmp 137), none⟩]
def f55_r32 : List LOp := [
  ⟨some 138, .move (.tmp 13), none⟩,
  ⟨some 139, .binOp .lss 3 (.tmp 138) (.const (.int .i64 0)) 3, none⟩]
def f55_r33 : List LOp := [
  ⟨some 4, .assign (.const (.int .i64 (-1))), none⟩]
def f55_r34 : List LOp := [
  ⟨some 140, .move (.tmp 8), none⟩,
  ⟨some 141, .move (.tmp 13), none⟩,
  ⟨some 142, .binOp .add 3 (.tmp 140) (.tmp 141) 3, none⟩,
  ⟨some 4, .assign (.tmp 142), none⟩]
def f55_l35 : LC := (.seq (.seq (.reg f55_r15 [] none) (.cond (.tmp 59) .skip (.exit 1))) (.block 2 (.seq (.seq (.reg f55_r16 [] none) (.cond (.tmp 64) (.seq (.reg f55_r17 [] none) (.seq (.seq (.reg f55_r18 [] none) (.cond (.tmp 73) (.seq (.reg f55_r19 [] none) .ret) .skip)) (.reg f55_r20 [] none))) .skip)) (.seq (.seq (.reg f55_r21 [] none) (.cond (.tmp 93) (.seq (.reg f55_r22 [] none) .ret) .skip)) (.seq (.reg f55_r23 [] none) (.seq (.reg f55_r24 [] none) (.seq (.reg f55_r25 [] none) (.cond (.tmp 107) (.seq (.reg f55_r26 [] none) (.seq (.seq (.reg f55_r27 [] none) (.cond (.tmp 114) (.seq (.reg f55_r28 [] none) .ret) .skip)) (.seq (.reg f55_r29 [] none) .ret))) (.seq (.reg f55_r30 [] none) (.cond (.tmp 132) (.seq (.reg f55_r31 [] none) (.seq (.seq (.reg f55_r32 [] none) (.cond (.tmp 139) (.seq (.reg f55_r33 [] none) .ret) .skip)) (.seq (.reg f55_r34 [] none) .ret))) .skip))))))))))
def f55_r36 : List LOp := [
  ⟨some 4, .assign (.const (.int .i64 (-1))), none⟩]
def f55_c : LC := (.seq (.reg f55_r0 [] none) (.seq (.reg f55_r1 [] none) (.seq (.block 0 (.seq (.reg f55_r2 [] none) (.cond (.tmp 16) (.seq (.reg f55_r3 [] none) .ret) (.seq (.reg f55_r4 [] none) (.cond (.tmp 24) (.seq (.reg f55_r5 [] none) .ret) (.seq (.reg f55_r6 [] none) (.cond (.tmp 31) (.seq (.reg f55_r7 [] none) .ret) (.seq (.reg f55_r8 [] none) (.cond (.tmp 36) (.seq (.reg f55_r9 [] none) .ret) .skip))))))))) (.seq (.reg f55_r10 [] none) (.seq (.reg f55_r11 [] none) (.seq (.reg f55_r12 [] none) (.seq (.reg f55_r13 [] none) (.seq (.reg f55_r14 [] none) (.seq (.block 1 (.loop f55_l35)) (.seq (.reg f55_r36 [] none) .ret))))))))))
theorem f55_lc : Tryz.f55.body.map lc = some f55_c.st := by kernel_rfl
theorem f55_res : Tryz.f55.results.toList = [.tmp 4] := by kernel_rfl
theorem f55_nt : Tryz.f55.ntmps = 143 := by kernel_rfl
theorem f55_nm : (Tryz.f55.name == "runtime.NumGoroutine") = false := by kernel_rfl
/-! slices.IndexFunc[[]string,string] -/
def f56_r0 : List LOp := [
  ⟨some 4, .assign (.const (.int .i64 0)), none⟩]
def f56_r1 : List LOp := [
  ⟨some 6, .move (.tmp 0), none⟩,
  ⟨some 7, .call { callee := .builtin .len, args := #[.tmp 6], argTypes := #[90] }, none⟩,
  ⟨some 8, .move (.const (.int .i64 0)), none⟩]
def f56_r2 : List LOp := [
  ⟨some 9, .binOp .lss 3 (.tmp 8) (.tmp 7) 3, none⟩]
def f56_r3 : List LOp := [
  ⟨some 10, .move (.tmp 8), none⟩,
  ⟨some 5, .assign (.tmp 10), none⟩]
def f56_r4 : List LOp := [
  ⟨some 11, .move (.tmp 1), none⟩,
  ⟨some 12, .move (.tmp 0), none⟩,
  ⟨some 13, .move (.tmp 5), none⟩,
  ⟨some 14, .indexAddr 90 (.tmp 12) (.tmp 13), none⟩,
  ⟨some 15, .load 9 (.tmp 14), none⟩,
  ⟨some 16, .call { callee := .value (.tmp 11), args := #[.tmp 15], argTypes := #[9] }, none⟩]
def f56_r5 : List LOp := [
  ⟨some 17, .move (.tmp 5), none⟩,
  ⟨some 4, .assign (.tmp 17), none⟩]
def f56_r6 : List LOp := [
  ⟨some 18, .binOp .add 3 (.tmp 8) (.const (.int .i64 1)) 3, none⟩,
  ⟨some 8, .move (.tmp 18), none⟩]
def f56_l7 : LC := (.seq (.reg f56_r2 [] none) (.seq (.cond (.tmp 9) .skip (.exit 0)) (.seq (.block 1 (.seq (.reg f56_r3 [] none) (.seq (.reg f56_r4 [] none) (.cond (.tmp 16) (.seq (.reg f56_r5 [] none) .ret) .skip)))) (.reg f56_r6 [] none))))
def f56_i7 (t0 t1 t7 t8 : D) : List D := [t0, t1, .any, .any, .any, .any, .any, t7, t8, .any, .any, .any, .any, .any, .any, .any, .any, .any, .any]
def f56_r8 : List LOp := [
  ⟨some 4, .assign (.const (.int .i64 (-1))), none⟩]
def f56_c : LC := (.seq (.reg f56_r0 [] none) (.seq (.seq (.reg f56_r1 [] none) (.block 0 (.loop f56_l7))) (.seq (.reg f56_r8 [] none) .ret)))
theorem f56_lc : Tryz.f56.body.map lc = some f56_c.st := by kernel_rfl
theorem f56_res : Tryz.f56.results.toList = [.tmp 4] := by kernel_rfl
theorem f56_nt : Tryz.f56.ntmps = 19 := by kernel_rfl
theorem f56_nm : (Tryz.f56.name == "runtime.NumGoroutine") = false := by kernel_rfl
/-! (*quill/read.reader).whole$1 -/
def f57_r0 : List LOp := [
  ⟨some 6, .call { callee := .builtin .recover, args := #[], argTypes := #[] }, none⟩]
def f57_r1 : List LOp := [
  ⟨some 8, .binOp .eql 20 (.tmp 6) (.const .nilIface) 20, none⟩]
def f57_r2 : List LOp := [
  ⟨some 3, .assign (.tmp 6), none⟩]
def f57_r3 : List LOp := [
  ⟨some 9, .typeAssert (.tmp 6) 20 108 true, none⟩,
  ⟨some 10, .extract (.tmp 9) 1, none⟩,
  ⟨some 11, .extract (.tmp 9) 0, none⟩]
def f57_r4 : List LOp := [
  ⟨some 4, .alloc 108, none⟩,
  ⟨none, .store 108 (.tmp 4) (.tmp 11), none⟩]
def f57_r5 : List LOp := [
  ⟨some 12, .build 52 #[], none⟩,
  ⟨some 13, .fieldAddr 108 (.tmp 4) 0, none⟩,
  ⟨some 14, .load 3 (.tmp 13), none⟩,
  ⟨none, .store 52 (.tmp 0) (.tmp 12), none⟩,
  ⟨none, .store 3 (.tmp 1) (.tmp 14), none⟩,
  ⟨none, .store 24 (.tmp 2) (.const (.int .i64 2)), none⟩]
def f57_r6 : List LOp := [
  ⟨some 5, .assign (.tmp 6), none⟩]
def f57_r7 : List LOp := [
  ⟨some 7, .move (.tmp 5), none⟩,
  ⟨none, .panic (.tmp 7), none⟩]
def f57_c : LC := (.seq (.reg f57_r0 [] none) (.block 0 (.seq (.reg f57_r1 [] none) (.cond (.tmp 8) (.reg f57_r2 [] none) (.seq (.reg f57_r3 [] none) (.cond (.tmp 10) (.seq (.reg f57_r4 [] none) (.regq f57_r5 [] 0 (.both (.op 0 (.both (.op 1 (.both (.op 2 (.op 3 (.op 4 (.op 5 .done)))) (.op 3 (.op 2 (.op 4 (.op 5 .done)))))) (.op 3 (.op 1 (.op 2 (.op 4 (.op 5 .done))))))) (.op 1 (.both (.op 0 (.both (.op 2 (.op 3 (.op 4 (.op 5 .done)))) (.op 3 (.op 2 (.op 4 (.op 5 .done)))))) (.op 2 (.op 0 (.op 3 (.op 4 (.op 5 .done)))))))))) (.seq (.reg f57_r6 [] none) (.reg f57_r7 [] none))))))))
theorem f57_lc : Tryz.f57.body.map lc = some f57_c.st := by kernel_rfl
theorem f57_res : Tryz.f57.results.toList = [] := by kernel_rfl
theorem f57_nt : Tryz.f57.ntmps = 15 := by kernel_rfl
theorem f57_nm : (Tryz.f57.name == "runtime.NumGoroutine") = false := by kernel_rfl
/-! (*quill/read.reader).alt -/
def f58_r0 : List LOp := [
  ⟨some 2, .alloc 52, none⟩]
def f58_r1 : List LOp := [
  ⟨some 4, .move (.tmp 0), none⟩,
  ⟨some 5, .call { callee := .value (.func 74), args := #[.tmp 4], argTypes := #[92] }, none⟩,
  ⟨some 6, .buildSlice 50 1 #[(0, .tmp 5)], none⟩,
  ⟨some 3, .assign (.tmp 6), none⟩]
def f58_r2 : List LOp := [
  ⟨some 7, .move (.tmp 0), none⟩,
  ⟨some 8, .call { callee := .value (.func 75), args := #[.tmp 7, .const (.string { data := #[124] })], argTypes := #[92, 9] }, none⟩]
def f58_r3 : List LOp := [
  ⟨some 9, .move (.tmp 0), none⟩,
  ⟨some 10, .nilCheck (.tmp 9), none⟩,
  ⟨some 11, .fieldAddr 94 (.tmp 10) 1, none⟩,
  ⟨some 12, .load 3 (.tmp 11), none⟩,
  ⟨some 13, .binOp .add 3 (.tmp 12) (.const (.int .i64 1)) 3, none⟩,
  ⟨some 14, .nilCheck (.tmp 9), none⟩,
  ⟨some 15, .fieldAddr 94 (.tmp 14) 1, none⟩,
  ⟨none, .store 3 (.tmp 15) (.tmp 13), none⟩]
def f58_r4 : List LOp := [
  ⟨some 16, .move (.tmp 3), none⟩,
  ⟨some 17, .move (.tmp 0), none⟩,
  ⟨some 18, .call { callee := .value (.func 74), args := #[.tmp 17], argTypes := #[92] }, none⟩,
  ⟨some 19, .buildSlice 50 1 #[(0, .tmp 18)], none⟩,
  ⟨some 20, .call { callee := .builtin .append, args := #[.tmp 16, .tmp 19], argTypes := #[50, 50] }, none⟩,
  ⟨some 3, .assign (.tmp 20), none⟩]
def f58_l5 : LC := (.seq (.seq (.reg f58_r2 [] none) (.cond (.tmp 8) .skip (.exit 0))) (.block 1 (.seq (.reg f58_r3 [] none) (.reg f58_r4 [] none))))
def f58_i5 (t0 t2 t3 : D) : List D := [t0, .any, t2, t3, .any, .any, .any, .any, .any, .any, .any, .any, .any, .any, .any, .any, .any, .any, .any, .any, .any, .any, .any]
def f58_r6 : List LOp := [
  ⟨some 21, .move (.tmp 3), none⟩,
  ⟨some 22, .call { callee := .value (.func 76), args := #[.tmp 21], argTypes := #[50] }, none⟩,
  ⟨none, .store 52 (.tmp 2) (.tmp 22), none⟩]
def f58_c : LC := (.seq (.reg f58_r0 [] none) (.seq (.reg f58_r1 [2] none) (.seq (.block 0 (.loop f58_l5)) (.seq (.reg f58_r6 [] none) .ret))))
theorem f58_lc : Tryz.f58.body.map lc = some f58_c.st := by kernel_rfl
theorem f58_res : Tryz.f58.results.toList = [.cell 2 52] := by kernel_rfl
theorem f58_nt : Tryz.f58.ntmps = 23 := by kernel_rfl
theorem f58_nm : (Tryz.f58.name == "runtime.NumGoroutine") = false := by kernel_rfl
/-! quill/quillref06.begins -/
def f59_r0 : List LOp := [
  ⟨some 4, .assign (.const (.bool false)), none⟩]
def f59_r1 : List LOp := [
  ⟨some 5, .move (.tmp 1), none⟩,
  ⟨some 6, .move (.tmp 0), none⟩,
  ⟨some 7, .call { callee := .builtin .len, args := #[.tmp 6], argTypes := #[9] }, none⟩,
  ⟨some 8, .binOp .lss 3 (.tmp 5) (.tmp 7) 3, none⟩,
  ⟨some 9, .move (.tmp 8), none⟩,
  ⟨some 10, .move (.tmp 0), some (4, true)⟩,
  ⟨some 11, .move (.tmp 1), some (4, true)⟩,
  ⟨some 12, .index 9 (.tmp 10) (.tmp 11), some (4, true)⟩,
  ⟨some 13, .binOp .eql 5 (.tmp 12) (.const (.int .u8 92)) 5, some (4, true)⟩,
  ⟨some 14, .move (.tmp 13), some (4, true)⟩,
  ⟨some 15, .move (.tmp 0), some (9, false)⟩,
  ⟨some 16, .move (.tmp 1), some (9, false)⟩,
  ⟨some 17, .index 9 (.tmp 15) (.tmp 16), some (9, false)⟩,
  ⟨some 18, .call { callee := .value (.func 77), args := #[.tmp 17], argTypes := #[5] }, some (9, false)⟩,
  ⟨some 19, .move (.tmp 0), some (9, false)⟩,
  ⟨some 20, .move (.tmp 1), some (9, false)⟩,
  ⟨some 21, .move (.tmp 1), some (9, false)⟩,
  ⟨some 22, .binOp .add 3 (.tmp 21) (.const (.int .i64 1)) 3, some (9, false)⟩,
  ⟨some 23, .slice 9 (.tmp 19) (some (.tmp 20)) (some (.tmp 22)) none, some (9, false)⟩,
  ⟨some 24, .binOp .eql 9 (.tmp 18) (.tmp 23) 9, some (9, false)⟩,
  ⟨some 25, .pick (.tmp 14) (.const (.bool true)) (.tmp 24), some (4, true)⟩,
  ⟨some 26, .pick (.tmp 9) (.tmp 25) (.const (.bool false)), none⟩,
  ⟨some 4, .assign (.tmp 26), none⟩]
def f59_c : LC := (.seq (.reg f59_r0 [] none) (.seq (.reg f59_r1 [] (some 19)) .ret))
theorem f59_lc : Tryz.f59.body.map lc = some f59_c.st := by kernel_rfl
theorem f59_res : Tryz.f59.results.toList = [.tmp 4] := by kernel_rfl
theorem f59_nt : Tryz.f59.ntmps = 27 := by kernel_rfl
theorem f59_nm : (Tryz.f59.name == "runtime.NumGoroutine") = false := by kernel_rfl
/-! quill/quillref06.atom -/
def f60_r0 : List LOp := [
  ⟨some 4, .alloc 79, none⟩]
def f60_r1 : List LOp := [
  ⟨some 8, .move (.tmp 0), none⟩,
  ⟨some 9, .move (.tmp 1), none⟩,
  ⟨some 10, .call { callee := .value (.func 45), args := #[.tmp 8, .tmp 9, .const (.int .u8 46)], argTypes := #[9, 3, 5] }, none⟩]
def f60_r2 : List LOp := [
  ⟨some 11, .call { callee := .value (.func 79), args := #[.const (.int .i64 0), .const (.int .i64 255)], argTypes := #[3, 3] }, none⟩,
  ⟨some 12, .call { callee := .value (.func 78), args := #[.tmp 11], argTypes := #[49] }, none⟩,
  ⟨some 13, .move (.tmp 1), none⟩,
  ⟨some 14, .binOp .add 3 (.tmp 13) (.const (.int .i64 1)) 3, none⟩,
  ⟨some 15, .build 79 #[(0, .tmp 12), (1, .tmp 14)], none⟩,
  ⟨none, .store 79 (.tmp 4) (.tmp 15), none⟩]
def f60_r3 : List LOp := [
  ⟨some 16, .move (.tmp 0), none⟩,
  ⟨some 17, .move (.tmp 1), none⟩,
  ⟨some 18, .call { callee := .value (.func 45), args := #[.tmp 16, .tmp 17, .const (.int .u8 91)], argTypes := #[9, 3, 5] }, none⟩]
def f60_r4 : List LOp := [
  ⟨some 19, .move (.tmp 0), none⟩,
  ⟨some 20, .move (.tmp 1), none⟩,
  ⟨some 21, .binOp .add 3 (.tmp 20) (.const (.int .i64 1)) 3, none⟩,
  ⟨some 22, .call { callee := .value (.func 80), args := #[.tmp 19, .tmp 21], argTypes := #[9, 3] }, none⟩,
  ⟨none, .store 79 (.tmp 4) (.tmp 22), none⟩]
def f60_r5 : List LOp := [
  ⟨some 23, .move (.tmp 0), none⟩,
  ⟨some 24, .move (.tmp 1), none⟩,
  ⟨some 25, .call { callee := .value (.func 45), args := #[.tmp 23, .tmp 24, .const (.int .u8 40)], argTypes := #[9, 3, 5] }, none⟩]
def f60_r6 : List LOp := [
  ⟨some 26, .move (.tmp 0), none⟩,
  ⟨some 27, .move (.tmp 1), none⟩,
  ⟨some 28, .binOp .add 3 (.tmp 27) (.const (.int .i64 1)) 3, none⟩,
  ⟨some 29, .call { callee := .value (.func 45), args := #[.tmp 26, .tmp 28, .const (.int .u8 41)], argTypes := #[9, 3, 5] }, none⟩]
def f60_r7 : List LOp := [
  ⟨some 30, .call { callee := .value (.func 62), args := #[.const (.int .u8 2)], argTypes := #[5] }, none⟩,
  ⟨some 31, .move (.tmp 1), none⟩,
  ⟨some 32, .binOp .add 3 (.tmp 31) (.const (.int .i64 2)) 3, none⟩,
  ⟨some 33, .build 79 #[(0, .tmp 30), (1, .tmp 32)], none⟩,
  ⟨none, .store 79 (.tmp 4) (.tmp 33), none⟩]
def f60_r8 : List LOp := [
  ⟨some 34, .move (.tmp 0), none⟩,
  ⟨some 35, .move (.tmp 1), none⟩,
  ⟨some 36, .binOp .add 3 (.tmp 35) (.const (.int .i64 1)) 3, none⟩,
  ⟨some 37, .call { callee := .value (.func 31), args := #[.tmp 34, .tmp 36], argTypes := #[9, 3] }, none⟩,
  ⟨some 5, .alloc 79, none⟩,
  ⟨none, .store 79 (.tmp 5) (.tmp 37), none⟩]
def f60_r9 : List LOp := [
  ⟨some 38, .fieldAddr 79 (.tmp 5) 2, none⟩,
  ⟨some 39, .load 4 (.tmp 38), none⟩]
def f60_r10 : List LOp := [
  ⟨some 40, .load 79 (.tmp 5), none⟩,
  ⟨none, .store 79 (.tmp 4) (.tmp 40), none⟩]
def f60_r11 : List LOp := [
  ⟨some 41, .move (.tmp 0), none⟩,
  ⟨some 42, .fieldAddr 79 (.tmp 5) 1, none⟩,
  ⟨some 43, .load 3 (.tmp 42), none⟩,
  ⟨some 44, .call { callee := .value (.func 45), args := #[.tmp 41, .tmp 43, .const (.int .u8 41)], argTypes := #[9, 3, 5] }, none⟩,
  ⟨some 45, .unOp .not 4 (.tmp 44), none⟩]
def f60_r12 : List LOp := [
  ⟨some 46, .fieldAddr 79 (.tmp 5) 1, none⟩,
  ⟨some 47, .load 3 (.tmp 46), none⟩,
  ⟨some 48, .call { callee := .value (.func 81), args := #[.tmp 47], argTypes := #[3] }, none⟩,
  ⟨none, .store 79 (.tmp 4) (.tmp 48), none⟩]
def f60_r13 : List LOp := [
  ⟨some 49, .fieldAddr 79 (.tmp 5) 0, none⟩,
  ⟨some 50, .load 52 (.tmp 49), none⟩,
  ⟨some 51, .fieldAddr 79 (.tmp 5) 1, none⟩,
  ⟨some 52, .load 3 (.tmp 51), none⟩,
  ⟨some 53, .binOp .add 3 (.tmp 52) (.const (.int .i64 1)) 3, none⟩,
  ⟨some 54, .build 79 #[(0, .tmp 50), (1, .tmp 53)], none⟩,
  ⟨none, .store 79 (.tmp 4) (.tmp 54), none⟩]
def f60_r14 : List LOp := [
  ⟨some 56, .move (.tmp 0), none⟩,
  ⟨some 57, .move (.tmp 1), none⟩,
  ⟨some 58, .call { callee := .value (.func 82), args := #[.tmp 56, .tmp 57], argTypes := #[9, 3] }, none⟩,
  ⟨some 55, .move (.tmp 58), none⟩,
  ⟨some 59, .extract (.tmp 55) 0, none⟩,
  ⟨some 60, .extract (.tmp 55) 1, none⟩,
  ⟨some 6, .assign (.tmp 59), none⟩,
  ⟨some 7, .assign (.tmp 60), none⟩]
def f60_r15 : List LOp := [
  ⟨some 61, .move (.tmp 6), none⟩,
  ⟨some 62, .binOp .lss 3 (.tmp 61) (.const (.int .i64 0)) 3, none⟩]
def f60_r16 : List LOp := [
  ⟨some 63, .move (.tmp 7), none⟩,
  ⟨some 64, .call { callee := .value (.func 81), args := #[.tmp 63], argTypes := #[3] }, none⟩,
  ⟨none, .store 79 (.tmp 4) (.tmp 64), none⟩]
def f60_r17 : List LOp := [
  ⟨some 65, .move (.tmp 6), none⟩,
  ⟨some 66, .convert 3 5 (.tmp 65), none⟩,
  ⟨some 67, .buildSlice 61 1 #[(0, .tmp 66)], none⟩,
  ⟨some 68, .call { callee := .value (.func 83), args := #[.tmp 67], argTypes := #[61] }, none⟩,
  ⟨some 69, .call { callee := .value (.func 78), args := #[.tmp 68], argTypes := #[49] }, none⟩,
  ⟨some 70, .move (.tmp 7), none⟩,
  ⟨some 71, .build 79 #[(0, .tmp 69), (1, .tmp 70)], none⟩,
  ⟨none, .store 79 (.tmp 4) (.tmp 71), none⟩]
def f60_c : LC := (.seq (.reg f60_r0 [] none) (.seq (.seq (.reg f60_r1 [] none) (.cond (.tmp 10) (.seq (.reg f60_r2 [] none) .ret) .skip)) (.seq (.seq (.reg f60_r3 [] none) (.cond (.tmp 18) (.seq (.reg f60_r4 [] none) .ret) .skip)) (.seq (.seq (.reg f60_r5 [] none) (.cond (.tmp 25) (.seq (.seq (.reg f60_r6 [] none) (.cond (.tmp 29) (.seq (.reg f60_r7 [] none) .ret) .skip)) (.seq (.reg f60_r8 [] none) (.seq (.seq (.reg f60_r9 [] none) (.cond (.tmp 39) (.seq (.reg f60_r10 [] none) .ret) .skip)) (.seq (.seq (.reg f60_r11 [] none) (.cond (.tmp 45) (.seq (.reg f60_r12 [] none) .ret) .skip)) (.seq (.reg f60_r13 [] none) .ret))))) .skip)) (.seq (.reg f60_r14 [] none) (.seq (.seq (.reg f60_r15 [] none) (.cond (.tmp 62) (.seq (.reg f60_r16 [] none) .ret) .skip)) (.seq (.reg f60_r17 [] none) .ret)))))))
theorem f60_lc : Tryz.f60.body.map lc = some f60_c.st := by kernel_rfl
theorem f60_res : Tryz.f60.results.toList = [.cell 4 79] := by kernel_rfl
theorem f60_nt : Tryz.f60.ntmps = 72 := by kernel_rfl
theorem f60_nm : (Tryz.f60.name == "runtime.NumGoroutine") = false := by kernel_rfl
/-! quill/quillref03.Many -/
def f61_r0 : List LOp := [
  ⟨some 1, .box 52 (.tmp 0), none⟩,
  ⟨some 2, .alloc 52, none⟩]
def f61_r1 : List LOp := [
  ⟨some 3, .load 52 (.tmp 1), none⟩,
  ⟨some 4, .buildSlice 50 1 #[(0, .tmp 3)], none⟩,
  ⟨some 5, .build 52 #[(0, .const (.int .u8 6)), (2, .tmp 4)], none⟩,
  ⟨none, .store 52 (.tmp 2) (.tmp 5), none⟩]
def f61_c : LC := (.seq (.reg f61_r0 [] none) (.seq (.reg f61_r1 [] none) .ret))
theorem f61_lc : Tryz.f61.body.map lc = some f61_c.st := by kernel_rfl
theorem f61_res : Tryz.f61.results.toList = [.cell 2 52] := by kernel_rfl
theorem f61_nt : Tryz.f61.ntmps = 6 := by kernel_rfl
theorem f61_nm : (Tryz.f61.name == "runtime.NumGoroutine") = false := by kernel_rfl
/-! quill/quillref03.Bare -/
def f62_r0 : List LOp := [
  ⟨some 2, .alloc 52, none⟩]
def f62_r1 : List LOp := [
  ⟨some 3, .move (.tmp 0), none⟩,
  ⟨some 4, .build 52 #[(0, .tmp 3)], none⟩,
  ⟨none, .store 52 (.tmp 2) (.tmp 4), none⟩]
def f62_c : LC := (.seq (.reg f62_r0 [] none) (.seq (.reg f62_r1 [] none) .ret))
theorem f62_lc : Tryz.f62.body.map lc = some f62_c.st := by kernel_rfl
theorem f62_res : Tryz.f62.results.toList = [.cell 2 52] := by kernel_rfl
theorem f62_nt : Tryz.f62.ntmps = 5 := by kernel_rfl
theorem f62_nm : (Tryz.f62.name == "runtime.NumGoroutine") = false := by kernel_rfl
/-! quill/quillref03.Two -/
def f63_r0 : List LOp := [
  ⟨some 4, .box 52 (.tmp 1), none⟩,
  ⟨some 5, .box 52 (.tmp 2), none⟩,
  ⟨some 6, .alloc 52, none⟩]
def f63_r1 : List LOp := [
  ⟨some 7, .move (.tmp 0), none⟩,
  ⟨some 8, .load 52 (.tmp 4), none⟩,
  ⟨some 9, .load 52 (.tmp 5), none⟩,
  ⟨some 10, .buildSlice 50 2 #[(0, .tmp 8), (1, .tmp 9)], none⟩,
  ⟨some 11, .build 52 #[(0, .tmp 7), (2, .tmp 10)], none⟩,
  ⟨none, .store 52 (.tmp 6) (.tmp 11), none⟩]
def f63_c : LC := (.seq (.reg f63_r0 [] none) (.seq (.reg f63_r1 [] none) .ret))
theorem f63_lc : Tryz.f63.body.map lc = some f63_c.st := by kernel_rfl
theorem f63_res : Tryz.f63.results.toList = [.cell 6 52] := by kernel_rfl
theorem f63_nt : Tryz.f63.ntmps = 12 := by kernel_rfl
theorem f63_nm : (Tryz.f63.name == "runtime.NumGoroutine") = false := by kernel_rfl
/-! slices.IndexFunc[[]quill/api.Re,quill/api.Re] -/
def f64_r0 : List LOp := [
  ⟨some 4, .assign (.const (.int .i64 0)), none⟩]
def f64_r1 : List LOp := [
  ⟨some 6, .move (.tmp 0), none⟩,
  ⟨some 7, .call { callee := .builtin .len, args := #[.tmp 6], argTypes := #[50] }, none⟩,
  ⟨some 8, .move (.const (.int .i64 0)), none⟩]
def f64_r2 : List LOp := [
  ⟨some 9, .binOp .lss 3 (.tmp 8) (.tmp 7) 3, none⟩]
def f64_r3 : List LOp := [
  ⟨some 10, .move (.tmp 8), none⟩,
  ⟨some 5, .assign (.tmp 10), none⟩]
def f64_r4 : List LOp := [
  ⟨some 11, .move (.tmp 1), none⟩,
  ⟨some 12, .move (.tmp 0), none⟩,
  ⟨some 13, .move (.tmp 5), none⟩,
  ⟨some 14, .indexAddr 50 (.tmp 12) (.tmp 13), none⟩,
  ⟨some 15, .load 52 (.tmp 14), none⟩,
  ⟨some 16, .call { callee := .value (.tmp 11), args := #[.tmp 15], argTypes := #[52] }, none⟩]
def f64_r5 : List LOp := [
  ⟨some 17, .move (.tmp 5), none⟩,
  ⟨some 4, .assign (.tmp 17), none⟩]
def f64_r6 : List LOp := [
  ⟨some 18, .binOp .add 3 (.tmp 8) (.const (.int .i64 1)) 3, none⟩,
  ⟨some 8, .move (.tmp 18), none⟩]
def f64_l7 : LC := (.seq (.reg f64_r2 [] none) (.seq (.cond (.tmp 9) .skip (.exit 0)) (.seq (.block 1 (.seq (.reg f64_r3 [] none) (.seq (.reg f64_r4 [] none) (.cond (.tmp 16) (.seq (.reg f64_r5 [] none) .ret) .skip)))) (.reg f64_r6 [] none))))
def f64_i7 (t0 t1 t7 t8 : D) : List D := [t0, t1, .any, .any, .any, .any, .any, t7, t8, .any, .any, .any, .any, .any, .any, .any, .any, .any, .any]
def f64_r8 : List LOp := [
  ⟨some 4, .assign (.const (.int .i64 (-1))), none⟩]
def f64_c : LC := (.seq (.reg f64_r0 [] none) (.seq (.seq (.reg f64_r1 [] none) (.block 0 (.loop f64_l7))) (.seq (.reg f64_r8 [] none) .ret)))
theorem f64_lc : Tryz.f64.body.map lc = some f64_c.st := by kernel_rfl
theorem f64_res : Tryz.f64.results.toList = [.tmp 4] := by kernel_rfl
theorem f64_nt : Tryz.f64.ntmps = 19 := by kernel_rfl
theorem f64_nm : (Tryz.f64.name == "runtime.NumGoroutine") = false := by kernel_rfl
/-! quill/rex.node -/
def f65_r0 : List LOp := [
  ⟨some 1, .box 52 (.tmp 0), none⟩,
  ⟨some 2, .assign (.const (.bool false)), none⟩]
def f65_r1 : List LOp := [
  ⟨some 5, .fieldAddr 52 (.tmp 1) 2, none⟩,
  ⟨some 6, .load 50 (.tmp 5), none⟩,
  ⟨some 7, .call { callee := .builtin .len, args := #[.tmp 6], argTypes := #[50] }, none⟩,
  ⟨some 8, .fieldAddr 52 (.tmp 1) 1, none⟩,
  ⟨some 9, .load 49 (.tmp 8), none⟩,
  ⟨some 10, .build 49 #[], none⟩,
  ⟨some 11, .binOp .eql 49 (.tmp 9) (.tmp 10) 49, none⟩,
  ⟨some 3, .assign (.tmp 7), none⟩,
  ⟨some 4, .assign (.tmp 11), none⟩]
def f65_r2 : List LOp := [
  ⟨some 12, .fieldAddr 52 (.tmp 1) 0, none⟩,
  ⟨some 13, .load 5 (.tmp 12), none⟩]
def f65_r3 : List LOp := [
  ⟨some 15, .binOp .eql 5 (.tmp 13) (.const (.int .u8 1)) 5, none⟩,
  ⟨some 14, .assign (.tmp 15), none⟩]
def f65_r4 : List LOp := [
  ⟨some 16, .binOp .eql 5 (.tmp 13) (.const (.int .u8 2)) 5, none⟩,
  ⟨some 14, .assign (.tmp 16), none⟩]
def f65_r5 : List LOp := [
  ⟨some 17, .move (.tmp 3), none⟩,
  ⟨some 18, .binOp .eql 3 (.tmp 17) (.const (.int .i64 0)) 3, none⟩,
  ⟨some 19, .move (.tmp 18), none⟩,
  ⟨some 20, .move (.tmp 4), some (2, true)⟩,
  ⟨some 21, .pick (.tmp 19) (.tmp 20) (.const (.bool false)), none⟩,
  ⟨some 2, .assign (.tmp 21), none⟩]
def f65_r6 : List LOp := [
  ⟨some 23, .binOp .eql 5 (.tmp 13) (.const (.int .u8 3)) 5, none⟩,
  ⟨some 22, .assign (.tmp 23), none⟩]
def f65_r7 : List LOp := [
  ⟨some 24, .move (.tmp 3), none⟩,
  ⟨some 25, .binOp .eql 3 (.tmp 24) (.const (.int .i64 0)) 3, none⟩,
  ⟨some 26, .move (.tmp 25), none⟩,
  ⟨some 27, .move (.tmp 4), some (2, true)⟩,
  ⟨some 28, .unOp .not 4 (.tmp 27), some (2, true)⟩,
  ⟨some 29, .pick (.tmp 26) (.tmp 28) (.const (.bool false)), none⟩,
  ⟨some 2, .assign (.tmp 29), none⟩]
def f65_r8 : List LOp := [
  ⟨some 31, .binOp .eql 5 (.tmp 13) (.const (.int .u8 4)) 5, none⟩,
  ⟨some 30, .assign (.tmp 31), none⟩]
def f65_r9 : List LOp := [
  ⟨some 32, .binOp .eql 5 (.tmp 13) (.const (.int .u8 5)) 5, none⟩,
  ⟨some 30, .assign (.tmp 32), none⟩]
def f65_r10 : List LOp := [
  ⟨some 33, .move (.tmp 3), none⟩,
  ⟨some 34, .binOp .eql 3 (.tmp 33) (.const (.int .i64 2)) 3, none⟩,
  ⟨some 35, .move (.tmp 34), none⟩,
  ⟨some 36, .move (.tmp 4), some (2, true)⟩,
  ⟨some 37, .pick (.tmp 35) (.tmp 36) (.const (.bool false)), none⟩,
  ⟨some 2, .assign (.tmp 37), none⟩]
def f65_r11 : List LOp := [
  ⟨some 39, .binOp .eql 5 (.tmp 13) (.const (.int .u8 6)) 5, none⟩,
  ⟨some 38, .assign (.tmp 39), none⟩]
def f65_r12 : List LOp := [
  ⟨some 40, .move (.tmp 3), none⟩,
  ⟨some 41, .binOp .eql 3 (.tmp 40) (.const (.int .i64 1)) 3, none⟩,
  ⟨some 42, .move (.tmp 41), none⟩,
  ⟨some 43, .move (.tmp 4), some (2, true)⟩,
  ⟨some 44, .pick (.tmp 42) (.tmp 43) (.const (.bool false)), none⟩,
  ⟨some 2, .assign (.tmp 44), none⟩]
def f65_r13 : List LOp := [
  ⟨some 2, .assign (.const (.bool false)), none⟩]
def f65_c : LC := (.seq (.reg f65_r0 [] none) (.seq (.regp f65_r1 [] [] 8) (.seq (.seq (.reg f65_r2 [] none) (.block 0 (.seq (.seq (.reg f65_r3 [] none) (.cond (.tmp 14) .skip (.reg f65_r4 [] none))) (.cond (.tmp 14) (.seq (.reg f65_r5 [] none) .ret) (.seq (.reg f65_r6 [] none) (.cond (.tmp 22) (.seq (.reg f65_r7 [] none) .ret) (.seq (.seq (.reg f65_r8 [] none) (.cond (.tmp 30) .skip (.reg f65_r9 [] none))) (.cond (.tmp 30) (.seq (.reg f65_r10 [] none) .ret) (.seq (.reg f65_r11 [] none) (.cond (.tmp 38) (.seq (.reg f65_r12 [] none) .ret) .skip)))))))))) (.seq (.reg f65_r13 [] none) .ret))))
theorem f65_lc : Tryz.f65.body.map lc = some f65_c.st := by kernel_rfl
theorem f65_res : Tryz.f65.results.toList = [.tmp 2] := by kernel_rfl
theorem f65_nt : Tryz.f65.ntmps = 45 := by kernel_rfl
theorem f65_nm : (Tryz.f65.name == "runtime.NumGoroutine") = false := by kernel_rfl
/-! quill/rex.nodes$1 -/
def f66_r0 : List LOp := [
  ⟨some 1, .box 52 (.tmp 0), none⟩,
  ⟨some 2, .assign (.const (.bool false)), none⟩]
def f66_r1 : List LOp := [
  ⟨some 3, .load 52 (.tmp 1), none⟩,
  ⟨some 4, .call { callee := .value (.func 49), args := #[.tmp 3], argTypes := #[52] }, none⟩,
  ⟨some 5, .unOp .not 4 (.tmp 4), none⟩,
  ⟨some 2, .assign (.tmp 5), none⟩]
def f66_c : LC := (.seq (.reg f66_r0 [] none) (.seq (.reg f66_r1 [] none) .ret))
theorem f66_lc : Tryz.f66.body.map lc = some f66_c.st := by kernel_rfl
theorem f66_res : Tryz.f66.results.toList = [.tmp 2] := by kernel_rfl
theorem f66_nt : Tryz.f66.ntmps = 6 := by kernel_rfl
theorem f66_nm : (Tryz.f66.name == "runtime.NumGoroutine") = false := by kernel_rfl
/-! slices.Index[[]uint8,uint8] -/
def f67_r0 : List LOp := [
  ⟨some 4, .assign (.const (.int .i64 0)), none⟩]
def f67_r1 : List LOp := [
  ⟨some 6, .move (.tmp 0), none⟩,
  ⟨some 7, .call { callee := .builtin .len, args := #[.tmp 6], argTypes := #[61] }, none⟩,
  ⟨some 8, .move (.const (.int .i64 0)), none⟩]
def f67_r2 : List LOp := [
  ⟨some 9, .binOp .lss 3 (.tmp 8) (.tmp 7) 3, none⟩]
def f67_r3 : List LOp := [
  ⟨some 10, .move (.tmp 8), none⟩,
  ⟨some 5, .assign (.tmp 10), none⟩]
def f67_r4 : List LOp := [
  ⟨some 11, .move (.tmp 1), none⟩,
  ⟨some 12, .move (.tmp 0), none⟩,
  ⟨some 13, .move (.tmp 5), none⟩,
  ⟨some 14, .indexAddr 61 (.tmp 12) (.tmp 13), none⟩,
  ⟨some 15, .load 5 (.tmp 14), none⟩,
  ⟨some 16, .binOp .eql 5 (.tmp 11) (.tmp 15) 5, none⟩]
def f67_r5 : List LOp := [
  ⟨some 17, .move (.tmp 5), none⟩,
  ⟨some 4, .assign (.tmp 17), none⟩]
def f67_r6 : List LOp := [
  ⟨some 18, .binOp .add 3 (.tmp 8) (.const (.int .i64 1)) 3, none⟩,
  ⟨some 8, .move (.tmp 18), none⟩]
def f67_l7 : LC := (.seq (.reg f67_r2 [] none) (.seq (.cond (.tmp 9) .skip (.exit 0)) (.seq (.block 1 (.seq (.reg f67_r3 [] none) (.seq (.reg f67_r4 [] none) (.cond (.tmp 16) (.seq (.reg f67_r5 [] none) .ret) .skip)))) (.reg f67_r6 [] none))))
def f67_i7 (t0 t1 t7 t8 : D) : List D := [t0, t1, .any, .any, .any, .any, .any, t7, t8, .any, .any, .any, .any, .any, .any, .any, .any, .any, .any]
def f67_r8 : List LOp := [
  ⟨some 4, .assign (.const (.int .i64 (-1))), none⟩]
def f67_c : LC := (.seq (.reg f67_r0 [] none) (.seq (.seq (.reg f67_r1 [] none) (.block 0 (.loop f67_l7))) (.seq (.reg f67_r8 [] none) .ret)))
theorem f67_lc : Tryz.f67.body.map lc = some f67_c.st := by kernel_rfl
theorem f67_res : Tryz.f67.results.toList = [.tmp 4] := by kernel_rfl
theorem f67_nt : Tryz.f67.ntmps = 19 := by kernel_rfl
theorem f67_nm : (Tryz.f67.name == "runtime.NumGoroutine") = false := by kernel_rfl
/-! quill/set.Bytes -/
def f68_r0 : List LOp := [
  ⟨some 1, .box 49 (.tmp 0), none⟩,
  ⟨some 2, .assign (.const (.slice none 0 0)), none⟩]
def f68_r1 : List LOp := [
  ⟨some 3, .assign (.const (.slice none 0 0)), none⟩]
def f68_r2 : List LOp := [
  ⟨some 6, .load 49 (.tmp 1), none⟩,
  ⟨some 7, .move (.const (.int .i64 0)), none⟩]
def f68_r3 : List LOp := [
  ⟨some 8, .binOp .lss 3 (.tmp 7) (.const (.int .i64 4)) 3, none⟩]
def f68_r4 : List LOp := [
  ⟨some 9, .move (.tmp 7), none⟩,
  ⟨some 10, .index 49 (.tmp 6) (.tmp 7), none⟩,
  ⟨some 4, .assign (.tmp 9), none⟩,
  ⟨some 5, .assign (.tmp 10), none⟩]
def f68_r5 : List LOp := [
  ⟨some 11, .move (.tmp 5), none⟩,
  ⟨some 12, .binOp .neq 47 (.tmp 11) (.const (.int .u64 0)) 47, none⟩]
def f68_r6 : List LOp := [
  ⟨some 17, .move (.tmp 3), none⟩,
  ⟨some 18, .move (.tmp 4), none⟩,
  ⟨some 19, .binOp .mul 3 (.const (.int .i64 64)) (.tmp 18) 3, none⟩,
  ⟨some 20, .move (.tmp 5), none⟩,
  ⟨some 21, .call { callee := .value (.func 84), args := #[.tmp 20], argTypes := #[47] }, none⟩,
  ⟨some 22, .binOp .add 3 (.tmp 19) (.tmp 21) 3, none⟩,
  ⟨some 23, .convert 3 5 (.tmp 22), none⟩,
  ⟨some 24, .buildSlice 61 1 #[(0, .tmp 23)], none⟩,
  ⟨some 25, .call { callee := .builtin .append, args := #[.tmp 17, .tmp 24], argTypes := #[61, 61] }, none⟩,
  ⟨some 3, .assign (.tmp 25), none⟩]
def f68_r7 : List LOp := [
  ⟨some 13, .move (.tmp 5), none⟩,
  ⟨some 14, .move (.tmp 5), none⟩,
  ⟨some 15, .binOp .sub 47 (.tmp 14) (.const (.int .u64 1)) 47, none⟩,
  ⟨some 16, .binOp .and 47 (.tmp 13) (.tmp 15) 47, none⟩,
  ⟨some 5, .assign (.tmp 16), none⟩]
def f68_l8 : LC := (.seq (.seq (.reg f68_r5 [] none) (.cond (.tmp 12) .skip (.exit 2))) (.seq (.block 3 (.reg f68_r6 [] none)) (.reg f68_r7 [] none)))
def f68_i8 (t3 t4 t5 t6 t7 : D) : List D := [.any, .any, .any, t3, t4, t5, t6, t7, .any, .any, .any, .any, .any, .any, .any, .any, .any, .any, .any, .any, .any, .any, .any, .any, .any, .any, .any, .any]
def f68_r9 : List LOp := [
  ⟨some 26, .binOp .add 3 (.tmp 7) (.const (.int .i64 1)) 3, none⟩,
  ⟨some 7, .move (.tmp 26), none⟩]
def f68_l10 : LC := (.seq (.reg f68_r3 [] none) (.seq (.cond (.tmp 8) .skip (.exit 0)) (.seq (.block 1 (.seq (.reg f68_r4 [] none) (.block 2 (.loop f68_l8)))) (.reg f68_r9 [] none))))
def f68_i10 (t3 t6 t7 : D) : List D := [.any, .any, .any, t3, .any, .any, t6, t7, .any, .any, .any, .any, .any, .any, .any, .any, .any, .any, .any, .any, .any, .any, .any, .any, .any, .any, .any, .any]
def f68_r11 : List LOp := [
  ⟨some 27, .move (.tmp 3), none⟩,
  ⟨some 2, .assign (.tmp 27), none⟩]
def f68_c : LC := (.seq (.reg f68_r0 [] none) (.seq (.reg f68_r1 [] none) (.seq (.seq (.reg f68_r2 [] none) (.block 0 (.loop f68_l10))) (.seq (.reg f68_r11 [] none) .ret))))
theorem f68_lc : Tryz.f68.body.map lc = some f68_c.st := by kernel_rfl
theorem f68_res : Tryz.f68.results.toList = [.tmp 2] := by kernel_rfl
theorem f68_nt : Tryz.f68.ntmps = 28 := by kernel_rfl
theorem f68_nm : (Tryz.f68.name == "runtime.NumGoroutine") = false := by kernel_rfl
/-! quill/set.all -/
def f69_r0 : List LOp := [
  ⟨some 0, .alloc 49, none⟩]
def f69_r1 : List LOp := [
  ⟨some 1, .build 49 #[(0, .const (.int .u64 18446744073709551615)), (1, .const (.int .u64 18446744073709551615)), (2, .const (.int .u64 18446744073709551615)), (3, .const (.int .u64 18446744073709551615))], none⟩,
  ⟨none, .store 49 (.tmp 0) (.tmp 1), none⟩]
def f69_c : LC := (.seq (.reg f69_r0 [] none) (.seq (.reg f69_r1 [] none) .ret))
theorem f69_lc : Tryz.f69.body.map lc = some f69_c.st := by kernel_rfl
theorem f69_res : Tryz.f69.results.toList = [.cell 0 49] := by kernel_rfl
theorem f69_nt : Tryz.f69.ntmps = 2 := by kernel_rfl
theorem f69_nm : (Tryz.f69.name == "runtime.NumGoroutine") = false := by kernel_rfl
/-! quill/set.Sign -/
def f70_r0 : List LOp := [
  ⟨some 2, .assign (.const (.string { data := #[] })), none⟩]
def f70_r1 : List LOp := [
  ⟨some 3, .move (.tmp 0), none⟩,
  ⟨some 4, .binOp .lss 5 (.tmp 3) (.const (.int .u8 33)) 5, none⟩,
  ⟨some 5, .move (.tmp 4), none⟩,
  ⟨some 6, .move (.tmp 0), some (2, false)⟩,
  ⟨some 7, .binOp .gtr 5 (.tmp 6) (.const (.int .u8 126)) 5, some (2, false)⟩,
  ⟨some 8, .pick (.tmp 5) (.const (.bool true)) (.tmp 7), none⟩,
  ⟨some 9, .move (.tmp 8), none⟩,
  ⟨some 10, .move (.tmp 0), some (6, false)⟩,
  ⟨some 11, .call { callee := .value (.func 25), args := #[.const (.string { data := #[92, 124, 42, 40, 41, 91, 93, 46, 45] }), .tmp 10], argTypes := #[9, 5] }, some (6, false)⟩,
  ⟨some 12, .binOp .geq 3 (.tmp 11) (.const (.int .i64 0)) 3, some (6, false)⟩,
  ⟨some 13, .pick (.tmp 9) (.const (.bool true)) (.tmp 12), none⟩]
def f70_r2 : List LOp := [
  ⟨some 14, .move (.tmp 0), none⟩,
  ⟨some 15, .buildSlice 61 1 #[(0, .tmp 14)], none⟩,
  ⟨some 16, .call { callee := .value (.func 85), args := #[.tmp 15], argTypes := #[61] }, none⟩,
  ⟨some 17, .binOp .add 9 (.const (.string { data := #[92] })) (.tmp 16) 9, none⟩,
  ⟨some 2, .assign (.tmp 17), none⟩]
def f70_r3 : List LOp := [
  ⟨some 18, .move (.tmp 0), none⟩,
  ⟨some 19, .buildSlice 61 1 #[(0, .tmp 18)], none⟩,
  ⟨some 20, .convert 61 9 (.tmp 19), none⟩,
  ⟨some 2, .assign (.tmp 20), none⟩]
def f70_c : LC := (.seq (.reg f70_r0 [] none) (.seq (.seq (.reg f70_r1 [] none) (.cond (.tmp 13) (.seq (.reg f70_r2 [] none) .ret) .skip)) (.seq (.reg f70_r3 [] none) .ret)))
theorem f70_lc : Tryz.f70.body.map lc = some f70_c.st := by kernel_rfl
theorem f70_res : Tryz.f70.results.toList = [.tmp 2] := by kernel_rfl
theorem f70_nt : Tryz.f70.ntmps = 21 := by kernel_rfl
theorem f70_nm : (Tryz.f70.name == "runtime.NumGoroutine") = false := by kernel_rfl
/-! (*quill/read.reader).row -/
def f74_r0 : List LOp := [
  ⟨some 2, .alloc 52, none⟩]
def f74_r1 : List LOp := [
  ⟨some 4, .move (.tmp 0), none⟩,
  ⟨some 5, .call { callee := .value (.func 87), args := #[.tmp 4], argTypes := #[92] }, none⟩,
  ⟨some 6, .buildSlice 50 1 #[(0, .tmp 5)], none⟩,
  ⟨some 3, .assign (.tmp 6), none⟩]
def f74_r2 : List LOp := [
  ⟨some 7, .move (.tmp 0), none⟩,
  ⟨some 8, .call { callee := .value (.func 75), args := #[.tmp 7, .const (.string { data := #[46, 91, 40] })], argTypes := #[92, 9] }, none⟩,
  ⟨some 9, .move (.tmp 8), none⟩,
  ⟨some 10, .move (.tmp 0), some (2, false)⟩,
  ⟨some 11, .call { callee := .value (.func 88), args := #[.tmp 10], argTypes := #[92] }, some (2, false)⟩,
  ⟨some 12, .pick (.tmp 9) (.const (.bool true)) (.tmp 11), none⟩]
def f74_r3 : List LOp := [
  ⟨some 13, .move (.tmp 3), none⟩,
  ⟨some 14, .move (.tmp 0), none⟩,
  ⟨some 15, .call { callee := .value (.func 87), args := #[.tmp 14], argTypes := #[92] }, none⟩,
  ⟨some 16, .buildSlice 50 1 #[(0, .tmp 15)], none⟩,
  ⟨some 17, .call { callee := .builtin .append, args := #[.tmp 13, .tmp 16], argTypes := #[50, 50] }, none⟩,
  ⟨some 3, .assign (.tmp 17), none⟩]
def f74_l4 : LC := (.seq (.seq (.reg f74_r2 [] none) (.cond (.tmp 12) .skip (.exit 0))) (.block 1 (.reg f74_r3 [] none)))
def f74_i4 (t0 t2 t3 : D) : List D := [t0, .any, t2, t3, .any, .any, .any, .any, .any, .any, .any, .any, .any, .any, .any, .any, .any, .any, .any, .any]
def f74_r5 : List LOp := [
  ⟨some 18, .move (.tmp 3), none⟩,
  ⟨some 19, .call { callee := .value (.func 89), args := #[.tmp 18], argTypes := #[50] }, none⟩,
  ⟨none, .store 52 (.tmp 2) (.tmp 19), none⟩]
def f74_c : LC := (.seq (.reg f74_r0 [] none) (.seq (.reg f74_r1 [2] none) (.seq (.block 0 (.loop f74_l4)) (.seq (.reg f74_r5 [] none) .ret))))
theorem f74_lc : Tryz.f74.body.map lc = some f74_c.st := by kernel_rfl
theorem f74_res : Tryz.f74.results.toList = [.cell 2 52] := by kernel_rfl
theorem f74_nt : Tryz.f74.ntmps = 20 := by kernel_rfl
theorem f74_nm : (Tryz.f74.name == "runtime.NumGoroutine") = false := by kernel_rfl
/-! (*quill/read.reader).is -/
def f75_r0 : List LOp := [
  ⟨some 4, .assign (.const (.bool false)), none⟩]
def f75_r1 : List LOp := [
  ⟨some 5, .move (.tmp 0), none⟩,
  ⟨some 6, .nilCheck (.tmp 5), none⟩,
  ⟨some 7, .fieldAddr 94 (.tmp 6) 1, none⟩,
  ⟨some 8, .load 3 (.tmp 7), none⟩,
  ⟨some 9, .move (.tmp 0), none⟩,
  ⟨some 10, .nilCheck (.tmp 9), none⟩,
  ⟨some 11, .fieldAddr 94 (.tmp 10) 0, none⟩,
  ⟨some 12, .load 9 (.tmp 11), none⟩,
  ⟨some 13, .call { callee := .builtin .len, args := #[.tmp 12], argTypes := #[9] }, none⟩,
  ⟨some 14, .binOp .lss 3 (.tmp 8) (.tmp 13) 3, none⟩,
  ⟨some 15, .move (.tmp 14), none⟩,
  ⟨some 16, .move (.tmp 1), some (10, true)⟩,
  ⟨some 17, .move (.tmp 0), some (10, true)⟩,
  ⟨some 18, .nilCheck (.tmp 17), some (10, true)⟩,
  ⟨some 19, .fieldAddr 94 (.tmp 18) 0, some (10, true)⟩,
  ⟨some 20, .load 9 (.tmp 19), some (10, true)⟩,
  ⟨some 21, .move (.tmp 0), some (10, true)⟩,
  ⟨some 22, .nilCheck (.tmp 21), some (10, true)⟩,
  ⟨some 23, .fieldAddr 94 (.tmp 22) 1, some (10, true)⟩,
  ⟨some 24, .load 3 (.tmp 23), some (10, true)⟩,
  ⟨some 25, .index 9 (.tmp 20) (.tmp 24), some (10, true)⟩,
  ⟨some 26, .call { callee := .value (.func 25), args := #[.tmp 16, .tmp 25], argTypes := #[9, 5] }, some (10, true)⟩,
  ⟨some 27, .binOp .geq 3 (.tmp 26) (.const (.int .i64 0)) 3, some (10, true)⟩,
  ⟨some 28, .pick (.tmp 15) (.tmp 27) (.const (.bool false)), none⟩,
  ⟨some 4, .assign (.tmp 28), none⟩]
def f75_c : LC := (.seq (.reg f75_r0 [] none) (.seq (.reg f75_r1 [] (some 24)) .ret))
theorem f75_lc : Tryz.f75.body.map lc = some f75_c.st := by kernel_rfl
theorem f75_res : Tryz.f75.results.toList = [.tmp 4] := by kernel_rfl
theorem f75_nt : Tryz.f75.ntmps = 29 := by kernel_rfl
theorem f75_nm : (Tryz.f75.name == "runtime.NumGoroutine") = false := by kernel_rfl
/-! quill/rex.Or -/
def f76_r0 : List LOp := [
  ⟨some 2, .alloc 52, none⟩]
def f76_r1 : List LOp := [
  ⟨some 3, .move (.tmp 0), none⟩,
  ⟨some 4, .call { callee := .value (.func 90), args := #[.const (.int .u8 5), .const (.int .u8 1), .tmp 3], argTypes := #[5, 5, 50] }, none⟩,
  ⟨none, .store 52 (.tmp 2) (.tmp 4), none⟩]
def f76_c : LC := (.seq (.reg f76_r0 [] none) (.seq (.reg f76_r1 [] none) .ret))
theorem f76_lc : Tryz.f76.body.map lc = some f76_c.st := by kernel_rfl
theorem f76_res : Tryz.f76.results.toList = [.cell 2 52] := by kernel_rfl
theorem f76_nt : Tryz.f76.ntmps = 5 := by kernel_rfl
theorem f76_nm : (Tryz.f76.name == "runtime.NumGoroutine") = false := by kernel_rfl
/-! quill/quillref02.Sign -/
def f77_r0 : List LOp := [
  ⟨some 2, .assign (.const (.string { data := #[] })), none⟩]
def f77_r1 : List LOp := [
  ⟨some 3, .move (.tmp 0), none⟩,
  ⟨some 4, .call { callee := .value (.func 91), args := #[.tmp 3], argTypes := #[5] }, none⟩]
def f77_r2 : List LOp := [
  ⟨some 5, .move (.tmp 0), none⟩,
  ⟨some 6, .buildSlice 61 1 #[(0, .tmp 5)], none⟩,
  ⟨some 7, .call { callee := .value (.func 92), args := #[.tmp 6], argTypes := #[61] }, none⟩,
  ⟨some 8, .binOp .add 9 (.const (.string { data := #[92] })) (.tmp 7) 9, none⟩,
  ⟨some 2, .assign (.tmp 8), none⟩]
def f77_r3 : List LOp := [
  ⟨some 9, .move (.tmp 0), none⟩,
  ⟨some 10, .buildSlice 61 1 #[(0, .tmp 9)], none⟩,
  ⟨some 11, .convert 61 9 (.tmp 10), none⟩,
  ⟨some 2, .assign (.tmp 11), none⟩]
def f77_c : LC := (.seq (.reg f77_r0 [] none) (.seq (.seq (.reg f77_r1 [] none) (.cond (.tmp 4) (.seq (.reg f77_r2 [] none) .ret) .skip)) (.seq (.reg f77_r3 [] none) .ret)))
theorem f77_lc : Tryz.f77.body.map lc = some f77_c.st := by kernel_rfl
theorem f77_res : Tryz.f77.results.toList = [.tmp 2] := by kernel_rfl
theorem f77_nt : Tryz.f77.ntmps = 12 := by kernel_rfl
theorem f77_nm : (Tryz.f77.name == "runtime.NumGoroutine") = false := by kernel_rfl
/-! quill/quillref03.Of -/
def f78_r0 : List LOp := [
  ⟨some 1, .box 49 (.tmp 0), none⟩,
  ⟨some 2, .alloc 52, none⟩]
def f78_r1 : List LOp := [
  ⟨some 3, .load 49 (.tmp 1), none⟩,
  ⟨some 4, .build 49 #[], none⟩,
  ⟨some 5, .binOp .eql 49 (.tmp 3) (.tmp 4) 49, none⟩]
def f78_r2 : List LOp := [
  ⟨some 6, .call { callee := .value (.func 62), args := #[.const (.int .u8 1)], argTypes := #[5] }, none⟩,
  ⟨none, .store 52 (.tmp 2) (.tmp 6), none⟩]
def f78_r3 : List LOp := [
  ⟨some 7, .load 49 (.tmp 1), none⟩,
  ⟨some 8, .build 52 #[(0, .const (.int .u8 3)), (1, .tmp 7)], none⟩,
  ⟨none, .store 52 (.tmp 2) (.tmp 8), none⟩]
def f78_c : LC := (.seq (.reg f78_r0 [] none) (.seq (.seq (.reg f78_r1 [] none) (.cond (.tmp 5) (.seq (.reg f78_r2 [] none) .ret) .skip)) (.seq (.reg f78_r3 [] none) .ret)))
theorem f78_lc : Tryz.f78.body.map lc = some f78_c.st := by kernel_rfl
theorem f78_res : Tryz.f78.results.toList = [.cell 2 52] := by kernel_rfl
theorem f78_nt : Tryz.f78.ntmps = 9 := by kernel_rfl
theorem f78_nm : (Tryz.f78.name == "runtime.NumGoroutine") = false := by kernel_rfl
/-! quill/quillref02.Range -/
def f79_r0 : List LOp := [
  ⟨some 4, .alloc 49, none⟩]
def f79_r1 : List LOp := [
  ⟨some 7, .build 49 #[], none⟩,
  ⟨some 5, .alloc 49, none⟩,
  ⟨none, .store 49 (.tmp 5) (.tmp 7), none⟩]
def f79_r2 : List LOp := [
  ⟨some 8, .move (.tmp 0), none⟩,
  ⟨some 6, .assign (.tmp 8), none⟩]
def f79_r3 : List LOp := [
  ⟨some 9, .move (.tmp 6), none⟩,
  ⟨some 10, .move (.tmp 1), none⟩,
  ⟨some 11, .binOp .leq 3 (.tmp 9) (.tmp 10) 3, none⟩]
def f79_r4 : List LOp := [
  ⟨some 14, .load 49 (.tmp 5), none⟩,
  ⟨some 15, .move (.tmp 6), none⟩,
  ⟨some 16, .call { callee := .value (.func 93), args := #[.tmp 14, .tmp 15], argTypes := #[49, 3] }, none⟩,
  ⟨none, .store 49 (.tmp 5) (.tmp 16), none⟩]
def f79_r5 : List LOp := [
  ⟨some 12, .move (.tmp 6), none⟩,
  ⟨some 13, .binOp .add 3 (.tmp 12) (.const (.int .i64 1)) 3, none⟩,
  ⟨some 6, .assign (.tmp 13), none⟩]
def f79_l6 : LC := (.seq (.seq (.reg f79_r3 [] none) (.cond (.tmp 11) .skip (.exit 0))) (.seq (.block 1 (.reg f79_r4 [] none)) (.reg f79_r5 [] none)))
def f79_i6 (t1 t4 t5 t6 : D) : List D := [.any, t1, .any, .any, t4, t5, t6, .any, .any, .any, .any, .any, .any, .any, .any, .any, .any, .any]
def f79_r7 : List LOp := [
  ⟨some 17, .load 49 (.tmp 5), none⟩,
  ⟨none, .store 49 (.tmp 4) (.tmp 17), none⟩]
def f79_c : LC := (.seq (.reg f79_r0 [] none) (.seq (.reg f79_r1 [] none) (.seq (.seq (.reg f79_r2 [] none) (.block 0 (.loop f79_l6))) (.seq (.reg f79_r7 [] none) .ret))))
theorem f79_lc : Tryz.f79.body.map lc = some f79_c.st := by kernel_rfl
theorem f79_res : Tryz.f79.results.toList = [.cell 4 49] := by kernel_rfl
theorem f79_nt : Tryz.f79.ntmps = 18 := by kernel_rfl
theorem f79_nm : (Tryz.f79.name == "runtime.NumGoroutine") = false := by kernel_rfl
/-! quill/quillref06.class -/
def f80_r0 : List LOp := [
  ⟨some 4, .alloc 79, none⟩]
def f80_r1 : List LOp := [
  ⟨some 11, .build 49 #[], none⟩,
  ⟨some 5, .alloc 49, none⟩,
  ⟨none, .store 49 (.tmp 5) (.tmp 11), none⟩]
def f80_r2 : List LOp := [
  ⟨some 12, .move (.tmp 0), none⟩,
  ⟨some 13, .move (.tmp 1), none⟩,
  ⟨some 14, .call { callee := .value (.func 45), args := #[.tmp 12, .tmp 13, .const (.int .u8 93)], argTypes := #[9, 3, 5] }, none⟩,
  ⟨some 15, .unOp .not 4 (.tmp 14), none⟩]
def f80_r3 : List LOp := [
  ⟨some 17, .move (.tmp 0), none⟩,
  ⟨some 18, .move (.tmp 1), none⟩,
  ⟨some 19, .call { callee := .value (.func 82), args := #[.tmp 17, .tmp 18], argTypes := #[9, 3] }, none⟩,
  ⟨some 16, .move (.tmp 19), none⟩,
  ⟨some 20, .extract (.tmp 16) 0, none⟩,
  ⟨some 21, .extract (.tmp 16) 1, none⟩,
  ⟨some 6, .assign (.tmp 20), none⟩,
  ⟨some 7, .assign (.tmp 21), none⟩]
def f80_r4 : List LOp := [
  ⟨some 22, .move (.tmp 6), none⟩,
  ⟨some 23, .binOp .lss 3 (.tmp 22) (.const (.int .i64 0)) 3, none⟩]
def f80_r5 : List LOp := [
  ⟨some 24, .move (.tmp 7), none⟩,
  ⟨some 25, .call { callee := .value (.func 81), args := #[.tmp 24], argTypes := #[3] }, none⟩,
  ⟨none, .store 79 (.tmp 4) (.tmp 25), none⟩]
def f80_r6 : List LOp := [
  ⟨some 26, .move (.tmp 7), none⟩,
  ⟨some 1, .assign (.tmp 26), none⟩]
def f80_r7 : List LOp := [
  ⟨some 27, .move (.tmp 6), none⟩,
  ⟨some 8, .assign (.tmp 27), none⟩]
def f80_r8 : List LOp := [
  ⟨some 28, .move (.tmp 0), none⟩,
  ⟨some 29, .move (.tmp 1), none⟩,
  ⟨some 30, .call { callee := .value (.func 45), args := #[.tmp 28, .tmp 29, .const (.int .u8 45)], argTypes := #[9, 3, 5] }, none⟩]
def f80_r9 : List LOp := [
  ⟨some 32, .move (.tmp 0), none⟩,
  ⟨some 33, .move (.tmp 1), none⟩,
  ⟨some 34, .binOp .add 3 (.tmp 33) (.const (.int .i64 1)) 3, none⟩,
  ⟨some 35, .call { callee := .value (.func 82), args := #[.tmp 32, .tmp 34], argTypes := #[9, 3] }, none⟩,
  ⟨some 31, .move (.tmp 35), none⟩,
  ⟨some 36, .extract (.tmp 31) 0, none⟩,
  ⟨some 37, .extract (.tmp 31) 1, none⟩,
  ⟨some 9, .assign (.tmp 36), none⟩,
  ⟨some 10, .assign (.tmp 37), none⟩]
def f80_r10 : List LOp := [
  ⟨some 38, .move (.tmp 9), none⟩,
  ⟨some 39, .binOp .lss 3 (.tmp 38) (.const (.int .i64 0)) 3, none⟩]
def f80_r11 : List LOp := [
  ⟨some 40, .move (.tmp 10), none⟩,
  ⟨some 41, .call { callee := .value (.func 81), args := #[.tmp 40], argTypes := #[3] }, none⟩,
  ⟨none, .store 79 (.tmp 4) (.tmp 41), none⟩]
def f80_r12 : List LOp := [
  ⟨some 42, .move (.tmp 9), none⟩,
  ⟨some 43, .move (.tmp 6), none⟩,
  ⟨some 44, .binOp .lss 3 (.tmp 42) (.tmp 43) 3, none⟩]
def f80_r13 : List LOp := [
  ⟨some 45, .move (.tmp 1), none⟩,
  ⟨some 46, .binOp .add 3 (.tmp 45) (.const (.int .i64 1)) 3, none⟩,
  ⟨some 47, .call { callee := .value (.func 81), args := #[.tmp 46], argTypes := #[3] }, none⟩,
  ⟨none, .store 79 (.tmp 4) (.tmp 47), none⟩]
def f80_r14 : List LOp := [
  ⟨some 48, .move (.tmp 9), none⟩,
  ⟨some 8, .assign (.tmp 48), none⟩]
def f80_r15 : List LOp := [
  ⟨some 49, .move (.tmp 10), none⟩,
  ⟨some 1, .assign (.tmp 49), none⟩]
def f80_r16 : List LOp := [
  ⟨some 50, .load 49 (.tmp 5), none⟩,
  ⟨some 51, .move (.tmp 6), none⟩,
  ⟨some 52, .move (.tmp 8), none⟩,
  ⟨some 53, .call { callee := .value (.func 79), args := #[.tmp 51, .tmp 52], argTypes := #[3, 3] }, none⟩,
  ⟨some 54, .call { callee := .value (.func 94), args := #[.tmp 50, .tmp 53], argTypes := #[49, 49] }, none⟩,
  ⟨none, .store 49 (.tmp 5) (.tmp 54), none⟩]
def f80_l17 : LC := (.seq (.seq (.reg f80_r2 [] none) (.cond (.tmp 15) .skip (.exit 0))) (.block 1 (.seq (.reg f80_r3 [] none) (.seq (.seq (.reg f80_r4 [] none) (.cond (.tmp 23) (.seq (.reg f80_r5 [] none) .ret) .skip)) (.seq (.reg f80_r6 [] none) (.seq (.reg f80_r7 [] none) (.seq (.seq (.reg f80_r8 [] none) (.cond (.tmp 30) (.seq (.reg f80_r9 [] none) (.seq (.seq (.reg f80_r10 [] none) (.cond (.tmp 39) (.seq (.reg f80_r11 [] none) .ret) .skip)) (.seq (.seq (.reg f80_r12 [] none) (.cond (.tmp 44) (.seq (.reg f80_r13 [] none) .ret) .skip)) (.seq (.reg f80_r14 [] none) (.reg f80_r15 [] none))))) .skip)) (.reg f80_r16 [] (some 4)))))))))
def f80_i17 (t0 t1 t4 t5 : D) : List D := [t0, t1, .any, .any, t4, t5, .any, .any, .any, .any, .any, .any, .any, .any, .any, .any, .any, .any, .any, .any, .any, .any, .any, .any, .any, .any, .any, .any, .any, .any, .any, .any, .any, .any, .any, .any, .any, .any, .any, .any, .any, .any, .any, .any, .any, .any, .any, .any, .any, .any, .any, .any, .any, .any, .any, .any, .any, .any, .any, .any]
def f80_r18 : List LOp := [
  ⟨some 55, .load 49 (.tmp 5), none⟩,
  ⟨some 56, .call { callee := .value (.func 78), args := #[.tmp 55], argTypes := #[49] }, none⟩,
  ⟨some 57, .move (.tmp 1), none⟩,
  ⟨some 58, .binOp .add 3 (.tmp 57) (.const (.int .i64 1)) 3, none⟩,
  ⟨some 59, .build 79 #[(0, .tmp 56), (1, .tmp 58)], none⟩,
  ⟨none, .store 79 (.tmp 4) (.tmp 59), none⟩]
def f80_c : LC := (.seq (.reg f80_r0 [] none) (.seq (.reg f80_r1 [] none) (.seq (.block 0 (.loop f80_l17)) (.seq (.reg f80_r18 [] none) .ret))))
theorem f80_lc : Tryz.f80.body.map lc = some f80_c.st := by kernel_rfl
theorem f80_res : Tryz.f80.results.toList = [.cell 4 79] := by kernel_rfl
theorem f80_nt : Tryz.f80.ntmps = 60 := by kernel_rfl
theorem f80_nm : (Tryz.f80.name == "runtime.NumGoroutine") = false := by kernel_rfl
/-! quill/quillref06.bad -/
def f81_r0 : List LOp := [
  ⟨some 2, .alloc 79, none⟩]
def f81_r1 : List LOp := [
  ⟨some 3, .move (.tmp 0), none⟩,
  ⟨some 4, .build 79 #[(1, .tmp 3), (2, .const (.bool true))], none⟩,
  ⟨none, .store 79 (.tmp 2) (.tmp 4), none⟩]
def f81_c : LC := (.seq (.reg f81_r0 [] none) (.seq (.reg f81_r1 [] none) .ret))
theorem f81_lc : Tryz.f81.body.map lc = some f81_c.st := by kernel_rfl
theorem f81_res : Tryz.f81.results.toList = [.cell 2 79] := by kernel_rfl
theorem f81_nt : Tryz.f81.ntmps = 5 := by kernel_rfl
theorem f81_nm : (Tryz.f81.name == "runtime.NumGoroutine") = false := by kernel_rfl
/-! quill/quillref06.sign -/
def f82_r0 : List LOp := [
  ⟨some 4, .assign (.const (.int .i64 0)), none⟩,
  ⟨some 5, .assign (.const (.int .i64 0)), none⟩]
def f82_r1 : List LOp := [
  ⟨some 8, .move (.tmp 0), none⟩,
  ⟨some 9, .move (.tmp 1), none⟩,
  ⟨some 10, .call { callee := .value (.func 59), args := #[.tmp 8, .tmp 9], argTypes := #[9, 3] }, none⟩,
  ⟨some 11, .unOp .not 4 (.tmp 10), none⟩]
def f82_r2 : List LOp := [
  ⟨some 12, .move (.tmp 1), none⟩,
  ⟨some 4, .assign (.const (.int .i64 (-1))), none⟩,
  ⟨some 5, .assign (.tmp 12), none⟩]
def f82_r3 : List LOp := [
  ⟨some 13, .move (.tmp 0), none⟩,
  ⟨some 14, .move (.tmp 1), none⟩,
  ⟨some 15, .index 9 (.tmp 13) (.tmp 14), none⟩,
  ⟨some 16, .binOp .neq 5 (.tmp 15) (.const (.int .u8 92)) 5, none⟩]
def f82_r4 : List LOp := [
  ⟨some 17, .move (.tmp 0), none⟩,
  ⟨some 18, .move (.tmp 1), none⟩,
  ⟨some 19, .index 9 (.tmp 17) (.tmp 18), none⟩,
  ⟨some 20, .convert 5 3 (.tmp 19), none⟩,
  ⟨some 21, .move (.tmp 1), none⟩,
  ⟨some 22, .binOp .add 3 (.tmp 21) (.const (.int .i64 1)) 3, none⟩,
  ⟨some 4, .assign (.tmp 20), none⟩,
  ⟨some 5, .assign (.tmp 22), none⟩]
def f82_r5 : List LOp := [
  ⟨some 6, .assign (.const (.int .i64 0)), none⟩]
def f82_r6 : List LOp := [
  ⟨some 7, .assign (.const (.int .i64 1)), none⟩]
def f82_r7 : List LOp := [
  ⟨some 23, .move (.tmp 7), none⟩,
  ⟨some 24, .binOp .leq 3 (.tmp 23) (.const (.int .i64 2)) 3, none⟩]
def f82_r8 : List LOp := [
  ⟨some 27, .move (.tmp 1), none⟩,
  ⟨some 28, .move (.tmp 7), none⟩,
  ⟨some 29, .binOp .add 3 (.tmp 27) (.tmp 28) 3, none⟩,
  ⟨some 30, .move (.tmp 0), none⟩,
  ⟨some 31, .call { callee := .builtin .len, args := #[.tmp 30], argTypes := #[9] }, none⟩,
  ⟨some 32, .binOp .geq 3 (.tmp 29) (.tmp 31) 3, none⟩,
  ⟨some 33, .move (.tmp 32), none⟩,
  ⟨some 34, .move (.tmp 0), some (6, false)⟩,
  ⟨some 35, .move (.tmp 1), some (6, false)⟩,
  ⟨some 36, .move (.tmp 7), some (6, false)⟩,
  ⟨some 37, .binOp .add 3 (.tmp 35) (.tmp 36) 3, some (6, false)⟩,
  ⟨some 38, .index 9 (.tmp 34) (.tmp 37), some (6, false)⟩,
  ⟨some 39, .call { callee := .value (.func 95), args := #[.tmp 38], argTypes := #[5] }, some (6, false)⟩,
  ⟨some 40, .binOp .lss 3 (.tmp 39) (.const (.int .i64 0)) 3, some (6, false)⟩,
  ⟨some 41, .pick (.tmp 33) (.const (.bool true)) (.tmp 40), none⟩]
def f82_r9 : List LOp := [
  ⟨some 42, .move (.tmp 1), none⟩,
  ⟨some 43, .move (.tmp 7), none⟩,
  ⟨some 44, .binOp .add 3 (.tmp 42) (.tmp 43) 3, none⟩,
  ⟨some 4, .assign (.const (.int .i64 (-1))), none⟩,
  ⟨some 5, .assign (.tmp 44), none⟩]
def f82_r10 : List LOp := [
  ⟨some 45, .move (.tmp 6), none⟩,
  ⟨some 46, .binOp .mul 3 (.const (.int .i64 16)) (.tmp 45) 3, none⟩,
  ⟨some 47, .move (.tmp 0), none⟩,
  ⟨some 48, .move (.tmp 1), none⟩,
  ⟨some 49, .move (.tmp 7), none⟩,
  ⟨some 50, .binOp .add 3 (.tmp 48) (.tmp 49) 3, none⟩,
  ⟨some 51, .index 9 (.tmp 47) (.tmp 50), none⟩,
  ⟨some 52, .call { callee := .value (.func 95), args := #[.tmp 51], argTypes := #[5] }, none⟩,
  ⟨some 53, .binOp .add 3 (.tmp 46) (.tmp 52) 3, none⟩,
  ⟨some 6, .assign (.tmp 53), none⟩]
def f82_r11 : List LOp := [
  ⟨some 25, .move (.tmp 7), none⟩,
  ⟨some 26, .binOp .add 3 (.tmp 25) (.const (.int .i64 1)) 3, none⟩,
  ⟨some 7, .assign (.tmp 26), none⟩]
def f82_l12 : LC := (.seq (.seq (.reg f82_r7 [] none) (.cond (.tmp 24) .skip (.exit 0))) (.seq (.block 1 (.seq (.seq (.reg f82_r8 [] none) (.cond (.tmp 41) (.seq (.reg f82_r9 [] none) .ret) .skip)) (.reg f82_r10 [] none))) (.reg f82_r11 [] none)))
def f82_i12 (t0 t1 t6 t7 : D) : List D := [t0, t1, .any, .any, .any, .any, t6, t7, .any, .any, .any, .any, .any, .any, .any, .any, .any, .any, .any, .any, .any, .any, .any, .any, .any, .any, .any, .any, .any, .any, .any, .any, .any, .any, .any, .any, .any, .any, .any, .any, .any, .any, .any, .any, .any, .any, .any, .any, .any, .any, .any, .any, .any, .any, .any, .any, .any]
def f82_r13 : List LOp := [
  ⟨some 54, .move (.tmp 6), none⟩,
  ⟨some 55, .move (.tmp 1), none⟩,
  ⟨some 56, .binOp .add 3 (.tmp 55) (.const (.int .i64 3)) 3, none⟩,
  ⟨some 4, .assign (.tmp 54), none⟩,
  ⟨some 5, .assign (.tmp 56), none⟩]
def f82_c : LC := (.seq (.reg f82_r0 [] none) (.seq (.seq (.reg f82_r1 [] none) (.cond (.tmp 11) (.seq (.reg f82_r2 [] none) .ret) .skip)) (.seq (.seq (.reg f82_r3 [] none) (.cond (.tmp 16) (.seq (.reg f82_r4 [] none) .ret) .skip)) (.seq (.reg f82_r5 [] none) (.seq (.seq (.reg f82_r6 [] none) (.block 0 (.loop f82_l12))) (.seq (.reg f82_r13 [] none) .ret))))))
theorem f82_lc : Tryz.f82.body.map lc = some f82_c.st := by kernel_rfl
theorem f82_res : Tryz.f82.results.toList = [.tmp 4, .tmp 5] := by kernel_rfl
theorem f82_nt : Tryz.f82.ntmps = 57 := by kernel_rfl
theorem f82_nm : (Tryz.f82.name == "runtime.NumGoroutine") = false := by kernel_rfl
/-! quill/quillref02.Of -/
def f83_r0 : List LOp := [
  ⟨some 2, .alloc 49, none⟩]
def f83_r1 : List LOp := [
  ⟨some 5, .build 49 #[], none⟩,
  ⟨some 3, .alloc 49, none⟩,
  ⟨none, .store 49 (.tmp 3) (.tmp 5), none⟩]
def f83_r2 : List LOp := [
  ⟨some 6, .move (.tmp 0), none⟩,
  ⟨some 7, .call { callee := .builtin .len, args := #[.tmp 6], argTypes := #[61] }, none⟩,
  ⟨some 8, .move (.const (.int .i64 0)), none⟩]
def f83_r3 : List LOp := [
  ⟨some 9, .binOp .lss 3 (.tmp 8) (.tmp 7) 3, none⟩]
def f83_r4 : List LOp := [
  ⟨some 10, .move (.tmp 8), none⟩,
  ⟨some 4, .assign (.tmp 10), none⟩]
def f83_r5 : List LOp := [
  ⟨some 11, .load 49 (.tmp 3), none⟩,
  ⟨some 12, .move (.tmp 0), none⟩,
  ⟨some 13, .move (.tmp 4), none⟩,
  ⟨some 14, .indexAddr 61 (.tmp 12) (.tmp 13), none⟩,
  ⟨some 15, .load 5 (.tmp 14), none⟩,
  ⟨some 16, .convert 5 3 (.tmp 15), none⟩,
  ⟨some 17, .call { callee := .value (.func 93), args := #[.tmp 11, .tmp 16], argTypes := #[49, 3] }, none⟩,
  ⟨none, .store 49 (.tmp 3) (.tmp 17), none⟩]
def f83_r6 : List LOp := [
  ⟨some 18, .binOp .add 3 (.tmp 8) (.const (.int .i64 1)) 3, none⟩,
  ⟨some 8, .move (.tmp 18), none⟩]
def f83_l7 : LC := (.seq (.reg f83_r3 [] none) (.seq (.cond (.tmp 9) .skip (.exit 0)) (.seq (.block 1 (.seq (.reg f83_r4 [] none) (.reg f83_r5 [] (some 6)))) (.reg f83_r6 [] none))))
def f83_i7 (t0 t2 t3 t7 t8 : D) : List D := [t0, .any, t2, t3, .any, .any, .any, t7, t8, .any, .any, .any, .any, .any, .any, .any, .any, .any, .any, .any]
def f83_r8 : List LOp := [
  ⟨some 19, .load 49 (.tmp 3), none⟩,
  ⟨none, .store 49 (.tmp 2) (.tmp 19), none⟩]
def f83_c : LC := (.seq (.reg f83_r0 [] none) (.seq (.reg f83_r1 [] none) (.seq (.seq (.reg f83_r2 [] none) (.block 0 (.loop f83_l7))) (.seq (.reg f83_r8 [] none) .ret))))
theorem f83_lc : Tryz.f83.body.map lc = some f83_c.st := by kernel_rfl
theorem f83_res : Tryz.f83.results.toList = [.cell 2 49] := by kernel_rfl
theorem f83_nt : Tryz.f83.ntmps = 20 := by kernel_rfl
theorem f83_nm : (Tryz.f83.name == "runtime.NumGoroutine") = false := by kernel_rfl
/-! math/bits.TrailingZeros64 -/
def f84_r0 : List LOp := [
  ⟨some 2, .assign (.const (.int .i64 0)), none⟩]
def f84_r1 : List LOp := [
  ⟨some 3, .move (.tmp 0), none⟩,
  ⟨some 4, .binOp .eql 47 (.tmp 3) (.const (.int .u64 0)) 47, none⟩]
def f84_r2 : List LOp := [
  ⟨some 2, .assign (.const (.int .i64 64)), none⟩]
def f84_r3 : List LOp := [
  ⟨some 5, .move (.tmp 0), none⟩,
  ⟨some 6, .move (.tmp 0), none⟩,
  ⟨some 7, .unOp .neg 47 (.tmp 6), none⟩,
  ⟨some 8, .binOp .and 47 (.tmp 5) (.tmp 7) 47, none⟩,
  ⟨some 9, .binOp .mul 47 (.tmp 8) (.const (.int .u64 285870213051353865)) 47, none⟩,
  ⟨some 10, .binOp .shr 47 (.tmp 9) (.const (.int .u64 58)) 120, none⟩,
  ⟨some 11, .indexAddr 139 (.global 1) (.tmp 10), none⟩,
  ⟨some 12, .load 5 (.tmp 11), none⟩,
  ⟨some 13, .convert 5 3 (.tmp 12), none⟩,
  ⟨some 2, .assign (.tmp 13), none⟩]
def f84_c : LC := (.seq (.reg f84_r0 [] none) (.seq (.seq (.reg f84_r1 [] none) (.cond (.tmp 4) (.seq (.reg f84_r2 [] none) .ret) .skip)) (.seq (.reg f84_r3 [] none) .ret)))
theorem f84_lc : Tryz.f84.body.map lc = some f84_c.st := by kernel_rfl
theorem f84_res : Tryz.f84.results.toList = [.tmp 2] := by kernel_rfl
theorem f84_nt : Tryz.f84.ntmps = 14 := by kernel_rfl
theorem f84_nm : (Tryz.f84.name == "runtime.NumGoroutine") = false := by kernel_rfl
/-! quill/num.Hex -/
def f85_r0 : List LOp := [
  ⟨some 2, .assign (.const (.string { data := #[] })), none⟩]
def f85_r1 : List LOp := [
  ⟨some 6, .move (.tmp 0), none⟩,
  ⟨some 7, .call { callee := .builtin .len, args := #[.tmp 6], argTypes := #[61] }, none⟩,
  ⟨some 8, .binOp .mul 3 (.const (.int .i64 2)) (.tmp 7) 3, none⟩,
  ⟨some 9, .makeSlice 61 (.const (.int .i64 0)) (.tmp 8), none⟩,
  ⟨some 3, .assign (.tmp 9), none⟩]
def f85_r2 : List LOp := [
  ⟨some 10, .move (.tmp 0), none⟩,
  ⟨some 11, .call { callee := .builtin .len, args := #[.tmp 10], argTypes := #[61] }, none⟩,
  ⟨some 12, .move (.const (.int .i64 0)), none⟩]
def f85_r3 : List LOp := [
  ⟨some 13, .binOp .lss 3 (.tmp 12) (.tmp 11) 3, none⟩]
def f85_r4 : List LOp := [
  ⟨some 14, .indexAddr 61 (.tmp 10) (.tmp 12), none⟩,
  ⟨some 15, .load 5 (.tmp 14), none⟩,
  ⟨some 5, .assign (.tmp 15), none⟩]
def f85_r5 : List LOp := [
  ⟨some 16, .move (.tmp 3), none⟩,
  ⟨some 17, .move (.tmp 5), none⟩,
  ⟨some 18, .binOp .shr 5 (.tmp 17) (.const (.int .u64 4)) 120, none⟩,
  ⟨some 19, .call { callee := .value (.func 96), args := #[.tmp 18], argTypes := #[5] }, none⟩,
  ⟨some 20, .move (.tmp 5), none⟩,
  ⟨some 21, .call { callee := .value (.func 96), args := #[.tmp 20], argTypes := #[5] }, none⟩,
  ⟨some 22, .buildSlice 61 2 #[(0, .tmp 19), (1, .tmp 21)], none⟩,
  ⟨some 23, .call { callee := .builtin .append, args := #[.tmp 16, .tmp 22], argTypes := #[61, 61] }, none⟩,
  ⟨some 3, .assign (.tmp 23), none⟩]
def f85_r6 : List LOp := [
  ⟨some 24, .binOp .add 3 (.tmp 12) (.const (.int .i64 1)) 3, none⟩,
  ⟨some 12, .move (.tmp 24), none⟩]
def f85_l7 : LC := (.seq (.reg f85_r3 [] none) (.seq (.cond (.tmp 13) .skip (.exit 0)) (.seq (.block 1 (.seq (.reg f85_r4 [] none) (.reg f85_r5 [] none))) (.reg f85_r6 [] none))))
def f85_i7 (t3 t10 t11 t12 : D) : List D := [.any, .any, .any, t3, .any, .any, .any, .any, .any, .any, t10, t11, t12, .any, .any, .any, .any, .any, .any, .any, .any, .any, .any, .any, .any, .any, .any]
def f85_r8 : List LOp := [
  ⟨some 25, .move (.tmp 3), none⟩,
  ⟨some 26, .convert 61 9 (.tmp 25), none⟩,
  ⟨some 2, .assign (.tmp 26), none⟩]
def f85_c : LC := (.seq (.reg f85_r0 [] none) (.seq (.reg f85_r1 [3] none) (.seq (.seq (.reg f85_r2 [] none) (.block 0 (.loop f85_l7))) (.seq (.reg f85_r8 [] none) .ret))))
theorem f85_lc : Tryz.f85.body.map lc = some f85_c.st := by kernel_rfl
theorem f85_res : Tryz.f85.results.toList = [.tmp 2] := by kernel_rfl
theorem f85_nt : Tryz.f85.ntmps = 27 := by kernel_rfl
theorem f85_nm : (Tryz.f85.name == "runtime.NumGoroutine") = false := by kernel_rfl
/-! (*quill/read.reader).part -/
def f87_r0 : List LOp := [
  ⟨some 2, .alloc 52, none⟩]
def f87_r1 : List LOp := [
  ⟨some 4, .move (.tmp 0), none⟩,
  ⟨some 5, .call { callee := .value (.func 97), args := #[.tmp 4], argTypes := #[92] }, none⟩,
  ⟨some 3, .alloc 52, none⟩,
  ⟨none, .store 52 (.tmp 3) (.tmp 5), none⟩]
def f87_r2 : List LOp := [
  ⟨some 6, .move (.tmp 0), none⟩,
  ⟨some 7, .call { callee := .value (.func 75), args := #[.tmp 6, .const (.string { data := #[42] })], argTypes := #[92, 9] }, none⟩]
def f87_r3 : List LOp := [
  ⟨some 8, .move (.tmp 0), none⟩,
  ⟨some 9, .nilCheck (.tmp 8), none⟩,
  ⟨some 10, .fieldAddr 94 (.tmp 9) 1, none⟩,
  ⟨some 11, .load 3 (.tmp 10), none⟩,
  ⟨some 12, .binOp .add 3 (.tmp 11) (.const (.int .i64 1)) 3, none⟩,
  ⟨some 13, .nilCheck (.tmp 8), none⟩,
  ⟨some 14, .fieldAddr 94 (.tmp 13) 1, none⟩,
  ⟨none, .store 3 (.tmp 14) (.tmp 12), none⟩]
def f87_r4 : List LOp := [
  ⟨some 15, .load 52 (.tmp 3), none⟩,
  ⟨some 16, .call { callee := .value (.func 98), args := #[.tmp 15], argTypes := #[52] }, none⟩,
  ⟨none, .store 52 (.tmp 3) (.tmp 16), none⟩]
def f87_l5 : LC := (.seq (.seq (.reg f87_r2 [] none) (.cond (.tmp 7) .skip (.exit 0))) (.block 1 (.seq (.reg f87_r3 [] none) (.reg f87_r4 [] none))))
def f87_i5 (t0 t2 t3 : D) : List D := [t0, .any, t2, t3, .any, .any, .any, .any, .any, .any, .any, .any, .any, .any, .any, .any, .any, .any]
def f87_r6 : List LOp := [
  ⟨some 17, .load 52 (.tmp 3), none⟩,
  ⟨none, .store 52 (.tmp 2) (.tmp 17), none⟩]
def f87_c : LC := (.seq (.reg f87_r0 [] none) (.seq (.reg f87_r1 [] none) (.seq (.block 0 (.loop f87_l5)) (.seq (.reg f87_r6 [] none) .ret))))
theorem f87_lc : Tryz.f87.body.map lc = some f87_c.st := by kernel_rfl
theorem f87_res : Tryz.f87.results.toList = [.cell 2 52] := by kernel_rfl
theorem f87_nt : Tryz.f87.ntmps = 18 := by kernel_rfl
theorem f87_nm : (Tryz.f87.name == "runtime.NumGoroutine") = false := by kernel_rfl
/-! (*quill/read.reader).begins -/
def f88_r0 : List LOp := [
  ⟨some 2, .assign (.const (.bool false)), none⟩]
def f88_r1 : List LOp := [
  ⟨some 3, .move (.tmp 0), none⟩,
  ⟨some 4, .call { callee := .value (.func 75), args := #[.tmp 3, .const (.string { data := #[92] })], argTypes := #[92, 9] }, none⟩,
  ⟨some 5, .move (.tmp 4), none⟩,
  ⟨some 6, .move (.tmp 0), some (2, false)⟩,
  ⟨some 7, .nilCheck (.tmp 6), some (2, false)⟩,
  ⟨some 8, .fieldAddr 94 (.tmp 7) 1, some (2, false)⟩,
  ⟨some 9, .load 3 (.tmp 8), some (2, false)⟩,
  ⟨some 10, .move (.tmp 0), some (2, false)⟩,
  ⟨some 11, .nilCheck (.tmp 10), some (2, false)⟩,
  ⟨some 12, .fieldAddr 94 (.tmp 11) 0, some (2, false)⟩,
  ⟨some 13, .load 9 (.tmp 12), some (2, false)⟩,
  ⟨some 14, .call { callee := .builtin .len, args := #[.tmp 13], argTypes := #[9] }, some (2, false)⟩,
  ⟨some 15, .binOp .lss 3 (.tmp 9) (.tmp 14) 3, some (2, false)⟩,
  ⟨some 16, .move (.tmp 15), some (2, false)⟩,
  ⟨some 17, .move (.tmp 0), some (13, true)⟩,
  ⟨some 18, .nilCheck (.tmp 17), some (13, true)⟩,
  ⟨some 19, .fieldAddr 94 (.tmp 18) 0, some (13, true)⟩,
  ⟨some 20, .load 9 (.tmp 19), some (13, true)⟩,
  ⟨some 21, .move (.tmp 0), some (13, true)⟩,
  ⟨some 22, .nilCheck (.tmp 21), some (13, true)⟩,
  ⟨some 23, .fieldAddr 94 (.tmp 22) 1, some (13, true)⟩,
  ⟨some 24, .load 3 (.tmp 23), some (13, true)⟩,
  ⟨some 25, .index 9 (.tmp 20) (.tmp 24), some (13, true)⟩,
  ⟨some 26, .call { callee := .value (.func 70), args := #[.tmp 25], argTypes := #[5] }, some (13, true)⟩,
  ⟨some 27, .move (.tmp 0), some (13, true)⟩,
  ⟨some 28, .nilCheck (.tmp 27), some (13, true)⟩,
  ⟨some 29, .fieldAddr 94 (.tmp 28) 0, some (13, true)⟩,
  ⟨some 30, .load 9 (.tmp 29), some (13, true)⟩,
  ⟨some 31, .move (.tmp 0), some (13, true)⟩,
  ⟨some 32, .nilCheck (.tmp 31), some (13, true)⟩,
  ⟨some 33, .fieldAddr 94 (.tmp 32) 1, some (13, true)⟩,
  ⟨some 34, .load 3 (.tmp 33), some (13, true)⟩,
  ⟨some 35, .move (.tmp 0), some (13, true)⟩,
  ⟨some 36, .nilCheck (.tmp 35), some (13, true)⟩,
  ⟨some 37, .fieldAddr 94 (.tmp 36) 1, some (13, true)⟩,
  ⟨some 38, .load 3 (.tmp 37), some (13, true)⟩,
  ⟨some 39, .binOp .add 3 (.tmp 38) (.const (.int .i64 1)) 3, some (13, true)⟩,
  ⟨some 40, .slice 9 (.tmp 30) (some (.tmp 34)) (some (.tmp 39)) none, some (13, true)⟩,
  ⟨some 41, .binOp .eql 9 (.tmp 26) (.tmp 40) 9, some (13, true)⟩,
  ⟨some 42, .pick (.tmp 16) (.tmp 41) (.const (.bool false)), some (2, false)⟩,
  ⟨some 43, .pick (.tmp 5) (.const (.bool true)) (.tmp 42), none⟩,
  ⟨some 2, .assign (.tmp 43), none⟩]
def f88_c : LC := (.seq (.reg f88_r0 [] none) (.seq (.reg f88_r1 [] (some 41)) .ret))
theorem f88_lc : Tryz.f88.body.map lc = some f88_c.st := by kernel_rfl
theorem f88_res : Tryz.f88.results.toList = [.tmp 2] := by kernel_rfl
theorem f88_nt : Tryz.f88.ntmps = 44 := by kernel_rfl
theorem f88_nm : (Tryz.f88.name == "runtime.NumGoroutine") = false := by kernel_rfl
/-! quill/rex.Then -/
def f89_r0 : List LOp := [
  ⟨some 2, .alloc 52, none⟩]
def f89_r1 : List LOp := [
  ⟨some 3, .move (.tmp 0), none⟩,
  ⟨some 4, .call { callee := .value (.func 90), args := #[.const (.int .u8 4), .const (.int .u8 2), .tmp 3], argTypes := #[5, 5, 50] }, none⟩,
  ⟨none, .store 52 (.tmp 2) (.tmp 4), none⟩]
def f89_c : LC := (.seq (.reg f89_r0 [] none) (.seq (.reg f89_r1 [] none) .ret))
theorem f89_lc : Tryz.f89.body.map lc = some f89_c.st := by kernel_rfl
theorem f89_res : Tryz.f89.results.toList = [.cell 2 52] := by kernel_rfl
theorem f89_nt : Tryz.f89.ntmps = 5 := by kernel_rfl
theorem f89_nm : (Tryz.f89.name == "runtime.NumGoroutine") = false := by kernel_rfl
/-! quill/rex.fold -/
def f90_r0 : List LOp := [
  ⟨some 3, .box 5 (.tmp 0), none⟩,
  ⟨some 6, .alloc 52, none⟩]
def f90_r1 : List LOp := [
  ⟨some 10, .move (.tmp 2), none⟩,
  ⟨some 11, .call { callee := .builtin .len, args := #[.tmp 10], argTypes := #[50] }, none⟩,
  ⟨some 12, .binOp .eql 3 (.tmp 11) (.const (.int .i64 0)) 3, none⟩]
def f90_r2 : List LOp := [
  ⟨some 13, .move (.tmp 1), none⟩,
  ⟨some 14, .build 52 #[(0, .tmp 13)], none⟩,
  ⟨none, .store 52 (.tmp 6) (.tmp 14), none⟩]
def f90_r3 : List LOp := [
  ⟨some 15, .move (.tmp 2), none⟩,
  ⟨some 16, .move (.tmp 2), none⟩,
  ⟨some 17, .call { callee := .builtin .len, args := #[.tmp 16], argTypes := #[50] }, none⟩,
  ⟨some 18, .binOp .sub 3 (.tmp 17) (.const (.int .i64 1)) 3, none⟩,
  ⟨some 19, .indexAddr 50 (.tmp 15) (.tmp 18), none⟩,
  ⟨some 20, .load 52 (.tmp 19), none⟩,
  ⟨some 7, .alloc 52, none⟩,
  ⟨none, .store 52 (.tmp 7) (.tmp 20), none⟩]
def f90_r4 : List LOp := [
  ⟨some 21, .move (.tmp 2), none⟩,
  ⟨some 22, .move (.tmp 2), none⟩,
  ⟨some 23, .call { callee := .builtin .len, args := #[.tmp 22], argTypes := #[50] }, none⟩,
  ⟨some 24, .binOp .sub 3 (.tmp 23) (.const (.int .i64 1)) 3, none⟩,
  ⟨some 25, .slice 50 (.tmp 21) none (some (.tmp 24)) none, none⟩,
  ⟨some 26, .call { callee := .value (.func 99), args := #[.tmp 25], argTypes := #[50] }, none⟩]
def f90_r5 : List LOp := [
  ⟨some 9, .alloc 52, none⟩,
  ⟨none, .store 52 (.tmp 9) (.tmp 28), none⟩]
def f90_r6 : List LOp := [
  ⟨some 29, .load 5 (.tmp 3), none⟩,
  ⟨some 30, .load 52 (.tmp 9), none⟩,
  ⟨some 31, .load 52 (.tmp 7), none⟩,
  ⟨some 32, .buildSlice 50 2 #[(0, .tmp 30), (1, .tmp 31)], none⟩,
  ⟨some 33, .build 52 #[(0, .tmp 29), (2, .tmp 32)], none⟩,
  ⟨none, .store 52 (.tmp 7) (.tmp 33), none⟩]
def f90_a7 : LC := (.reg f90_r5 [] none)
def f90_b7 : LC := (.block 1 (.reg f90_r6 [] none))
def f90_r8 : List LOp := [
  ⟨some 34, .load 52 (.tmp 7), none⟩,
  ⟨none, .store 52 (.tmp 6) (.tmp 34), none⟩]
def f90_c : LC := (.seq (.reg f90_r0 [] none) (.seq (.seq (.reg f90_r1 [] none) (.cond (.tmp 12) (.seq (.reg f90_r2 [] none) .ret) .skip)) (.seq (.reg f90_r3 [] none) (.seq (.seq (.reg f90_r4 [] none) (.block 0 (.rfun (.tmp 26) [27, 28] f90_a7 f90_b7))) (.seq (.reg f90_r8 [] none) .ret)))))
theorem f90_lc : Tryz.f90.body.map lc = some f90_c.st := by kernel_rfl
theorem f90_res : Tryz.f90.results.toList = [.cell 6 52] := by kernel_rfl
theorem f90_nt : Tryz.f90.ntmps = 35 := by kernel_rfl
theorem f90_nm : (Tryz.f90.name == "runtime.NumGoroutine") = false := by kernel_rfl
/-! quill/quillref02.special -/
def f91_r0 : List LOp := [
  ⟨some 2, .assign (.const (.bool false)), none⟩]
def f91_r1 : List LOp := [
  ⟨some 3, .assign (.const (.string { data := #[92, 124, 42, 40, 41, 91, 93, 46, 45] })), none⟩]
def f91_r2 : List LOp := [
  ⟨some 4, .assign (.const (.int .i64 0)), none⟩]
def f91_r3 : List LOp := [
  ⟨some 5, .move (.tmp 4), none⟩,
  ⟨some 6, .move (.tmp 3), none⟩,
  ⟨some 7, .call { callee := .builtin .len, args := #[.tmp 6], argTypes := #[9] }, none⟩,
  ⟨some 8, .binOp .lss 3 (.tmp 5) (.tmp 7) 3, none⟩]
def f91_r4 : List LOp := [
  ⟨some 11, .move (.tmp 3), none⟩,
  ⟨some 12, .move (.tmp 4), none⟩,
  ⟨some 13, .index 9 (.tmp 11) (.tmp 12), none⟩,
  ⟨some 14, .move (.tmp 0), none⟩,
  ⟨some 15, .binOp .eql 5 (.tmp 13) (.tmp 14) 5, none⟩]
def f91_r5 : List LOp := [
  ⟨some 2, .assign (.const (.bool true)), none⟩]
def f91_r6 : List LOp := [
  ⟨some 9, .move (.tmp 4), none⟩,
  ⟨some 10, .binOp .add 3 (.tmp 9) (.const (.int .i64 1)) 3, none⟩,
  ⟨some 4, .assign (.tmp 10), none⟩]
def f91_l7 : LC := (.seq (.seq (.reg f91_r3 [] none) (.cond (.tmp 8) .skip (.exit 0))) (.seq (.block 1 (.seq (.reg f91_r4 [] none) (.cond (.tmp 15) (.seq (.reg f91_r5 [] none) .ret) .skip))) (.reg f91_r6 [] none)))
def f91_i7 (t0 t3 t4 : D) : List D := [t0, .any, .any, t3, t4, .any, .any, .any, .any, .any, .any, .any, .any, .any, .any, .any, .any, .any, .any, .any, .any, .any]
def f91_r8 : List LOp := [
  ⟨some 16, .move (.tmp 0), none⟩,
  ⟨some 17, .binOp .lss 5 (.tmp 16) (.const (.int .u8 33)) 5, none⟩,
  ⟨some 18, .move (.tmp 17), none⟩,
  ⟨some 19, .move (.tmp 0), some (2, false)⟩,
  ⟨some 20, .binOp .gtr 5 (.tmp 19) (.const (.int .u8 126)) 5, some (2, false)⟩,
  ⟨some 21, .pick (.tmp 18) (.const (.bool true)) (.tmp 20), none⟩,
  ⟨some 2, .assign (.tmp 21), none⟩]
def f91_c : LC := (.seq (.reg f91_r0 [] none) (.seq (.reg f91_r1 [] none) (.seq (.seq (.reg f91_r2 [] none) (.block 0 (.loop f91_l7))) (.seq (.reg f91_r8 [] none) .ret))))
theorem f91_lc : Tryz.f91.body.map lc = some f91_c.st := by kernel_rfl
theorem f91_res : Tryz.f91.results.toList = [.tmp 2] := by kernel_rfl
theorem f91_nt : Tryz.f91.ntmps = 22 := by kernel_rfl
theorem f91_nm : (Tryz.f91.name == "runtime.NumGoroutine") = false := by kernel_rfl
/-! quill/quillref01.Hex -/
def f92_r0 : List LOp := [
  ⟨some 2, .assign (.const (.string { data := #[] })), none⟩]
def f92_r1 : List LOp := [
  ⟨some 3, .assign (.const (.string { data := #[] })), none⟩]
def f92_r2 : List LOp := [
  ⟨some 5, .move (.tmp 0), none⟩,
  ⟨some 6, .call { callee := .builtin .len, args := #[.tmp 5], argTypes := #[61] }, none⟩,
  ⟨some 7, .move (.const (.int .i64 0)), none⟩]
def f92_r3 : List LOp := [
  ⟨some 8, .binOp .lss 3 (.tmp 7) (.tmp 6) 3, none⟩]
def f92_r4 : List LOp := [
  ⟨some 9, .move (.tmp 7), none⟩,
  ⟨some 4, .assign (.tmp 9), none⟩]
def f92_r5 : List LOp := [
  ⟨some 10, .move (.tmp 3), none⟩,
  ⟨some 11, .move (.tmp 0), none⟩,
  ⟨some 12, .move (.tmp 4), none⟩,
  ⟨some 13, .indexAddr 61 (.tmp 11) (.tmp 12), none⟩,
  ⟨some 14, .load 5 (.tmp 13), none⟩,
  ⟨some 15, .convert 5 3 (.tmp 14), none⟩,
  ⟨some 16, .binOp .quo 3 (.tmp 15) (.const (.int .i64 16)) 3, none⟩,
  ⟨some 17, .call { callee := .value (.func 100), args := #[.tmp 16], argTypes := #[3] }, none⟩,
  ⟨some 18, .binOp .add 9 (.tmp 10) (.tmp 17) 9, none⟩,
  ⟨some 19, .move (.tmp 0), none⟩,
  ⟨some 20, .move (.tmp 4), none⟩,
  ⟨some 21, .indexAddr 61 (.tmp 19) (.tmp 20), none⟩,
  ⟨some 22, .load 5 (.tmp 21), none⟩,
  ⟨some 23, .convert 5 3 (.tmp 22), none⟩,
  ⟨some 24, .binOp .rem 3 (.tmp 23) (.const (.int .i64 16)) 3, none⟩,
  ⟨some 25, .call { callee := .value (.func 100), args := #[.tmp 24], argTypes := #[3] }, none⟩,
  ⟨some 26, .binOp .add 9 (.tmp 18) (.tmp 25) 9, none⟩,
  ⟨some 3, .assign (.tmp 26), none⟩]
def f92_r6 : List LOp := [
  ⟨some 27, .binOp .add 3 (.tmp 7) (.const (.int .i64 1)) 3, none⟩,
  ⟨some 7, .move (.tmp 27), none⟩]
def f92_l7 : LC := (.seq (.reg f92_r3 [] none) (.seq (.cond (.tmp 8) .skip (.exit 0)) (.seq (.block 1 (.seq (.reg f92_r4 [] none) (.reg f92_r5 [] (some 17)))) (.reg f92_r6 [] none))))
def f92_i7 (t0 t3 t6 t7 : D) : List D := [t0, .any, .any, t3, .any, .any, t6, t7, .any, .any, .any, .any, .any, .any, .any, .any, .any, .any, .any, .any, .any, .any, .any, .any, .any, .any, .any, .any, .any]
def f92_r8 : List LOp := [
  ⟨some 28, .move (.tmp 3), none⟩,
  ⟨some 2, .assign (.tmp 28), none⟩]
def f92_c : LC := (.seq (.reg f92_r0 [] none) (.seq (.reg f92_r1 [] none) (.seq (.seq (.reg f92_r2 [] none) (.block 0 (.loop f92_l7))) (.seq (.reg f92_r8 [] none) .ret))))
theorem f92_lc : Tryz.f92.body.map lc = some f92_c.st := by kernel_rfl
theorem f92_res : Tryz.f92.results.toList = [.tmp 2] := by kernel_rfl
theorem f92_nt : Tryz.f92.ntmps = 29 := by kernel_rfl
theorem f92_nm : (Tryz.f92.name == "runtime.NumGoroutine") = false := by kernel_rfl
/-! quill/quillref02.With -/
def f93_r0 : List LOp := [
  ⟨some 2, .box 49 (.tmp 0), none⟩,
  ⟨some 4, .alloc 49, none⟩]
def f93_r1 : List LOp := [
  ⟨some 7, .load 49 (.tmp 2), none⟩,
  ⟨some 8, .move (.tmp 1), none⟩,
  ⟨some 9, .call { callee := .value (.func 101), args := #[.tmp 7, .tmp 8], argTypes := #[49, 3] }, none⟩]
def f93_r2 : List LOp := [
  ⟨some 10, .load 49 (.tmp 2), none⟩,
  ⟨none, .store 49 (.tmp 4) (.tmp 10), none⟩]
def f93_r3 : List LOp := [
  ⟨some 5, .assign (.const (.int .u64 1)), none⟩]
def f93_r4 : List LOp := [
  ⟨some 6, .assign (.const (.int .i64 0)), none⟩]
def f93_r5 : List LOp := [
  ⟨some 11, .move (.tmp 6), none⟩,
  ⟨some 12, .move (.tmp 1), none⟩,
  ⟨some 13, .binOp .rem 3 (.tmp 12) (.const (.int .i64 64)) 3, none⟩,
  ⟨some 14, .binOp .lss 3 (.tmp 11) (.tmp 13) 3, none⟩]
def f93_r6 : List LOp := [
  ⟨some 17, .move (.tmp 5), none⟩,
  ⟨some 18, .binOp .mul 47 (.const (.int .u64 2)) (.tmp 17) 47, none⟩,
  ⟨some 5, .assign (.tmp 18), none⟩]
def f93_r7 : List LOp := [
  ⟨some 15, .move (.tmp 6), none⟩,
  ⟨some 16, .binOp .add 3 (.tmp 15) (.const (.int .i64 1)) 3, none⟩,
  ⟨some 6, .assign (.tmp 16), none⟩]
def f93_l8 : LC := (.seq (.seq (.reg f93_r5 [] none) (.cond (.tmp 14) .skip (.exit 0))) (.seq (.block 1 (.reg f93_r6 [] none)) (.reg f93_r7 [] none)))
def f93_i8 (t1 t2 t4 t5 t6 : D) : List D := [.any, t1, t2, .any, t4, t5, t6, .any, .any, .any, .any, .any, .any, .any, .any, .any, .any, .any, .any, .any, .any, .any, .any, .any, .any, .any, .any, .any, .any]
def f93_r9 : List LOp := [
  ⟨some 19, .move (.tmp 1), none⟩,
  ⟨some 20, .binOp .quo 3 (.tmp 19) (.const (.int .i64 64)) 3, none⟩,
  ⟨some 21, .move (.tmp 1), none⟩,
  ⟨some 22, .binOp .quo 3 (.tmp 21) (.const (.int .i64 64)) 3, none⟩,
  ⟨some 23, .indexAddr 49 (.tmp 2) (.tmp 22), none⟩,
  ⟨some 24, .load 47 (.tmp 23), none⟩,
  ⟨some 25, .move (.tmp 5), none⟩,
  ⟨some 26, .binOp .add 47 (.tmp 24) (.tmp 25) 47, none⟩,
  ⟨some 27, .indexAddr 49 (.tmp 2) (.tmp 20), none⟩,
  ⟨none, .store 47 (.tmp 27) (.tmp 26), none⟩]
def f93_r10 : List LOp := [
  ⟨some 28, .load 49 (.tmp 2), none⟩,
  ⟨none, .store 49 (.tmp 4) (.tmp 28), none⟩]
def f93_c : LC := (.seq (.reg f93_r0 [0] none) (.seq (.seq (.reg f93_r1 [] none) (.cond (.tmp 9) (.seq (.reg f93_r2 [] none) .ret) .skip)) (.seq (.reg f93_r3 [] none) (.seq (.seq (.reg f93_r4 [] none) (.block 0 (.loop f93_l8))) (.seq (.reg f93_r9 [] none) (.seq (.reg f93_r10 [] none) .ret))))))
theorem f93_lc : Tryz.f93.body.map lc = some f93_c.st := by kernel_rfl
theorem f93_res : Tryz.f93.results.toList = [.cell 4 49] := by kernel_rfl
theorem f93_nt : Tryz.f93.ntmps = 29 := by kernel_rfl
theorem f93_nm : (Tryz.f93.name == "runtime.NumGoroutine") = false := by kernel_rfl
/-! quill/quillref02.Join -/
def f94_r0 : List LOp := [
  ⟨some 2, .box 49 (.tmp 0), none⟩,
  ⟨some 3, .box 49 (.tmp 1), none⟩,
  ⟨some 4, .alloc 49, none⟩]
def f94_r1 : List LOp := [
  ⟨some 7, .load 49 (.tmp 2), none⟩,
  ⟨some 5, .alloc 49, none⟩,
  ⟨none, .store 49 (.tmp 5) (.tmp 7), none⟩]
def f94_r2 : List LOp := [
  ⟨some 6, .assign (.const (.int .i64 0)), none⟩]
def f94_r3 : List LOp := [
  ⟨some 8, .move (.tmp 6), none⟩,
  ⟨some 9, .binOp .lss 3 (.tmp 8) (.const (.int .i64 256)) 3, none⟩]
def f94_r4 : List LOp := [
  ⟨some 12, .load 49 (.tmp 3), none⟩,
  ⟨some 13, .move (.tmp 6), none⟩,
  ⟨some 14, .call { callee := .value (.func 101), args := #[.tmp 12, .tmp 13], argTypes := #[49, 3] }, none⟩]
def f94_r5 : List LOp := [
  ⟨some 15, .load 49 (.tmp 5), none⟩,
  ⟨some 16, .move (.tmp 6), none⟩,
  ⟨some 17, .call { callee := .value (.func 93), args := #[.tmp 15, .tmp 16], argTypes := #[49, 3] }, none⟩,
  ⟨none, .store 49 (.tmp 5) (.tmp 17), none⟩]
def f94_r6 : List LOp := [
  ⟨some 10, .move (.tmp 6), none⟩,
  ⟨some 11, .binOp .add 3 (.tmp 10) (.const (.int .i64 1)) 3, none⟩,
  ⟨some 6, .assign (.tmp 11), none⟩]
def f94_l7 : LC := (.seq (.seq (.reg f94_r3 [] none) (.cond (.tmp 9) .skip (.exit 0))) (.seq (.block 1 (.seq (.reg f94_r4 [] none) (.cond (.tmp 14) (.reg f94_r5 [] none) .skip))) (.reg f94_r6 [] none)))
def f94_i7 (t3 t4 t5 t6 : D) : List D := [.any, .any, .any, t3, t4, t5, t6, .any, .any, .any, .any, .any, .any, .any, .any, .any, .any, .any, .any]
def f94_r8 : List LOp := [
  ⟨some 18, .load 49 (.tmp 5), none⟩,
  ⟨none, .store 49 (.tmp 4) (.tmp 18), none⟩]
def f94_c : LC := (.seq (.reg f94_r0 [] none) (.seq (.reg f94_r1 [] none) (.seq (.seq (.reg f94_r2 [] none) (.block 0 (.loop f94_l7))) (.seq (.reg f94_r8 [] none) .ret))))
theorem f94_lc : Tryz.f94.body.map lc = some f94_c.st := by kernel_rfl
theorem f94_res : Tryz.f94.results.toList = [.cell 4 49] := by kernel_rfl
theorem f94_nt : Tryz.f94.ntmps = 19 := by kernel_rfl
theorem f94_nm : (Tryz.f94.name == "runtime.NumGoroutine") = false := by kernel_rfl
/-! quill/quillref01.Value -/
def f95_r0 : List LOp := [
  ⟨some 2, .assign (.const (.int .i64 0)), none⟩]
def f95_r1 : List LOp := [
  ⟨some 3, .move (.tmp 0), none⟩,
  ⟨some 4, .binOp .geq 5 (.tmp 3) (.const (.int .u8 48)) 5, none⟩,
  ⟨some 5, .move (.tmp 4), none⟩,
  ⟨some 6, .move (.tmp 0), some (2, true)⟩,
  ⟨some 7, .binOp .leq 5 (.tmp 6) (.const (.int .u8 57)) 5, some (2, true)⟩,
  ⟨some 8, .pick (.tmp 5) (.tmp 7) (.const (.bool false)), none⟩]
def f95_r2 : List LOp := [
  ⟨some 9, .move (.tmp 0), none⟩,
  ⟨some 10, .binOp .sub 5 (.tmp 9) (.const (.int .u8 48)) 5, none⟩,
  ⟨some 11, .convert 5 3 (.tmp 10), none⟩,
  ⟨some 2, .assign (.tmp 11), none⟩]
def f95_r3 : List LOp := [
  ⟨some 12, .move (.tmp 0), none⟩,
  ⟨some 13, .binOp .geq 5 (.tmp 12) (.const (.int .u8 97)) 5, none⟩,
  ⟨some 14, .move (.tmp 13), none⟩,
  ⟨some 15, .move (.tmp 0), some (2, true)⟩,
  ⟨some 16, .binOp .leq 5 (.tmp 15) (.const (.int .u8 102)) 5, some (2, true)⟩,
  ⟨some 17, .pick (.tmp 14) (.tmp 16) (.const (.bool false)), none⟩]
def f95_r4 : List LOp := [
  ⟨some 18, .move (.tmp 0), none⟩,
  ⟨some 19, .binOp .sub 5 (.tmp 18) (.const (.int .u8 97)) 5, none⟩,
  ⟨some 20, .convert 5 3 (.tmp 19), none⟩,
  ⟨some 21, .binOp .add 3 (.tmp 20) (.const (.int .i64 10)) 3, none⟩,
  ⟨some 2, .assign (.tmp 21), none⟩]
def f95_r5 : List LOp := [
  ⟨some 2, .assign (.const (.int .i64 (-1))), none⟩]
def f95_c : LC := (.seq (.reg f95_r0 [] none) (.seq (.seq (.reg f95_r1 [] none) (.cond (.tmp 8) (.seq (.reg f95_r2 [] none) .ret) .skip)) (.seq (.seq (.reg f95_r3 [] none) (.cond (.tmp 17) (.seq (.reg f95_r4 [] none) .ret) .skip)) (.seq (.reg f95_r5 [] none) .ret))))
theorem f95_lc : Tryz.f95.body.map lc = some f95_c.st := by kernel_rfl
theorem f95_res : Tryz.f95.results.toList = [.tmp 2] := by kernel_rfl
theorem f95_nt : Tryz.f95.ntmps = 22 := by kernel_rfl
theorem f95_nm : (Tryz.f95.name == "runtime.NumGoroutine") = false := by kernel_rfl
/-! quill/num.digit -/
def f96_r0 : List LOp := [
  ⟨some 2, .assign (.const (.int .u8 0)), none⟩]
def f96_r1 : List LOp := [
  ⟨some 3, .move (.tmp 0), none⟩,
  ⟨some 4, .binOp .and 5 (.tmp 3) (.const (.int .u8 15)) 5, none⟩,
  ⟨some 5, .index 9 (.const (.string { data := #[48, 49, 50, 51, 52, 53, 54, 55, 56, 57, 97, 98, 99, 100, 101, 102] })) (.tmp 4), none⟩,
  ⟨some 2, .assign (.tmp 5), none⟩]
def f96_c : LC := (.seq (.reg f96_r0 [] none) (.seq (.reg f96_r1 [] none) .ret))
theorem f96_lc : Tryz.f96.body.map lc = some f96_c.st := by kernel_rfl
theorem f96_res : Tryz.f96.results.toList = [.tmp 2] := by kernel_rfl
theorem f96_nt : Tryz.f96.ntmps = 6 := by kernel_rfl
theorem f96_nm : (Tryz.f96.name == "runtime.NumGoroutine") = false := by kernel_rfl
/-! (*quill/read.reader).atom -/
def f97_r0 : List LOp := [
  ⟨some 2, .alloc 52, none⟩]
def f97_r1 : List LOp := [
  ⟨some 5, .move (.tmp 0), none⟩,
  ⟨some 6, .call { callee := .value (.func 75), args := #[.tmp 5, .const (.string { data := #[46] })], argTypes := #[92, 9] }, none⟩,
  ⟨some 4, .assign (.tmp 6), none⟩]
def f97_r2 : List LOp := [
  ⟨some 7, .move (.tmp 0), none⟩,
  ⟨some 8, .nilCheck (.tmp 7), none⟩,
  ⟨some 9, .fieldAddr 94 (.tmp 8) 1, none⟩,
  ⟨some 10, .load 3 (.tmp 9), none⟩,
  ⟨some 11, .binOp .add 3 (.tmp 10) (.const (.int .i64 1)) 3, none⟩,
  ⟨some 12, .nilCheck (.tmp 7), none⟩,
  ⟨some 13, .fieldAddr 94 (.tmp 12) 1, none⟩,
  ⟨none, .store 3 (.tmp 13) (.tmp 11), none⟩]
def f97_r3 : List LOp := [
  ⟨some 14, .call { callee := .value (.func 103), args := #[.const (.int .u8 0), .const (.int .u8 255)], argTypes := #[5, 5] }, none⟩,
  ⟨some 15, .call { callee := .value (.func 102), args := #[.tmp 14], argTypes := #[49] }, none⟩,
  ⟨none, .store 52 (.tmp 2) (.tmp 15), none⟩]
def f97_r4 : List LOp := [
  ⟨some 17, .move (.tmp 0), none⟩,
  ⟨some 18, .call { callee := .value (.func 75), args := #[.tmp 17, .const (.string { data := #[91] })], argTypes := #[92, 9] }, none⟩,
  ⟨some 16, .assign (.tmp 18), none⟩]
def f97_r5 : List LOp := [
  ⟨some 19, .move (.tmp 0), none⟩,
  ⟨some 20, .nilCheck (.tmp 19), none⟩,
  ⟨some 21, .fieldAddr 94 (.tmp 20) 1, none⟩,
  ⟨some 22, .load 3 (.tmp 21), none⟩,
  ⟨some 23, .binOp .add 3 (.tmp 22) (.const (.int .i64 1)) 3, none⟩,
  ⟨some 24, .nilCheck (.tmp 19), none⟩,
  ⟨some 25, .fieldAddr 94 (.tmp 24) 1, none⟩,
  ⟨none, .store 3 (.tmp 25) (.tmp 23), none⟩]
def f97_r6 : List LOp := [
  ⟨some 26, .move (.tmp 0), none⟩,
  ⟨some 27, .call { callee := .value (.func 104), args := #[.tmp 26], argTypes := #[92] }, none⟩,
  ⟨none, .store 52 (.tmp 2) (.tmp 27), none⟩]
def f97_r7 : List LOp := [
  ⟨some 29, .move (.tmp 0), none⟩,
  ⟨some 30, .call { callee := .value (.func 75), args := #[.tmp 29, .const (.string { data := #[40] })], argTypes := #[92, 9] }, none⟩,
  ⟨some 28, .assign (.tmp 30), none⟩]
def f97_r8 : List LOp := [
  ⟨some 31, .move (.tmp 0), none⟩,
  ⟨some 32, .nilCheck (.tmp 31), none⟩,
  ⟨some 33, .fieldAddr 94 (.tmp 32) 1, none⟩,
  ⟨some 34, .load 3 (.tmp 33), none⟩,
  ⟨some 35, .binOp .add 3 (.tmp 34) (.const (.int .i64 1)) 3, none⟩,
  ⟨some 36, .nilCheck (.tmp 31), none⟩,
  ⟨some 37, .fieldAddr 94 (.tmp 36) 1, none⟩,
  ⟨none, .store 3 (.tmp 37) (.tmp 35), none⟩]
def f97_r9 : List LOp := [
  ⟨some 38, .move (.tmp 0), none⟩,
  ⟨some 39, .call { callee := .value (.func 75), args := #[.tmp 38, .const (.string { data := #[41] })], argTypes := #[92, 9] }, none⟩]
def f97_r10 : List LOp := [
  ⟨some 40, .move (.tmp 0), none⟩,
  ⟨some 41, .nilCheck (.tmp 40), none⟩,
  ⟨some 42, .fieldAddr 94 (.tmp 41) 1, none⟩,
  ⟨some 43, .load 3 (.tmp 42), none⟩,
  ⟨some 44, .binOp .add 3 (.tmp 43) (.const (.int .i64 1)) 3, none⟩,
  ⟨some 45, .nilCheck (.tmp 40), none⟩,
  ⟨some 46, .fieldAddr 94 (.tmp 45) 1, none⟩,
  ⟨none, .store 3 (.tmp 46) (.tmp 44), none⟩]
def f97_r11 : List LOp := [
  ⟨some 47, .call { callee := .value (.func 89), args := #[.const (.slice none 0 0)], argTypes := #[50] }, none⟩,
  ⟨none, .store 52 (.tmp 2) (.tmp 47), none⟩]
def f97_r12 : List LOp := [
  ⟨some 48, .move (.tmp 0), none⟩,
  ⟨some 49, .call { callee := .value (.func 58), args := #[.tmp 48], argTypes := #[92] }, none⟩,
  ⟨some 3, .alloc 52, none⟩,
  ⟨none, .store 52 (.tmp 3) (.tmp 49), none⟩]
def f97_r13 : List LOp := [
  ⟨some 50, .move (.tmp 0), none⟩,
  ⟨some 51, .call { callee := .value (.func 105), args := #[.tmp 50, .const (.string { data := #[41] })], argTypes := #[92, 9] }, none⟩]
def f97_r14 : List LOp := [
  ⟨some 52, .load 52 (.tmp 3), none⟩,
  ⟨none, .store 52 (.tmp 2) (.tmp 52), none⟩]
def f97_r15 : List LOp := [
  ⟨some 53, .move (.tmp 0), none⟩,
  ⟨some 54, .call { callee := .value (.func 107), args := #[.tmp 53], argTypes := #[92] }, none⟩,
  ⟨some 55, .buildSlice 61 1 #[(0, .tmp 54)], none⟩,
  ⟨some 56, .call { callee := .value (.func 106), args := #[.tmp 55], argTypes := #[61] }, none⟩,
  ⟨some 57, .call { callee := .value (.func 102), args := #[.tmp 56], argTypes := #[49] }, none⟩,
  ⟨none, .store 52 (.tmp 2) (.tmp 57), none⟩]
def f97_c : LC := (.seq (.reg f97_r0 [] none) (.seq (.block 0 (.seq (.reg f97_r1 [] none) (.cond (.tmp 4) (.seq (.reg f97_r2 [] none) (.seq (.reg f97_r3 [] none) .ret)) (.seq (.reg f97_r4 [] none) (.cond (.tmp 16) (.seq (.reg f97_r5 [] none) (.seq (.reg f97_r6 [] none) .ret)) (.seq (.reg f97_r7 [] none) (.cond (.tmp 28) (.seq (.reg f97_r8 [] none) (.seq (.seq (.reg f97_r9 [] none) (.cond (.tmp 39) (.seq (.reg f97_r10 [] none) (.seq (.reg f97_r11 [] none) .ret)) .skip)) (.seq (.reg f97_r12 [] none) (.seq (.reg f97_r13 [] none) (.seq (.reg f97_r14 [] none) .ret))))) .skip))))))) (.seq (.reg f97_r15 [] none) .ret)))
theorem f97_lc : Tryz.f97.body.map lc = some f97_c.st := by kernel_rfl
theorem f97_res : Tryz.f97.results.toList = [.cell 2 52] := by kernel_rfl
theorem f97_nt : Tryz.f97.ntmps = 58 := by kernel_rfl
theorem f97_nm : (Tryz.f97.name == "runtime.NumGoroutine") = false := by kernel_rfl
/-! quill/rex.Many -/
def f98_r0 : List LOp := [
  ⟨some 1, .box 52 (.tmp 0), none⟩,
  ⟨some 2, .alloc 52, none⟩]
def f98_r1 : List LOp := [
  ⟨some 3, .load 52 (.tmp 1), none⟩,
  ⟨some 4, .buildSlice 50 1 #[(0, .tmp 3)], none⟩,
  ⟨some 5, .build 52 #[(0, .const (.int .u8 6)), (2, .tmp 4)], none⟩,
  ⟨none, .store 52 (.tmp 2) (.tmp 5), none⟩]
def f98_c : LC := (.seq (.reg f98_r0 [] none) (.seq (.reg f98_r1 [] none) .ret))
theorem f98_lc : Tryz.f98.body.map lc = some f98_c.st := by kernel_rfl
theorem f98_res : Tryz.f98.results.toList = [.cell 2 52] := by kernel_rfl
theorem f98_nt : Tryz.f98.ntmps = 6 := by kernel_rfl
theorem f98_nm : (Tryz.f98.name == "runtime.NumGoroutine") = false := by kernel_rfl
/-! slices.Backward[[]quill/api.Re,quill/api.Re] -/
def f99_r0 : List LOp := [
  ⟨some 1, .box 50 (.tmp 0), none⟩,
  ⟨some 2, .assign (.const .nilFunc), none⟩]
def f99_r1 : List LOp := [
  ⟨some 3, .makeFunc (.func 108) #[] #[.tmp 1], none⟩,
  ⟨some 2, .assign (.tmp 3), none⟩]
def f99_c : LC := (.seq (.reg f99_r0 [] none) (.seq (.reg f99_r1 [] none) .ret))
theorem f99_lc : Tryz.f99.body.map lc = some f99_c.st := by kernel_rfl
theorem f99_res : Tryz.f99.results.toList = [.tmp 2] := by kernel_rfl
theorem f99_nt : Tryz.f99.ntmps = 4 := by kernel_rfl
theorem f99_nm : (Tryz.f99.name == "runtime.NumGoroutine") = false := by kernel_rfl
/-! quill/quillref01.Digit -/
def f100_r0 : List LOp := [
  ⟨some 2, .assign (.const (.string { data := #[] })), none⟩]
def f100_r1 : List LOp := [
  ⟨some 3, .move (.tmp 0), none⟩,
  ⟨some 4, .move (.tmp 0), none⟩,
  ⟨some 5, .binOp .add 3 (.tmp 4) (.const (.int .i64 1)) 3, none⟩,
  ⟨some 6, .slice 9 (.const (.string { data := #[48, 49, 50, 51, 52, 53, 54, 55, 56, 57, 97, 98, 99, 100, 101, 102] })) (some (.tmp 3)) (some (.tmp 5)) none, none⟩,
  ⟨some 2, .assign (.tmp 6), none⟩]
def f100_c : LC := (.seq (.reg f100_r0 [] none) (.seq (.reg f100_r1 [] none) .ret))
theorem f100_lc : Tryz.f100.body.map lc = some f100_c.st := by kernel_rfl
theorem f100_res : Tryz.f100.results.toList = [.tmp 2] := by kernel_rfl
theorem f100_nt : Tryz.f100.ntmps = 7 := by kernel_rfl
theorem f100_nm : (Tryz.f100.name == "runtime.NumGoroutine") = false := by kernel_rfl
/-! quill/quillref02.Has -/
def f101_r0 : List LOp := [
  ⟨some 2, .box 49 (.tmp 0), none⟩,
  ⟨some 4, .assign (.const (.bool false)), none⟩]
def f101_r1 : List LOp := [
  ⟨some 7, .move (.tmp 1), none⟩,
  ⟨some 8, .binOp .quo 3 (.tmp 7) (.const (.int .i64 64)) 3, none⟩,
  ⟨some 9, .indexAddr 49 (.tmp 2) (.tmp 8), none⟩,
  ⟨some 10, .load 47 (.tmp 9), none⟩,
  ⟨some 5, .assign (.tmp 10), none⟩]
def f101_r2 : List LOp := [
  ⟨some 6, .assign (.const (.int .i64 0)), none⟩]
def f101_r3 : List LOp := [
  ⟨some 11, .move (.tmp 6), none⟩,
  ⟨some 12, .move (.tmp 1), none⟩,
  ⟨some 13, .binOp .rem 3 (.tmp 12) (.const (.int .i64 64)) 3, none⟩,
  ⟨some 14, .binOp .lss 3 (.tmp 11) (.tmp 13) 3, none⟩]
def f101_r4 : List LOp := [
  ⟨some 17, .move (.tmp 5), none⟩,
  ⟨some 18, .binOp .quo 47 (.tmp 17) (.const (.int .u64 2)) 47, none⟩,
  ⟨some 5, .assign (.tmp 18), none⟩]
def f101_r5 : List LOp := [
  ⟨some 15, .move (.tmp 6), none⟩,
  ⟨some 16, .binOp .add 3 (.tmp 15) (.const (.int .i64 1)) 3, none⟩,
  ⟨some 6, .assign (.tmp 16), none⟩]
def f101_l6 : LC := (.seq (.seq (.reg f101_r3 [] none) (.cond (.tmp 14) .skip (.exit 0))) (.seq (.block 1 (.reg f101_r4 [] none)) (.reg f101_r5 [] none)))
def f101_i6 (t1 t5 t6 : D) : List D := [.any, t1, .any, .any, .any, t5, t6, .any, .any, .any, .any, .any, .any, .any, .any, .any, .any, .any, .any, .any, .any, .any]
def f101_r7 : List LOp := [
  ⟨some 19, .move (.tmp 5), none⟩,
  ⟨some 20, .binOp .rem 47 (.tmp 19) (.const (.int .u64 2)) 47, none⟩,
  ⟨some 21, .binOp .eql 47 (.tmp 20) (.const (.int .u64 1)) 47, none⟩,
  ⟨some 4, .assign (.tmp 21), none⟩]
def f101_c : LC := (.seq (.reg f101_r0 [] none) (.seq (.reg f101_r1 [] none) (.seq (.seq (.reg f101_r2 [] none) (.block 0 (.loop f101_l6))) (.seq (.reg f101_r7 [] none) .ret))))
theorem f101_lc : Tryz.f101.body.map lc = some f101_c.st := by kernel_rfl
theorem f101_res : Tryz.f101.results.toList = [.tmp 4] := by kernel_rfl
theorem f101_nt : Tryz.f101.ntmps = 22 := by kernel_rfl
theorem f101_nm : (Tryz.f101.name == "runtime.NumGoroutine") = false := by kernel_rfl
/-! quill/rex.Of -/
def f102_r0 : List LOp := [
  ⟨some 1, .box 49 (.tmp 0), none⟩,
  ⟨some 2, .alloc 52, none⟩]
def f102_r1 : List LOp := [
  ⟨some 3, .load 49 (.tmp 1), none⟩,
  ⟨some 4, .build 49 #[], none⟩,
  ⟨some 5, .binOp .eql 49 (.tmp 3) (.tmp 4) 49, none⟩]
def f102_r2 : List LOp := [
  ⟨some 6, .build 52 #[(0, .const (.int .u8 1))], none⟩,
  ⟨none, .store 52 (.tmp 2) (.tmp 6), none⟩]
def f102_r3 : List LOp := [
  ⟨some 7, .load 49 (.tmp 1), none⟩,
  ⟨some 8, .build 52 #[(0, .const (.int .u8 3)), (1, .tmp 7)], none⟩,
  ⟨none, .store 52 (.tmp 2) (.tmp 8), none⟩]
def f102_c : LC := (.seq (.reg f102_r0 [] none) (.seq (.seq (.reg f102_r1 [] none) (.cond (.tmp 5) (.seq (.reg f102_r2 [] none) .ret) .skip)) (.seq (.reg f102_r3 [] none) .ret)))
theorem f102_lc : Tryz.f102.body.map lc = some f102_c.st := by kernel_rfl
theorem f102_res : Tryz.f102.results.toList = [.cell 2 52] := by kernel_rfl
theorem f102_nt : Tryz.f102.ntmps = 9 := by kernel_rfl
theorem f102_nm : (Tryz.f102.name == "runtime.NumGoroutine") = false := by kernel_rfl
/-! quill/set.Range -/
def f103_r0 : List LOp := [
  ⟨some 4, .alloc 49, none⟩]
def f103_r1 : List LOp := [
  ⟨some 5, .alloc 49, none⟩]
def f103_r2 : List LOp := [
  ⟨some 7, .move (.tmp 0), none⟩,
  ⟨some 8, .convert 5 3 (.tmp 7), none⟩,
  ⟨some 6, .assign (.tmp 8), none⟩]
def f103_r3 : List LOp := [
  ⟨some 9, .move (.tmp 6), none⟩,
  ⟨some 10, .move (.tmp 1), none⟩,
  ⟨some 11, .convert 5 3 (.tmp 10), none⟩,
  ⟨some 12, .binOp .leq 3 (.tmp 9) (.tmp 11) 3, none⟩]
def f103_r4 : List LOp := [
  ⟨some 15, .move (.tmp 6), none⟩,
  ⟨some 16, .binOp .quo 3 (.tmp 15) (.const (.int .i64 64)) 3, none⟩,
  ⟨some 17, .indexAddr 49 (.tmp 5) (.tmp 16), none⟩,
  ⟨some 18, .load 47 (.tmp 17), none⟩,
  ⟨some 19, .move (.tmp 6), none⟩,
  ⟨some 20, .binOp .rem 3 (.tmp 19) (.const (.int .i64 64)) 3, none⟩,
  ⟨some 21, .binOp .shl 47 (.const (.int .u64 1)) (.tmp 20) 3, none⟩,
  ⟨some 22, .binOp .or 47 (.tmp 18) (.tmp 21) 47, none⟩,
  ⟨some 23, .indexAddr 49 (.tmp 5) (.tmp 16), none⟩,
  ⟨none, .store 47 (.tmp 23) (.tmp 22), none⟩]
def f103_r5 : List LOp := [
  ⟨some 13, .move (.tmp 6), none⟩,
  ⟨some 14, .binOp .add 3 (.tmp 13) (.const (.int .i64 1)) 3, none⟩,
  ⟨some 6, .assign (.tmp 14), none⟩]
def f103_l6 : LC := (.seq (.seq (.reg f103_r3 [] none) (.cond (.tmp 12) .skip (.exit 0))) (.seq (.block 1 (.reg f103_r4 [] (some 7))) (.reg f103_r5 [] none)))
def f103_i6 (t1 t4 t5 t6 : D) : List D := [.any, t1, .any, .any, t4, t5, t6, .any, .any, .any, .any, .any, .any, .any, .any, .any, .any, .any, .any, .any, .any, .any, .any, .any, .any]
def f103_r7 : List LOp := [
  ⟨some 24, .load 49 (.tmp 5), none⟩,
  ⟨none, .store 49 (.tmp 4) (.tmp 24), none⟩]
def f103_c : LC := (.seq (.reg f103_r0 [] none) (.seq (.reg f103_r1 [] none) (.seq (.seq (.reg f103_r2 [] none) (.block 0 (.loop f103_l6))) (.seq (.reg f103_r7 [] none) .ret))))
theorem f103_lc : Tryz.f103.body.map lc = some f103_c.st := by kernel_rfl
theorem f103_res : Tryz.f103.results.toList = [.cell 4 49] := by kernel_rfl
theorem f103_nt : Tryz.f103.ntmps = 25 := by kernel_rfl
theorem f103_nm : (Tryz.f103.name == "runtime.NumGoroutine") = false := by kernel_rfl
/-! (*quill/read.reader).class -/
def f104_r0 : List LOp := [
  ⟨some 2, .alloc 52, none⟩]
def f104_r1 : List LOp := [
  ⟨some 3, .alloc 49, none⟩]
def f104_r2 : List LOp := [
  ⟨some 7, .move (.tmp 0), none⟩,
  ⟨some 8, .call { callee := .value (.func 75), args := #[.tmp 7, .const (.string { data := #[93] })], argTypes := #[92, 9] }, none⟩,
  ⟨some 9, .unOp .not 4 (.tmp 8), none⟩]
def f104_r3 : List LOp := [
  ⟨some 10, .move (.tmp 0), none⟩,
  ⟨some 11, .call { callee := .value (.func 107), args := #[.tmp 10], argTypes := #[92] }, none⟩,
  ⟨some 4, .assign (.tmp 11), none⟩]
def f104_r4 : List LOp := [
  ⟨some 12, .move (.tmp 4), none⟩,
  ⟨some 5, .assign (.tmp 12), none⟩]
def f104_r5 : List LOp := [
  ⟨some 13, .move (.tmp 0), none⟩,
  ⟨some 14, .call { callee := .value (.func 75), args := #[.tmp 13, .const (.string { data := #[45] })], argTypes := #[92, 9] }, none⟩]
def f104_r6 : List LOp := [
  ⟨some 15, .move (.tmp 0), none⟩,
  ⟨some 16, .nilCheck (.tmp 15), none⟩,
  ⟨some 17, .fieldAddr 94 (.tmp 16) 1, none⟩,
  ⟨some 18, .load 3 (.tmp 17), none⟩,
  ⟨some 19, .binOp .add 3 (.tmp 18) (.const (.int .i64 1)) 3, none⟩,
  ⟨some 20, .nilCheck (.tmp 15), none⟩,
  ⟨some 21, .fieldAddr 94 (.tmp 20) 1, none⟩,
  ⟨none, .store 3 (.tmp 21) (.tmp 19), none⟩]
def f104_r7 : List LOp := [
  ⟨some 22, .move (.tmp 0), none⟩,
  ⟨some 23, .nilCheck (.tmp 22), none⟩,
  ⟨some 24, .fieldAddr 94 (.tmp 23) 1, none⟩,
  ⟨some 25, .load 3 (.tmp 24), none⟩,
  ⟨some 6, .assign (.tmp 25), none⟩]
def f104_r8 : List LOp := [
  ⟨some 26, .move (.tmp 0), none⟩,
  ⟨some 27, .call { callee := .value (.func 107), args := #[.tmp 26], argTypes := #[92] }, none⟩,
  ⟨some 5, .assign (.tmp 27), none⟩]
def f104_r9 : List LOp := [
  ⟨some 28, .move (.tmp 5), none⟩,
  ⟨some 29, .move (.tmp 4), none⟩,
  ⟨some 30, .binOp .lss 5 (.tmp 28) (.tmp 29) 5, none⟩]
def f104_r10 : List LOp := [
  ⟨some 31, .move (.tmp 6), none⟩,
  ⟨some 32, .build 108 #[(0, .tmp 31)], none⟩,
  ⟨some 33, .makeInterface 108 (.tmp 32), none⟩,
  ⟨none, .panic (.tmp 33), none⟩]
def f104_r11 : List LOp := [
  ⟨some 34, .load 49 (.tmp 3), none⟩,
  ⟨some 35, .move (.tmp 4), none⟩,
  ⟨some 36, .move (.tmp 5), none⟩,
  ⟨some 37, .call { callee := .value (.func 103), args := #[.tmp 35, .tmp 36], argTypes := #[5, 5] }, none⟩,
  ⟨some 38, .buildSlice 154 2 #[(0, .tmp 34), (1, .tmp 37)], none⟩,
  ⟨some 39, .call { callee := .value (.func 109), args := #[.tmp 38], argTypes := #[154] }, none⟩,
  ⟨none, .store 49 (.tmp 3) (.tmp 39), none⟩]
def f104_l12 : LC := (.seq (.seq (.reg f104_r2 [] none) (.cond (.tmp 9) .skip (.exit 0))) (.block 1 (.seq (.reg f104_r3 [] none) (.seq (.reg f104_r4 [] none) (.seq (.seq (.reg f104_r5 [] none) (.cond (.tmp 14) (.seq (.reg f104_r6 [] none) (.seq (.reg f104_r7 [] none) (.seq (.reg f104_r8 [] none) (.seq (.reg f104_r9 [] none) (.cond (.tmp 30) (.reg f104_r10 [] none) .skip))))) .skip)) (.reg f104_r11 [] (some 4)))))))
def f104_i12 (t0 t2 t3 : D) : List D := [t0, .any, t2, t3, .any, .any, .any, .any, .any, .any, .any, .any, .any, .any, .any, .any, .any, .any, .any, .any, .any, .any, .any, .any, .any, .any, .any, .any, .any, .any, .any, .any, .any, .any, .any, .any, .any, .any, .any, .any, .any, .any, .any, .any, .any, .any, .any, .any, .any]
def f104_r13 : List LOp := [
  ⟨some 40, .move (.tmp 0), none⟩,
  ⟨some 41, .nilCheck (.tmp 40), none⟩,
  ⟨some 42, .fieldAddr 94 (.tmp 41) 1, none⟩,
  ⟨some 43, .load 3 (.tmp 42), none⟩,
  ⟨some 44, .binOp .add 3 (.tmp 43) (.const (.int .i64 1)) 3, none⟩,
  ⟨some 45, .nilCheck (.tmp 40), none⟩,
  ⟨some 46, .fieldAddr 94 (.tmp 45) 1, none⟩,
  ⟨none, .store 3 (.tmp 46) (.tmp 44), none⟩]
def f104_r14 : List LOp := [
  ⟨some 47, .load 49 (.tmp 3), none⟩,
  ⟨some 48, .call { callee := .value (.func 102), args := #[.tmp 47], argTypes := #[49] }, none⟩,
  ⟨none, .store 52 (.tmp 2) (.tmp 48), none⟩]
def f104_c : LC := (.seq (.reg f104_r0 [] none) (.seq (.reg f104_r1 [] none) (.seq (.block 0 (.loop f104_l12)) (.seq (.reg f104_r13 [] none) (.seq (.reg f104_r14 [] none) .ret)))))
theorem f104_lc : Tryz.f104.body.map lc = some f104_c.st := by kernel_rfl
theorem f104_res : Tryz.f104.results.toList = [.cell 2 52] := by kernel_rfl
theorem f104_nt : Tryz.f104.ntmps = 49 := by kernel_rfl
theorem f104_nm : (Tryz.f104.name == "runtime.NumGoroutine") = false := by kernel_rfl
/-! (*quill/read.reader).eat -/
def f105_r0 : List LOp := [
  ⟨some 4, .move (.tmp 0), none⟩,
  ⟨some 5, .move (.tmp 1), none⟩,
  ⟨some 6, .call { callee := .value (.func 75), args := #[.tmp 4, .tmp 5], argTypes := #[92, 9] }, none⟩,
  ⟨some 7, .unOp .not 4 (.tmp 6), none⟩]
def f105_r1 : List LOp := [
  ⟨some 8, .move (.tmp 0), none⟩,
  ⟨some 9, .nilCheck (.tmp 8), none⟩,
  ⟨some 10, .fieldAddr 94 (.tmp 9) 1, none⟩,
  ⟨some 11, .load 3 (.tmp 10), none⟩,
  ⟨some 12, .build 108 #[(0, .tmp 11)], none⟩,
  ⟨some 13, .makeInterface 108 (.tmp 12), none⟩,
  ⟨none, .panic (.tmp 13), none⟩]
def f105_r2 : List LOp := [
  ⟨some 14, .move (.tmp 0), none⟩,
  ⟨some 15, .nilCheck (.tmp 14), none⟩,
  ⟨some 16, .fieldAddr 94 (.tmp 15) 1, none⟩,
  ⟨some 17, .load 3 (.tmp 16), none⟩,
  ⟨some 18, .binOp .add 3 (.tmp 17) (.const (.int .i64 1)) 3, none⟩,
  ⟨some 19, .nilCheck (.tmp 14), none⟩,
  ⟨some 20, .fieldAddr 94 (.tmp 19) 1, none⟩,
  ⟨none, .store 3 (.tmp 20) (.tmp 18), none⟩]
def f105_c : LC := (.seq (.seq (.reg f105_r0 [] none) (.cond (.tmp 7) (.reg f105_r1 [] none) .skip)) (.reg f105_r2 [] none))
theorem f105_lc : Tryz.f105.body.map lc = some f105_c.st := by kernel_rfl
theorem f105_res : Tryz.f105.results.toList = [] := by kernel_rfl
theorem f105_nt : Tryz.f105.ntmps = 21 := by kernel_rfl
theorem f105_nm : (Tryz.f105.name == "runtime.NumGoroutine") = false := by kernel_rfl
/-! quill/set.Of -/
def f106_r0 : List LOp := [
  ⟨some 2, .alloc 49, none⟩]
def f106_r1 : List LOp := [
  ⟨some 3, .alloc 49, none⟩]
def f106_r2 : List LOp := [
  ⟨some 6, .move (.tmp 0), none⟩,
  ⟨some 7, .call { callee := .builtin .len, args := #[.tmp 6], argTypes := #[61] }, none⟩,
  ⟨some 8, .move (.const (.int .i64 0)), none⟩]
def f106_r3 : List LOp := [
  ⟨some 9, .binOp .lss 3 (.tmp 8) (.tmp 7) 3, none⟩]
def f106_r4 : List LOp := [
  ⟨some 10, .indexAddr 61 (.tmp 6) (.tmp 8), none⟩,
  ⟨some 11, .load 5 (.tmp 10), none⟩,
  ⟨some 5, .assign (.tmp 11), none⟩]
def f106_r5 : List LOp := [
  ⟨some 12, .move (.tmp 5), none⟩,
  ⟨some 13, .binOp .quo 5 (.tmp 12) (.const (.int .u8 64)) 5, none⟩,
  ⟨some 14, .indexAddr 49 (.tmp 3) (.tmp 13), none⟩,
  ⟨some 15, .load 47 (.tmp 14), none⟩,
  ⟨some 16, .move (.tmp 5), none⟩,
  ⟨some 17, .binOp .rem 5 (.tmp 16) (.const (.int .u8 64)) 5, none⟩,
  ⟨some 18, .binOp .shl 47 (.const (.int .u64 1)) (.tmp 17) 5, none⟩,
  ⟨some 19, .binOp .or 47 (.tmp 15) (.tmp 18) 47, none⟩,
  ⟨some 20, .indexAddr 49 (.tmp 3) (.tmp 13), none⟩,
  ⟨none, .store 47 (.tmp 20) (.tmp 19), none⟩]
def f106_r6 : List LOp := [
  ⟨some 21, .binOp .add 3 (.tmp 8) (.const (.int .i64 1)) 3, none⟩,
  ⟨some 8, .move (.tmp 21), none⟩]
def f106_l7 : LC := (.seq (.reg f106_r3 [] none) (.seq (.cond (.tmp 9) .skip (.exit 0)) (.seq (.block 1 (.seq (.reg f106_r4 [] none) (.reg f106_r5 [] none))) (.reg f106_r6 [] none))))
def f106_i7 (t2 t3 t6 t7 t8 : D) : List D := [.any, .any, t2, t3, .any, .any, t6, t7, t8, .any, .any, .any, .any, .any, .any, .any, .any, .any, .any, .any, .any, .any, .any]
def f106_r8 : List LOp := [
  ⟨some 22, .load 49 (.tmp 3), none⟩,
  ⟨none, .store 49 (.tmp 2) (.tmp 22), none⟩]
def f106_c : LC := (.seq (.reg f106_r0 [] none) (.seq (.reg f106_r1 [] none) (.seq (.seq (.reg f106_r2 [] none) (.block 0 (.loop f106_l7))) (.seq (.reg f106_r8 [] none) .ret))))
theorem f106_lc : Tryz.f106.body.map lc = some f106_c.st := by kernel_rfl
theorem f106_res : Tryz.f106.results.toList = [.cell 2 49] := by kernel_rfl
theorem f106_nt : Tryz.f106.ntmps = 23 := by kernel_rfl
theorem f106_nm : (Tryz.f106.name == "runtime.NumGoroutine") = false := by kernel_rfl
/-! (*quill/read.reader).sign -/
def f107_r0 : List LOp := [
  ⟨some 2, .assign (.const (.int .u8 0)), none⟩]
def f107_r1 : List LOp := [
  ⟨some 7, .move (.tmp 0), none⟩,
  ⟨some 8, .call { callee := .value (.func 88), args := #[.tmp 7], argTypes := #[92] }, none⟩,
  ⟨some 9, .unOp .not 4 (.tmp 8), none⟩]
def f107_r2 : List LOp := [
  ⟨some 10, .move (.tmp 0), none⟩,
  ⟨some 11, .nilCheck (.tmp 10), none⟩,
  ⟨some 12, .fieldAddr 94 (.tmp 11) 1, none⟩,
  ⟨some 13, .load 3 (.tmp 12), none⟩,
  ⟨some 14, .build 108 #[(0, .tmp 13)], none⟩,
  ⟨some 15, .makeInterface 108 (.tmp 14), none⟩,
  ⟨none, .panic (.tmp 15), none⟩]
def f107_r3 : List LOp := [
  ⟨some 16, .move (.tmp 0), none⟩,
  ⟨some 17, .nilCheck (.tmp 16), none⟩,
  ⟨some 18, .fieldAddr 94 (.tmp 17) 0, none⟩,
  ⟨some 19, .load 9 (.tmp 18), none⟩,
  ⟨some 20, .move (.tmp 0), none⟩,
  ⟨some 21, .nilCheck (.tmp 20), none⟩,
  ⟨some 22, .fieldAddr 94 (.tmp 21) 1, none⟩,
  ⟨some 23, .load 3 (.tmp 22), none⟩,
  ⟨some 24, .index 9 (.tmp 19) (.tmp 23), none⟩,
  ⟨some 3, .assign (.tmp 24), none⟩]
def f107_r4 : List LOp := [
  ⟨some 25, .move (.tmp 0), none⟩,
  ⟨some 26, .nilCheck (.tmp 25), none⟩,
  ⟨some 27, .fieldAddr 94 (.tmp 26) 1, none⟩,
  ⟨some 28, .load 3 (.tmp 27), none⟩,
  ⟨some 29, .binOp .add 3 (.tmp 28) (.const (.int .i64 1)) 3, none⟩,
  ⟨some 30, .nilCheck (.tmp 25), none⟩,
  ⟨some 31, .fieldAddr 94 (.tmp 30) 1, none⟩,
  ⟨none, .store 3 (.tmp 31) (.tmp 29), none⟩]
def f107_r5 : List LOp := [
  ⟨some 32, .move (.tmp 3), none⟩,
  ⟨some 33, .binOp .neq 5 (.tmp 32) (.const (.int .u8 92)) 5, none⟩]
def f107_r6 : List LOp := [
  ⟨some 34, .move (.tmp 3), none⟩,
  ⟨some 2, .assign (.tmp 34), none⟩]
def f107_r7 : List LOp := [
  ⟨some 35, .move (.tmp 0), none⟩,
  ⟨some 36, .nilCheck (.tmp 35), none⟩,
  ⟨some 37, .fieldAddr 94 (.tmp 36) 1, none⟩,
  ⟨some 38, .load 3 (.tmp 37), none⟩,
  ⟨some 4, .assign (.tmp 38), none⟩]
def f107_r8 : List LOp := [
  ⟨some 39, .move (.tmp 0), none⟩,
  ⟨some 40, .call { callee := .value (.func 110), args := #[.tmp 39], argTypes := #[92] }, none⟩]
def f107_r9 : List LOp := [
  ⟨some 41, .move (.tmp 0), none⟩,
  ⟨some 42, .call { callee := .value (.func 110), args := #[.tmp 41], argTypes := #[92] }, none⟩]
def f107_r10 : List LOp := [
  ⟨some 44, .move (.tmp 0), none⟩,
  ⟨some 45, .nilCheck (.tmp 44), none⟩,
  ⟨some 46, .fieldAddr 94 (.tmp 45) 0, none⟩,
  ⟨some 47, .load 9 (.tmp 46), none⟩,
  ⟨some 48, .move (.tmp 4), none⟩,
  ⟨some 49, .move (.tmp 0), none⟩,
  ⟨some 50, .nilCheck (.tmp 49), none⟩,
  ⟨some 51, .fieldAddr 94 (.tmp 50) 1, none⟩,
  ⟨some 52, .load 3 (.tmp 51), none⟩,
  ⟨some 53, .slice 9 (.tmp 47) (some (.tmp 48)) (some (.tmp 52)) none, none⟩,
  ⟨some 54, .call { callee := .value (.func 111), args := #[.tmp 53], argTypes := #[9] }, none⟩,
  ⟨some 43, .move (.tmp 54), none⟩,
  ⟨some 55, .extract (.tmp 43) 0, none⟩,
  ⟨some 56, .extract (.tmp 43) 1, none⟩,
  ⟨some 5, .assign (.tmp 55), none⟩,
  ⟨some 6, .assign (.tmp 56), none⟩]
def f107_r11 : List LOp := [
  ⟨some 57, .move (.tmp 5), none⟩,
  ⟨some 58, .indexAddr 61 (.tmp 57) (.const (.int .i64 0)), none⟩,
  ⟨some 59, .load 5 (.tmp 58), none⟩,
  ⟨some 2, .assign (.tmp 59), none⟩]
def f107_c : LC := (.seq (.reg f107_r0 [] none) (.seq (.seq (.reg f107_r1 [] none) (.cond (.tmp 9) (.reg f107_r2 [] none) .skip)) (.seq (.reg f107_r3 [] (some 8)) (.seq (.reg f107_r4 [] none) (.seq (.seq (.reg f107_r5 [] none) (.cond (.tmp 33) (.seq (.reg f107_r6 [] none) .ret) .skip)) (.seq (.reg f107_r7 [] none) (.seq (.reg f107_r8 [] none) (.seq (.reg f107_r9 [] none) (.seq (.regq f107_r10 [] 12 (.both (.op 12 (.both (.op 13 (.op 14 (.op 15 .done))) (.op 14 (.op 13 (.op 15 .done))))) (.op 13 (.op 12 (.op 14 (.op 15 .done)))))) (.seq (.reg f107_r11 [] none) .ret))))))))))
theorem f107_lc : Tryz.f107.body.map lc = some f107_c.st := by kernel_rfl
theorem f107_res : Tryz.f107.results.toList = [.tmp 2] := by kernel_rfl
theorem f107_nt : Tryz.f107.ntmps = 60 := by kernel_rfl
theorem f107_nm : (Tryz.f107.name == "runtime.NumGoroutine") = false := by kernel_rfl
/-! slices.Backward[[]quill/api.Re,quill/api.Re]$1 -/
def f108_r0 : List LOp := [
  ⟨some 4, .load 50 (.tmp 1), none⟩,
  ⟨some 5, .call { callee := .builtin .len, args := #[.tmp 4], argTypes := #[50] }, none⟩,
  ⟨some 6, .binOp .sub 3 (.tmp 5) (.const (.int .i64 1)) 3, none⟩,
  ⟨some 3, .assign (.tmp 6), none⟩]
def f108_r1 : List LOp := [
  ⟨some 7, .move (.tmp 3), none⟩,
  ⟨some 8, .binOp .geq 3 (.tmp 7) (.const (.int .i64 0)) 3, none⟩]
def f108_r2 : List LOp := [
  ⟨some 11, .move (.tmp 0), none⟩,
  ⟨some 12, .move (.tmp 3), none⟩,
  ⟨some 13, .load 50 (.tmp 1), none⟩,
  ⟨some 14, .move (.tmp 3), none⟩,
  ⟨some 15, .indexAddr 50 (.tmp 13) (.tmp 14), none⟩,
  ⟨some 16, .load 52 (.tmp 15), none⟩,
  ⟨some 17, .call { callee := .value (.tmp 11), args := #[.tmp 12, .tmp 16], argTypes := #[3, 52] }, none⟩,
  ⟨some 18, .unOp .not 4 (.tmp 17), none⟩]
def f108_r3 : List LOp := [
  ⟨some 9, .move (.tmp 3), none⟩,
  ⟨some 10, .binOp .sub 3 (.tmp 9) (.const (.int .i64 1)) 3, none⟩,
  ⟨some 3, .assign (.tmp 10), none⟩]
def f108_l4 : LC := (.seq (.seq (.reg f108_r1 [] none) (.cond (.tmp 8) .skip (.exit 0))) (.seq (.block 1 (.seq (.reg f108_r2 [] none) (.cond (.tmp 18) .ret .skip))) (.reg f108_r3 [] none)))
def f108_i4 (t0 t1 t3 : D) : List D := [t0, t1, .any, t3, .any, .any, .any, .any, .any, .any, .any, .any, .any, .any, .any, .any, .any, .any, .any]
def f108_c : LC := (.seq (.reg f108_r0 [] none) (.block 0 (.loop f108_l4)))
theorem f108_lc : Tryz.f108.body.map lc = some f108_c.st := by kernel_rfl
theorem f108_res : Tryz.f108.results.toList = [] := by kernel_rfl
theorem f108_nt : Tryz.f108.ntmps = 19 := by kernel_rfl
theorem f108_nm : (Tryz.f108.name == "runtime.NumGoroutine") = false := by kernel_rfl
/-! quill/set.Join -/
def f109_r0 : List LOp := [
  ⟨some 2, .alloc 49, none⟩]
def f109_r1 : List LOp := [
  ⟨some 3, .alloc 49, none⟩]
def f109_r2 : List LOp := [
  ⟨some 7, .move (.tmp 0), none⟩,
  ⟨some 8, .call { callee := .builtin .len, args := #[.tmp 7], argTypes := #[154] }, none⟩,
  ⟨some 9, .move (.const (.int .i64 0)), none⟩]
def f109_r3 : List LOp := [
  ⟨some 10, .binOp .lss 3 (.tmp 9) (.tmp 8) 3, none⟩]
def f109_r4 : List LOp := [
  ⟨some 11, .indexAddr 154 (.tmp 7) (.tmp 9), none⟩,
  ⟨some 12, .load 49 (.tmp 11), none⟩,
  ⟨some 5, .alloc 49, none⟩,
  ⟨none, .store 49 (.tmp 5) (.tmp 12), none⟩]
def f109_r5 : List LOp := [
  ⟨some 13, .move (.const (.int .i64 0)), none⟩]
def f109_r6 : List LOp := [
  ⟨some 14, .binOp .lss 3 (.tmp 13) (.const (.int .i64 4)) 3, none⟩]
def f109_r7 : List LOp := [
  ⟨some 15, .move (.tmp 13), none⟩,
  ⟨some 6, .assign (.tmp 15), none⟩]
def f109_r8 : List LOp := [
  ⟨some 16, .move (.tmp 6), none⟩,
  ⟨some 17, .indexAddr 49 (.tmp 3) (.tmp 16), none⟩,
  ⟨some 18, .load 47 (.tmp 17), none⟩,
  ⟨some 19, .move (.tmp 6), none⟩,
  ⟨some 20, .indexAddr 49 (.tmp 5) (.tmp 19), none⟩,
  ⟨some 21, .load 47 (.tmp 20), none⟩,
  ⟨some 22, .binOp .or 47 (.tmp 18) (.tmp 21) 47, none⟩,
  ⟨some 23, .indexAddr 49 (.tmp 3) (.tmp 16), none⟩,
  ⟨none, .store 47 (.tmp 23) (.tmp 22), none⟩]
def f109_r9 : List LOp := [
  ⟨some 24, .binOp .add 3 (.tmp 13) (.const (.int .i64 1)) 3, none⟩,
  ⟨some 13, .move (.tmp 24), none⟩]
def f109_l10 : LC := (.seq (.reg f109_r6 [] none) (.seq (.cond (.tmp 14) .skip (.exit 2)) (.seq (.block 3 (.seq (.reg f109_r7 [] none) (.reg f109_r8 [] (some 6)))) (.reg f109_r9 [] none))))
def f109_i10 (t2 t3 t5 t7 t8 t9 t13 : D) : List D := [.any, .any, t2, t3, .any, t5, .any, t7, t8, t9, .any, .any, .any, t13, .any, .any, .any, .any, .any, .any, .any, .any, .any, .any, .any, .any, .any]
def f109_r11 : List LOp := [
  ⟨some 25, .binOp .add 3 (.tmp 9) (.const (.int .i64 1)) 3, none⟩,
  ⟨some 9, .move (.tmp 25), none⟩]
def f109_l12 : LC := (.seq (.reg f109_r3 [] none) (.seq (.cond (.tmp 10) .skip (.exit 0)) (.seq (.block 1 (.seq (.reg f109_r4 [] none) (.seq (.reg f109_r5 [] none) (.block 2 (.loop f109_l10))))) (.reg f109_r11 [] none))))
def f109_i12 (t2 t3 t7 t8 t9 : D) : List D := [.any, .any, t2, t3, .any, .any, .any, t7, t8, t9, .any, .any, .any, .any, .any, .any, .any, .any, .any, .any, .any, .any, .any, .any, .any, .any, .any]
def f109_r13 : List LOp := [
  ⟨some 26, .load 49 (.tmp 3), none⟩,
  ⟨none, .store 49 (.tmp 2) (.tmp 26), none⟩]
def f109_c : LC := (.seq (.reg f109_r0 [] none) (.seq (.reg f109_r1 [] none) (.seq (.seq (.reg f109_r2 [] none) (.block 0 (.loop f109_l12))) (.seq (.reg f109_r13 [] none) .ret))))
theorem f109_lc : Tryz.f109.body.map lc = some f109_c.st := by kernel_rfl
theorem f109_res : Tryz.f109.results.toList = [.cell 2 49] := by kernel_rfl
theorem f109_nt : Tryz.f109.ntmps = 27 := by kernel_rfl
theorem f109_nm : (Tryz.f109.name == "runtime.NumGoroutine") = false := by kernel_rfl
/-! (*quill/read.reader).digit -/
def f110_r0 : List LOp := [
  ⟨some 2, .move (.tmp 0), none⟩,
  ⟨some 3, .call { callee := .value (.func 75), args := #[.tmp 2, .const (.string { data := #[48, 49, 50, 51, 52, 53, 54, 55, 56, 57, 97, 98, 99, 100, 101, 102] })], argTypes := #[92, 9] }, none⟩,
  ⟨some 4, .unOp .not 4 (.tmp 3), none⟩]
def f110_r1 : List LOp := [
  ⟨some 5, .move (.tmp 0), none⟩,
  ⟨some 6, .nilCheck (.tmp 5), none⟩,
  ⟨some 7, .fieldAddr 94 (.tmp 6) 1, none⟩,
  ⟨some 8, .load 3 (.tmp 7), none⟩,
  ⟨some 9, .build 108 #[(0, .tmp 8)], none⟩,
  ⟨some 10, .makeInterface 108 (.tmp 9), none⟩,
  ⟨none, .panic (.tmp 10), none⟩]
def f110_r2 : List LOp := [
  ⟨some 11, .move (.tmp 0), none⟩,
  ⟨some 12, .nilCheck (.tmp 11), none⟩,
  ⟨some 13, .fieldAddr 94 (.tmp 12) 1, none⟩,
  ⟨some 14, .load 3 (.tmp 13), none⟩,
  ⟨some 15, .binOp .add 3 (.tmp 14) (.const (.int .i64 1)) 3, none⟩,
  ⟨some 16, .nilCheck (.tmp 11), none⟩,
  ⟨some 17, .fieldAddr 94 (.tmp 16) 1, none⟩,
  ⟨none, .store 3 (.tmp 17) (.tmp 15), none⟩]
def f110_c : LC := (.seq (.seq (.reg f110_r0 [] none) (.cond (.tmp 4) (.reg f110_r1 [] none) .skip)) (.reg f110_r2 [] none))
theorem f110_lc : Tryz.f110.body.map lc = some f110_c.st := by kernel_rfl
theorem f110_res : Tryz.f110.results.toList = [] := by kernel_rfl
theorem f110_nt : Tryz.f110.ntmps = 18 := by kernel_rfl
theorem f110_nm : (Tryz.f110.name == "runtime.NumGoroutine") = false := by kernel_rfl
/-! quill/num.ReadHex -/
def f111_r0 : List LOp := [
  ⟨some 2, .assign (.const (.slice none 0 0)), none⟩,
  ⟨some 3, .assign (.const (.int .i64 0)), none⟩]
def f111_r1 : List LOp := [
  ⟨some 4, .assign (.const (.slice none 0 0)), none⟩]
def f111_r2 : List LOp := [
  ⟨some 5, .assign (.const (.int .i64 0)), none⟩]
def f111_r3 : List LOp := [
  ⟨some 8, .move (.tmp 5), none⟩,
  ⟨some 9, .binOp .add 3 (.tmp 8) (.const (.int .i64 1)) 3, none⟩,
  ⟨some 10, .move (.tmp 0), none⟩,
  ⟨some 11, .call { callee := .builtin .len, args := #[.tmp 10], argTypes := #[9] }, none⟩,
  ⟨some 12, .binOp .lss 3 (.tmp 9) (.tmp 11) 3, none⟩]
def f111_r4 : List LOp := [
  ⟨some 15, .move (.tmp 0), none⟩,
  ⟨some 16, .move (.tmp 5), none⟩,
  ⟨some 17, .index 9 (.tmp 15) (.tmp 16), none⟩,
  ⟨some 18, .call { callee := .value (.func 25), args := #[.const (.string { data := #[48, 49, 50, 51, 52, 53, 54, 55, 56, 57, 97, 98, 99, 100, 101, 102] }), .tmp 17], argTypes := #[9, 5] }, none⟩,
  ⟨some 6, .assign (.tmp 18), none⟩]
def f111_r5 : List LOp := [
  ⟨some 19, .move (.tmp 0), none⟩,
  ⟨some 20, .move (.tmp 5), none⟩,
  ⟨some 21, .binOp .add 3 (.tmp 20) (.const (.int .i64 1)) 3, none⟩,
  ⟨some 22, .index 9 (.tmp 19) (.tmp 21), none⟩,
  ⟨some 23, .call { callee := .value (.func 25), args := #[.const (.string { data := #[48, 49, 50, 51, 52, 53, 54, 55, 56, 57, 97, 98, 99, 100, 101, 102] }), .tmp 22], argTypes := #[9, 5] }, none⟩,
  ⟨some 7, .assign (.tmp 23), none⟩]
def f111_r6 : List LOp := [
  ⟨some 24, .move (.tmp 6), none⟩,
  ⟨some 25, .binOp .lss 3 (.tmp 24) (.const (.int .i64 0)) 3, none⟩,
  ⟨some 26, .move (.tmp 25), none⟩,
  ⟨some 27, .move (.tmp 7), some (2, false)⟩,
  ⟨some 28, .binOp .lss 3 (.tmp 27) (.const (.int .i64 0)) 3, some (2, false)⟩,
  ⟨some 29, .pick (.tmp 26) (.const (.bool true)) (.tmp 28), none⟩]
def f111_r7 : List LOp := [
  ⟨some 2, .assign (.const (.slice none 0 0)), none⟩,
  ⟨some 3, .assign (.const (.int .i64 2)), none⟩]
def f111_r8 : List LOp := [
  ⟨some 30, .move (.tmp 4), none⟩,
  ⟨some 31, .move (.tmp 6), none⟩,
  ⟨some 32, .binOp .shl 3 (.tmp 31) (.const (.int .u64 4)) 120, none⟩,
  ⟨some 33, .move (.tmp 7), none⟩,
  ⟨some 34, .binOp .or 3 (.tmp 32) (.tmp 33) 3, none⟩,
  ⟨some 35, .convert 3 5 (.tmp 34), none⟩,
  ⟨some 36, .buildSlice 61 1 #[(0, .tmp 35)], none⟩,
  ⟨some 37, .call { callee := .builtin .append, args := #[.tmp 30, .tmp 36], argTypes := #[61, 61] }, none⟩,
  ⟨some 4, .assign (.tmp 37), none⟩]
def f111_r9 : List LOp := [
  ⟨some 13, .move (.tmp 5), none⟩,
  ⟨some 14, .binOp .add 3 (.tmp 13) (.const (.int .i64 2)) 3, none⟩,
  ⟨some 5, .assign (.tmp 14), none⟩]
def f111_l10 : LC := (.seq (.seq (.reg f111_r3 [] none) (.cond (.tmp 12) .skip (.exit 0))) (.seq (.block 1 (.seq (.reg f111_r4 [] none) (.seq (.reg f111_r5 [] none) (.seq (.seq (.reg f111_r6 [] none) (.cond (.tmp 29) (.seq (.reg f111_r7 [] none) .ret) .skip)) (.reg f111_r8 [] none))))) (.reg f111_r9 [] none)))
def f111_i10 (t0 t4 t5 : D) : List D := [t0, .any, .any, .any, t4, t5, .any, .any, .any, .any, .any, .any, .any, .any, .any, .any, .any, .any, .any, .any, .any, .any, .any, .any, .any, .any, .any, .any, .any, .any, .any, .any, .any, .any, .any, .any, .any, .any, .any, .any, .any, .any, .any]
def f111_r11 : List LOp := [
  ⟨some 38, .move (.tmp 0), none⟩,
  ⟨some 39, .call { callee := .builtin .len, args := #[.tmp 38], argTypes := #[9] }, none⟩,
  ⟨some 40, .binOp .rem 3 (.tmp 39) (.const (.int .i64 2)) 3, none⟩,
  ⟨some 41, .binOp .eql 3 (.tmp 40) (.const (.int .i64 1)) 3, none⟩]
def f111_r12 : List LOp := [
  ⟨some 2, .assign (.const (.slice none 0 0)), none⟩,
  ⟨some 3, .assign (.const (.int .i64 2)), none⟩]
def f111_r13 : List LOp := [
  ⟨some 42, .move (.tmp 4), none⟩,
  ⟨some 2, .assign (.tmp 42), none⟩,
  ⟨some 3, .assign (.const (.int .i64 0)), none⟩]
def f111_c : LC := (.seq (.reg f111_r0 [] none) (.seq (.reg f111_r1 [] none) (.seq (.seq (.reg f111_r2 [] none) (.block 0 (.loop f111_l10))) (.seq (.seq (.reg f111_r11 [] none) (.cond (.tmp 41) (.seq (.reg f111_r12 [] none) .ret) .skip)) (.seq (.reg f111_r13 [] none) .ret)))))
theorem f111_lc : Tryz.f111.body.map lc = some f111_c.st := by kernel_rfl
theorem f111_res : Tryz.f111.results.toList = [.tmp 2, .tmp 3] := by kernel_rfl
theorem f111_nt : Tryz.f111.ntmps = 43 := by kernel_rfl
theorem f111_nm : (Tryz.f111.name == "runtime.NumGoroutine") = false := by kernel_rfl
attribute [go_sem] f55_r0 f55_r1 f55_r2 f55_r3 f55_r4 f55_r5 f55_r6 f55_r7 f55_r8 f55_r9 f55_r10 f55_r11 f55_r12 f55_r13 f55_r14 f55_r15 f55_r16 f55_r17 f55_r18 f55_r19 f55_r20 f55_r21 f55_r22 f55_r23 f55_r24 f55_r25 f55_r26 f55_r27 f55_r28 f55_r29 f55_r30 f55_r31 f55_r32 f55_r33 f55_r34 f55_l35 f55_r36 f55_c f56_r0 f56_r1 f56_r2 f56_r3 f56_r4 f56_r5 f56_r6 f56_l7 f56_i7 f56_r8 f56_c f57_r0 f57_r1 f57_r2 f57_r3 f57_r4 f57_r5 f57_r6 f57_r7 f57_c f58_r0 f58_r1 f58_r2 f58_r3 f58_r4 f58_l5 f58_i5 f58_r6 f58_c f59_r0 f59_r1 f59_c f60_r0 f60_r1 f60_r2 f60_r3 f60_r4 f60_r5 f60_r6 f60_r7 f60_r8 f60_r9 f60_r10 f60_r11 f60_r12 f60_r13 f60_r14 f60_r15 f60_r16 f60_r17 f60_c f61_r0 f61_r1 f61_c f62_r0 f62_r1 f62_c f63_r0 f63_r1 f63_c f64_r0 f64_r1 f64_r2 f64_r3 f64_r4 f64_r5 f64_r6 f64_l7 f64_i7 f64_r8 f64_c f65_r0 f65_r1 f65_r2 f65_r3 f65_r4 f65_r5 f65_r6 f65_r7 f65_r8 f65_r9 f65_r10 f65_r11 f65_r12 f65_r13 f65_c f66_r0 f66_r1 f66_c f67_r0 f67_r1 f67_r2 f67_r3 f67_r4 f67_r5 f67_r6 f67_l7 f67_i7 f67_r8 f67_c f68_r0 f68_r1 f68_r2 f68_r3 f68_r4 f68_r5 f68_r6 f68_r7 f68_l8 f68_i8 f68_r9 f68_l10 f68_i10 f68_r11 f68_c f69_r0 f69_r1 f69_c f70_r0 f70_r1 f70_r2 f70_r3 f70_c f74_r0 f74_r1 f74_r2 f74_r3 f74_l4 f74_i4 f74_r5 f74_c f75_r0 f75_r1 f75_c f76_r0 f76_r1 f76_c f77_r0 f77_r1 f77_r2 f77_r3 f77_c f78_r0 f78_r1 f78_r2 f78_r3 f78_c f79_r0 f79_r1 f79_r2 f79_r3 f79_r4 f79_r5 f79_l6 f79_i6 f79_r7 f79_c f80_r0 f80_r1 f80_r2 f80_r3 f80_r4 f80_r5 f80_r6 f80_r7 f80_r8 f80_r9 f80_r10 f80_r11 f80_r12 f80_r13 f80_r14 f80_r15 f80_r16 f80_l17 f80_i17 f80_r18 f80_c f81_r0 f81_r1 f81_c f82_r0 f82_r1 f82_r2 f82_r3 f82_r4 f82_r5 f82_r6 f82_r7 f82_r8 f82_r9 f82_r10 f82_r11 f82_l12 f82_i12 f82_r13 f82_c f83_r0 f83_r1 f83_r2 f83_r3 f83_r4 f83_r5 f83_r6 f83_l7 f83_i7 f83_r8 f83_c f84_r0 f84_r1 f84_r2 f84_r3 f84_c f85_r0 f85_r1 f85_r2 f85_r3 f85_r4 f85_r5 f85_r6 f85_l7 f85_i7 f85_r8 f85_c f87_r0 f87_r1 f87_r2 f87_r3 f87_r4 f87_l5 f87_i5 f87_r6 f87_c f88_r0 f88_r1 f88_c f89_r0 f89_r1 f89_c f90_r0 f90_r1 f90_r2 f90_r3 f90_r4 f90_r5 f90_r6 f90_a7 f90_b7 f90_r8 f90_c f91_r0 f91_r1 f91_r2 f91_r3 f91_r4 f91_r5 f91_r6 f91_l7 f91_i7 f91_r8 f91_c f92_r0 f92_r1 f92_r2 f92_r3 f92_r4 f92_r5 f92_r6 f92_l7 f92_i7 f92_r8 f92_c f93_r0 f93_r1 f93_r2 f93_r3 f93_r4 f93_r5 f93_r6 f93_r7 f93_l8 f93_i8 f93_r9 f93_r10 f93_c f94_r0 f94_r1 f94_r2 f94_r3 f94_r4 f94_r5 f94_r6 f94_l7 f94_i7 f94_r8 f94_c f95_r0 f95_r1 f95_r2 f95_r3 f95_r4 f95_r5 f95_c f96_r0 f96_r1 f96_c f97_r0 f97_r1 f97_r2 f97_r3 f97_r4 f97_r5 f97_r6 f97_r7 f97_r8 f97_r9 f97_r10 f97_r11 f97_r12 f97_r13 f97_r14 f97_r15 f97_c f98_r0 f98_r1 f98_c f99_r0 f99_r1 f99_c f100_r0 f100_r1 f100_c f101_r0 f101_r1 f101_r2 f101_r3 f101_r4 f101_r5 f101_l6 f101_i6 f101_r7 f101_c f102_r0 f102_r1 f102_r2 f102_r3 f102_c f103_r0 f103_r1 f103_r2 f103_r3 f103_r4 f103_r5 f103_l6 f103_i6 f103_r7 f103_c f104_r0 f104_r1 f104_r2 f104_r3 f104_r4 f104_r5 f104_r6 f104_r7 f104_r8 f104_r9 f104_r10 f104_r11 f104_l12 f104_i12 f104_r13 f104_r14 f104_c f105_r0 f105_r1 f105_r2 f105_c f106_r0 f106_r1 f106_r2 f106_r3 f106_r4 f106_r5 f106_r6 f106_l7 f106_i7 f106_r8 f106_c f107_r0 f107_r1 f107_r2 f107_r3 f107_r4 f107_r5 f107_r6 f107_r7 f107_r8 f107_r9 f107_r10 f107_r11 f107_c f108_r0 f108_r1 f108_r2 f108_r3 f108_l4 f108_i4 f108_c f109_r0 f109_r1 f109_r2 f109_r3 f109_r4 f109_r5 f109_r6 f109_r7 f109_r8 f109_r9 f109_l10 f109_i10 f109_r11 f109_l12 f109_i12 f109_r13 f109_c f110_r0 f110_r1 f110_r2 f110_c f111_r0 f111_r1 f111_r2 f111_r3 f111_r4 f111_r5 f111_r6 f111_r7 f111_r8 f111_r9 f111_l10 f111_i10 f111_r11 f111_r12 f111_r13 f111_c
end Go.Proofs.YtdliolbjngcgcaaGreatDoor.W
