/- Part of a program logic over data: rules of the walk, each proved. -/
import Derived.Test.YteifkcgokjmcjaaGen
set_option linter.unusedVariables false
set_option linter.unusedSimpArgs false
set_option linter.unusedSectionVars false
set_option maxRecDepth 100000
namespace Go.Proofs.Yteifkcgokjmcjaa.W
open Go Go.Proofs Go.Proofs.Yteifkcgokjmcjaa.AWP

/-! gosem.cut.init -/
def f2_r0 : List LOp := [
  ⟨some 0, .call { callee := .value (.func 1), args := #[], argTypes := #[] }, none⟩]
def f2_c : LC := (.reg f2_r0 [] none)
theorem f2_lc : Try.f2.body.map lc = some f2_c.st := by kernel_rfl
theorem f2_res : Try.f2.results.toList = [] := by kernel_rfl
theorem f2_nt : Try.f2.ntmps = 1 := by kernel_rfl
theorem f2_nm : (Try.f2.name == "runtime.NumGoroutine") = false := by kernel_rfl

/-! quill/quilllaw10.MatchMoves -/
def f7_r0 : List LOp := [
  ⟨some 3, .box 28 (.tmp 0), none⟩,
  ⟨some 6, .assign (.const (.bool false)), none⟩]
def f7_r1 : List LOp := [
  ⟨some 10, .load 28 (.tmp 3), none⟩,
  ⟨some 11, .call { callee := .value (.func 21), args := #[.tmp 10, .const (.int .i64 60)], argTypes := #[28, 3] }, none⟩,
  ⟨some 12, .move (.tmp 11), none⟩,
  ⟨some 13, .move (.tmp 1), some (2, false)⟩,
  ⟨some 14, .call { callee := .builtin .len, args := #[.tmp 13], argTypes := #[9] }, some (2, false)⟩,
  ⟨some 15, .binOp .gtr 3 (.tmp 14) (.const (.int .i64 20)) 3, some (2, false)⟩,
  ⟨some 16, .pick (.tmp 12) (.const (.bool true)) (.tmp 15), none⟩,
  ⟨some 17, .move (.tmp 16), none⟩,
  ⟨some 18, .move (.tmp 2), some (7, false)⟩,
  ⟨some 19, .binOp .lss 3 (.tmp 18) (.const (.int .i64 0)) 3, some (7, false)⟩,
  ⟨some 20, .pick (.tmp 17) (.const (.bool true)) (.tmp 19), none⟩,
  ⟨some 21, .move (.tmp 20), none⟩,
  ⟨some 22, .move (.tmp 2), some (11, false)⟩,
  ⟨some 23, .move (.tmp 1), some (11, false)⟩,
  ⟨some 24, .call { callee := .builtin .len, args := #[.tmp 23], argTypes := #[9] }, some (11, false)⟩,
  ⟨some 25, .binOp .gtr 3 (.tmp 22) (.tmp 24) 3, some (11, false)⟩,
  ⟨some 26, .pick (.tmp 21) (.const (.bool true)) (.tmp 25), none⟩]
def f7_r2 : List LOp := [
  ⟨some 27, .call { callee := .value (.func 22), args := #[], argTypes := #[] }, none⟩,
  ⟨some 6, .assign (.tmp 27), none⟩]
def f7_r3 : List LOp := [
  ⟨some 28, .load 28 (.tmp 3), none⟩,
  ⟨some 29, .move (.tmp 1), none⟩,
  ⟨some 30, .move (.tmp 2), none⟩,
  ⟨some 31, .call { callee := .value (.func 23), args := #[.tmp 28, .tmp 29, .tmp 30], argTypes := #[28, 9, 3] }, none⟩,
  ⟨some 32, .load 28 (.tmp 3), none⟩,
  ⟨some 33, .move (.tmp 1), none⟩,
  ⟨some 34, .move (.tmp 2), none⟩,
  ⟨some 35, .slice 9 (.tmp 33) (some (.tmp 34)) none none, none⟩,
  ⟨some 36, .call { callee := .value (.func 23), args := #[.tmp 32, .tmp 35, .const (.int .i64 0)], argTypes := #[28, 9, 3] }, none⟩,
  ⟨some 7, .assign (.tmp 31), none⟩,
  ⟨some 8, .assign (.tmp 36), none⟩]
def f7_r4 : List LOp := [
  ⟨some 37, .move (.tmp 7), none⟩,
  ⟨some 38, .call { callee := .builtin .len, args := #[.tmp 37], argTypes := #[46] }, none⟩,
  ⟨some 39, .move (.tmp 8), none⟩,
  ⟨some 40, .call { callee := .builtin .len, args := #[.tmp 39], argTypes := #[46] }, none⟩,
  ⟨some 41, .binOp .neq 3 (.tmp 38) (.tmp 40) 3, none⟩]
def f7_r5 : List LOp := [
  ⟨some 6, .assign (.const (.bool false)), none⟩]
def f7_r6 : List LOp := [
  ⟨some 9, .assign (.const (.int .i64 0)), none⟩]
def f7_r7 : List LOp := [
  ⟨some 42, .move (.tmp 9), none⟩,
  ⟨some 43, .move (.tmp 7), none⟩,
  ⟨some 44, .call { callee := .builtin .len, args := #[.tmp 43], argTypes := #[46] }, none⟩,
  ⟨some 45, .binOp .lss 3 (.tmp 42) (.tmp 44) 3, none⟩]
def f7_r8 : List LOp := [
  ⟨some 48, .move (.tmp 7), none⟩,
  ⟨some 49, .move (.tmp 9), none⟩,
  ⟨some 50, .indexAddr 46 (.tmp 48) (.tmp 49), none⟩,
  ⟨some 51, .load 3 (.tmp 50), none⟩,
  ⟨some 52, .move (.tmp 8), none⟩,
  ⟨some 53, .move (.tmp 9), none⟩,
  ⟨some 54, .indexAddr 46 (.tmp 52) (.tmp 53), none⟩,
  ⟨some 55, .load 3 (.tmp 54), none⟩,
  ⟨some 56, .move (.tmp 2), none⟩,
  ⟨some 57, .binOp .add 3 (.tmp 55) (.tmp 56) 3, none⟩,
  ⟨some 58, .binOp .neq 3 (.tmp 51) (.tmp 57) 3, none⟩]
def f7_r9 : List LOp := [
  ⟨some 6, .assign (.const (.bool false)), none⟩]
def f7_r10 : List LOp := [
  ⟨some 46, .move (.tmp 9), none⟩,
  ⟨some 47, .binOp .add 3 (.tmp 46) (.const (.int .i64 1)) 3, none⟩,
  ⟨some 9, .assign (.tmp 47), none⟩]
def f7_l11 : LC := (.seq (.seq (.reg f7_r7 [] none) (.cond (.tmp 45) .skip (.exit 0))) (.seq (.block 1 (.seq (.reg f7_r8 [] (some 10)) (.cond (.tmp 58) (.seq (.reg f7_r9 [] none) .ret) .skip))) (.reg f7_r10 [] none)))
def f7_i11 (t2 t7 t8 t9 : D) : List D := [.any, .any, t2, .any, .any, .any, .any, t7, t8, t9, .any, .any, .any, .any, .any, .any, .any, .any, .any, .any, .any, .any, .any, .any, .any, .any, .any, .any, .any, .any, .any, .any, .any, .any, .any, .any, .any, .any, .any, .any, .any, .any, .any, .any, .any, .any, .any, .any, .any, .any, .any, .any, .any, .any, .any, .any, .any, .any, .any, .any]
def f7_r12 : List LOp := [
  ⟨some 59, .call { callee := .value (.func 22), args := #[], argTypes := #[] }, none⟩,
  ⟨some 6, .assign (.tmp 59), none⟩]
def f7_c : LC := (.seq (.reg f7_r0 [] none) (.seq (.seq (.reg f7_r1 [] none) (.cond (.tmp 26) (.seq (.reg f7_r2 [] none) .ret) .skip)) (.seq (.regp f7_r3 [] [1, 2, 5, 6] 8) (.seq (.seq (.reg f7_r4 [] none) (.cond (.tmp 41) (.seq (.reg f7_r5 [] none) .ret) .skip)) (.seq (.seq (.reg f7_r6 [] none) (.block 0 (.loop f7_l11))) (.seq (.reg f7_r12 [] none) .ret))))))
theorem f7_lc : Try.f7.body.map lc = some f7_c.st := by kernel_rfl
theorem f7_res : Try.f7.results.toList = [.tmp 6] := by kernel_rfl
theorem f7_nt : Try.f7.ntmps = 60 := by kernel_rfl
theorem f7_nm : (Try.f7.name == "runtime.NumGoroutine") = false := by kernel_rfl

/-! quill/quilllaw07.NullIs -/
def f8_r0 : List LOp := [
  ⟨some 2, .assign (.const (.bool false)), none⟩]
def f8_r1 : List LOp := [
  ⟨some 6, .move (.tmp 0), none⟩,
  ⟨some 7, .call { callee := .value (.func 24), args := #[.tmp 6, .const (.int .i64 200)], argTypes := #[26, 3] }, none⟩]
def f8_r2 : List LOp := [
  ⟨some 8, .call { callee := .value (.func 25), args := #[], argTypes := #[] }, none⟩,
  ⟨some 2, .assign (.tmp 8), none⟩]
def f8_r3 : List LOp := [
  ⟨some 3, .assign (.const (.bool true)), none⟩,
  ⟨some 4, .assign (.const (.bool false)), none⟩]
def f8_r4 : List LOp := [
  ⟨some 5, .assign (.const (.int .i64 0)), none⟩]
def f8_r5 : List LOp := [
  ⟨some 9, .move (.tmp 5), none⟩,
  ⟨some 10, .move (.tmp 0), none⟩,
  ⟨some 11, .call { callee := .builtin .len, args := #[.tmp 10], argTypes := #[26] }, none⟩,
  ⟨some 12, .binOp .lss 3 (.tmp 9) (.tmp 11) 3, none⟩]
def f8_r6 : List LOp := [
  ⟨some 15, .move (.tmp 3), none⟩,
  ⟨some 16, .move (.tmp 15), none⟩,
  ⟨some 17, .move (.tmp 0), some (1, true)⟩,
  ⟨some 18, .move (.tmp 5), some (1, true)⟩,
  ⟨some 19, .indexAddr 26 (.tmp 17) (.tmp 18), some (1, true)⟩,
  ⟨some 20, .load 28 (.tmp 19), some (1, true)⟩,
  ⟨some 21, .call { callee := .value (.func 26), args := #[.tmp 20], argTypes := #[28] }, some (1, true)⟩,
  ⟨some 22, .pick (.tmp 16) (.tmp 21) (.const (.bool false)), none⟩,
  ⟨some 3, .assign (.tmp 22), none⟩]
def f8_r7 : List LOp := [
  ⟨some 23, .move (.tmp 4), none⟩,
  ⟨some 24, .move (.tmp 23), none⟩,
  ⟨some 25, .move (.tmp 0), some (1, false)⟩,
  ⟨some 26, .move (.tmp 5), some (1, false)⟩,
  ⟨some 27, .indexAddr 26 (.tmp 25) (.tmp 26), some (1, false)⟩,
  ⟨some 28, .load 28 (.tmp 27), some (1, false)⟩,
  ⟨some 29, .call { callee := .value (.func 27), args := #[.tmp 28], argTypes := #[28] }, some (1, false)⟩,
  ⟨some 30, .pick (.tmp 24) (.const (.bool true)) (.tmp 29), none⟩,
  ⟨some 4, .assign (.tmp 30), none⟩]
def f8_r8 : List LOp := [
  ⟨some 13, .move (.tmp 5), none⟩,
  ⟨some 14, .binOp .add 3 (.tmp 13) (.const (.int .i64 1)) 3, none⟩,
  ⟨some 5, .assign (.tmp 14), none⟩]
def f8_l9 : LC := (.seq (.seq (.reg f8_r5 [] none) (.cond (.tmp 12) .skip (.exit 0))) (.seq (.block 1 (.seq (.reg f8_r6 [] none) (.reg f8_r7 [] none))) (.reg f8_r8 [] none)))
def f8_i9 (t0 t3 t4 t5 : D) : List D := [t0, .any, .any, t3, t4, t5, .any, .any, .any, .any, .any, .any, .any, .any, .any, .any, .any, .any, .any, .any, .any, .any, .any, .any, .any, .any, .any, .any, .any, .any, .any, .any, .any, .any, .any, .any, .any, .any, .any, .any, .any, .any, .any, .any]
def f8_r10 : List LOp := [
  ⟨some 31, .move (.tmp 0), none⟩,
  ⟨some 32, .call { callee := .value (.func 28), args := #[.tmp 31], argTypes := #[26] }, none⟩,
  ⟨some 33, .move (.tmp 3), none⟩,
  ⟨some 34, .binOp .eql 4 (.tmp 32) (.tmp 33) 4, none⟩,
  ⟨some 35, .move (.tmp 34), none⟩,
  ⟨some 36, .move (.tmp 0), some (4, true)⟩,
  ⟨some 37, .call { callee := .value (.func 29), args := #[.tmp 36], argTypes := #[26] }, some (4, true)⟩,
  ⟨some 38, .move (.tmp 4), some (4, true)⟩,
  ⟨some 39, .binOp .eql 4 (.tmp 37) (.tmp 38) 4, some (4, true)⟩,
  ⟨some 40, .pick (.tmp 35) (.tmp 39) (.const (.bool false)), none⟩,
  ⟨some 41, .move (.tmp 40), none⟩,
  ⟨some 42, .call { callee := .value (.func 25), args := #[], argTypes := #[] }, some (10, true)⟩,
  ⟨some 43, .pick (.tmp 41) (.tmp 42) (.const (.bool false)), none⟩,
  ⟨some 2, .assign (.tmp 43), none⟩]
def f8_c : LC := (.seq (.reg f8_r0 [] none) (.seq (.seq (.reg f8_r1 [] none) (.cond (.tmp 7) (.seq (.reg f8_r2 [] none) .ret) .skip)) (.seq (.reg f8_r3 [] none) (.seq (.seq (.reg f8_r4 [] none) (.block 0 (.loop f8_l9))) (.seq (.reg f8_r10 [] none) .ret)))))
theorem f8_lc : Try.f8.body.map lc = some f8_c.st := by kernel_rfl
theorem f8_res : Try.f8.results.toList = [.tmp 2] := by kernel_rfl
theorem f8_nt : Try.f8.ntmps = 44 := by kernel_rfl
theorem f8_nm : (Try.f8.name == "runtime.NumGoroutine") = false := by kernel_rfl

/-! quill/quilllaw07.NullTwos -/
def f9_r0 : List LOp := [
  ⟨some 2, .box 28 (.tmp 0), none⟩,
  ⟨some 3, .box 28 (.tmp 1), none⟩,
  ⟨some 4, .assign (.const (.bool false)), none⟩]
def f9_r1 : List LOp := [
  ⟨some 10, .load 28 (.tmp 2), none⟩,
  ⟨some 11, .call { callee := .value (.func 21), args := #[.tmp 10, .const (.int .i64 60)], argTypes := #[28, 3] }, none⟩,
  ⟨some 12, .move (.tmp 11), none⟩,
  ⟨some 13, .load 28 (.tmp 3), some (2, false)⟩,
  ⟨some 14, .call { callee := .value (.func 21), args := #[.tmp 13, .const (.int .i64 60)], argTypes := #[28, 3] }, some (2, false)⟩,
  ⟨some 15, .pick (.tmp 12) (.const (.bool true)) (.tmp 14), none⟩,
  ⟨some 16, .move (.tmp 15), none⟩,
  ⟨some 17, .load 28 (.tmp 2), some (6, false)⟩,
  ⟨some 18, .call { callee := .value (.func 30), args := #[.tmp 17], argTypes := #[28] }, some (6, false)⟩,
  ⟨some 19, .unOp .not 4 (.tmp 18), some (6, false)⟩,
  ⟨some 20, .pick (.tmp 16) (.const (.bool true)) (.tmp 19), none⟩,
  ⟨some 21, .move (.tmp 20), none⟩,
  ⟨some 22, .load 28 (.tmp 3), some (11, false)⟩,
  ⟨some 23, .call { callee := .value (.func 30), args := #[.tmp 22], argTypes := #[28] }, some (11, false)⟩,
  ⟨some 24, .unOp .not 4 (.tmp 23), some (11, false)⟩,
  ⟨some 25, .pick (.tmp 21) (.const (.bool true)) (.tmp 24), none⟩]
def f9_r2 : List LOp := [
  ⟨some 26, .call { callee := .value (.func 25), args := #[], argTypes := #[] }, none⟩,
  ⟨some 4, .assign (.tmp 26), none⟩]
def f9_r3 : List LOp := [
  ⟨some 27, .load 28 (.tmp 2), none⟩,
  ⟨some 28, .load 28 (.tmp 3), none⟩,
  ⟨some 29, .call { callee := .value (.func 19), args := #[.const (.int .u8 4), .tmp 27, .tmp 28], argTypes := #[5, 28, 28] }, none⟩,
  ⟨some 30, .load 28 (.tmp 2), none⟩,
  ⟨some 31, .load 28 (.tmp 3), none⟩,
  ⟨some 32, .call { callee := .value (.func 19), args := #[.const (.int .u8 5), .tmp 30, .tmp 31], argTypes := #[5, 28, 28] }, none⟩,
  ⟨some 33, .load 28 (.tmp 2), none⟩,
  ⟨some 34, .call { callee := .value (.func 31), args := #[.tmp 33], argTypes := #[28] }, none⟩,
  ⟨some 5, .alloc 28, none⟩,
  ⟨some 6, .alloc 28, none⟩,
  ⟨some 7, .alloc 28, none⟩,
  ⟨none, .store 28 (.tmp 5) (.tmp 29), none⟩,
  ⟨none, .store 28 (.tmp 6) (.tmp 32), none⟩,
  ⟨none, .store 28 (.tmp 7) (.tmp 34), none⟩]
def f9_r4 : List LOp := [
  ⟨some 35, .load 28 (.tmp 2), none⟩,
  ⟨some 36, .buildSlice 26 1 #[(0, .tmp 35)], none⟩,
  ⟨some 37, .call { callee := .value (.func 28), args := #[.tmp 36], argTypes := #[26] }, none⟩,
  ⟨some 38, .load 28 (.tmp 3), none⟩,
  ⟨some 39, .buildSlice 26 1 #[(0, .tmp 38)], none⟩,
  ⟨some 40, .call { callee := .value (.func 28), args := #[.tmp 39], argTypes := #[26] }, none⟩,
  ⟨some 8, .assign (.tmp 37), none⟩,
  ⟨some 9, .assign (.tmp 40), none⟩]
def f9_r5 : List LOp := [
  ⟨some 41, .load 28 (.tmp 5), none⟩,
  ⟨some 42, .buildSlice 26 1 #[(0, .tmp 41)], none⟩,
  ⟨some 43, .call { callee := .value (.func 28), args := #[.tmp 42], argTypes := #[26] }, none⟩,
  ⟨some 44, .move (.tmp 8), none⟩,
  ⟨some 45, .move (.tmp 44), none⟩,
  ⟨some 46, .move (.tmp 9), some (4, true)⟩,
  ⟨some 47, .pick (.tmp 45) (.tmp 46) (.const (.bool false)), none⟩,
  ⟨some 48, .binOp .neq 4 (.tmp 43) (.tmp 47) 4, none⟩,
  ⟨some 49, .move (.tmp 48), none⟩,
  ⟨some 50, .load 28 (.tmp 6), some (8, false)⟩,
  ⟨some 51, .buildSlice 26 1 #[(0, .tmp 50)], some (8, false)⟩,
  ⟨some 52, .call { callee := .value (.func 28), args := #[.tmp 51], argTypes := #[26] }, some (8, false)⟩,
  ⟨some 53, .move (.tmp 8), some (8, false)⟩,
  ⟨some 54, .move (.tmp 53), some (8, false)⟩,
  ⟨some 55, .move (.tmp 9), some (13, false)⟩,
  ⟨some 56, .pick (.tmp 54) (.const (.bool true)) (.tmp 55), some (8, false)⟩,
  ⟨some 57, .binOp .neq 4 (.tmp 52) (.tmp 56) 4, some (8, false)⟩,
  ⟨some 58, .pick (.tmp 49) (.const (.bool true)) (.tmp 57), none⟩,
  ⟨some 59, .move (.tmp 58), none⟩,
  ⟨some 60, .load 28 (.tmp 7), some (18, false)⟩,
  ⟨some 61, .buildSlice 26 1 #[(0, .tmp 60)], some (18, false)⟩,
  ⟨some 62, .call { callee := .value (.func 28), args := #[.tmp 61], argTypes := #[26] }, some (18, false)⟩,
  ⟨some 63, .unOp .not 4 (.tmp 62), some (18, false)⟩,
  ⟨some 64, .pick (.tmp 59) (.const (.bool true)) (.tmp 63), none⟩,
  ⟨some 65, .move (.tmp 64), none⟩,
  ⟨some 66, .load 28 (.tmp 5), some (24, false)⟩,
  ⟨some 67, .buildSlice 26 1 #[(0, .tmp 66)], some (24, false)⟩,
  ⟨some 68, .call { callee := .value (.func 29), args := #[.tmp 67], argTypes := #[26] }, some (24, false)⟩,
  ⟨some 69, .load 28 (.tmp 2), some (24, false)⟩,
  ⟨some 70, .buildSlice 26 1 #[(0, .tmp 69)], some (24, false)⟩,
  ⟨some 71, .call { callee := .value (.func 29), args := #[.tmp 70], argTypes := #[26] }, some (24, false)⟩,
  ⟨some 72, .move (.tmp 71), some (24, false)⟩,
  ⟨some 73, .load 28 (.tmp 3), some (31, false)⟩,
  ⟨some 74, .buildSlice 26 1 #[(0, .tmp 73)], some (31, false)⟩,
  ⟨some 75, .call { callee := .value (.func 29), args := #[.tmp 74], argTypes := #[26] }, some (31, false)⟩,
  ⟨some 76, .pick (.tmp 72) (.const (.bool true)) (.tmp 75), some (24, false)⟩,
  ⟨some 77, .binOp .neq 4 (.tmp 68) (.tmp 76) 4, some (24, false)⟩,
  ⟨some 78, .pick (.tmp 65) (.const (.bool true)) (.tmp 77), none⟩,
  ⟨some 79, .move (.tmp 78), none⟩,
  ⟨some 80, .load 28 (.tmp 6), some (38, false)⟩,
  ⟨some 81, .buildSlice 26 1 #[(0, .tmp 80)], some (38, false)⟩,
  ⟨some 82, .call { callee := .value (.func 29), args := #[.tmp 81], argTypes := #[26] }, some (38, false)⟩,
  ⟨some 83, .load 28 (.tmp 2), some (38, false)⟩,
  ⟨some 84, .buildSlice 26 1 #[(0, .tmp 83)], some (38, false)⟩,
  ⟨some 85, .call { callee := .value (.func 29), args := #[.tmp 84], argTypes := #[26] }, some (38, false)⟩,
  ⟨some 86, .move (.tmp 85), some (38, false)⟩,
  ⟨some 87, .load 28 (.tmp 3), some (45, true)⟩,
  ⟨some 88, .buildSlice 26 1 #[(0, .tmp 87)], some (45, true)⟩,
  ⟨some 89, .call { callee := .value (.func 29), args := #[.tmp 88], argTypes := #[26] }, some (45, true)⟩,
  ⟨some 90, .pick (.tmp 86) (.tmp 89) (.const (.bool false)), some (38, false)⟩,
  ⟨some 91, .binOp .neq 4 (.tmp 82) (.tmp 90) 4, some (38, false)⟩,
  ⟨some 92, .pick (.tmp 79) (.const (.bool true)) (.tmp 91), none⟩,
  ⟨some 93, .move (.tmp 92), none⟩,
  ⟨some 94, .load 28 (.tmp 7), some (52, false)⟩,
  ⟨some 95, .buildSlice 26 1 #[(0, .tmp 94)], some (52, false)⟩,
  ⟨some 96, .call { callee := .value (.func 29), args := #[.tmp 95], argTypes := #[26] }, some (52, false)⟩,
  ⟨some 97, .pick (.tmp 93) (.const (.bool true)) (.tmp 96), none⟩]
def f9_r6 : List LOp := [
  ⟨some 4, .assign (.const (.bool false)), none⟩]
def f9_r7 : List LOp := [
  ⟨some 98, .load 28 (.tmp 6), none⟩,
  ⟨some 99, .call { callee := .value (.func 32), args := #[.tmp 98], argTypes := #[28] }, none⟩,
  ⟨some 100, .load 28 (.tmp 2), none⟩,
  ⟨some 101, .call { callee := .value (.func 32), args := #[.tmp 100], argTypes := #[28] }, none⟩,
  ⟨some 102, .load 28 (.tmp 3), none⟩,
  ⟨some 103, .call { callee := .value (.func 32), args := #[.tmp 102], argTypes := #[28] }, none⟩,
  ⟨some 104, .buildSlice 83 2 #[(0, .tmp 101), (1, .tmp 103)], none⟩,
  ⟨some 105, .call { callee := .value (.func 33), args := #[.tmp 104], argTypes := #[83] }, none⟩,
  ⟨some 106, .binOp .eql 25 (.tmp 99) (.tmp 105) 25, none⟩,
  ⟨some 107, .move (.tmp 106), none⟩,
  ⟨some 108, .load 28 (.tmp 7), some (9, true)⟩,
  ⟨some 109, .call { callee := .value (.func 32), args := #[.tmp 108], argTypes := #[28] }, some (9, true)⟩,
  ⟨some 110, .load 28 (.tmp 2), some (9, true)⟩,
  ⟨some 111, .call { callee := .value (.func 32), args := #[.tmp 110], argTypes := #[28] }, some (9, true)⟩,
  ⟨some 112, .binOp .eql 25 (.tmp 109) (.tmp 111) 25, some (9, true)⟩,
  ⟨some 113, .pick (.tmp 107) (.tmp 112) (.const (.bool false)), none⟩,
  ⟨some 114, .move (.tmp 113), none⟩,
  ⟨some 115, .call { callee := .value (.func 25), args := #[], argTypes := #[] }, some (16, true)⟩,
  ⟨some 116, .pick (.tmp 114) (.tmp 115) (.const (.bool false)), none⟩,
  ⟨some 4, .assign (.tmp 116), none⟩]
def f9_c : LC := (.seq (.reg f9_r0 [] none) (.seq (.seq (.reg f9_r1 [] none) (.cond (.tmp 25) (.seq (.reg f9_r2 [] none) .ret) .skip)) (.seq (.rega f9_r3 [] 11) (.seq (.regp f9_r4 [] [] 5) (.seq (.seq (.reg f9_r5 [] (some 57)) (.cond (.tmp 97) (.seq (.reg f9_r6 [] none) .ret) .skip)) (.seq (.reg f9_r7 [] (some 19)) .ret))))))
theorem f9_lc : Try.f9.body.map lc = some f9_c.st := by kernel_rfl
theorem f9_res : Try.f9.results.toList = [.tmp 4] := by kernel_rfl
theorem f9_nt : Try.f9.ntmps = 117 := by kernel_rfl
theorem f9_nm : (Try.f9.name == "runtime.NumGoroutine") = false := by kernel_rfl

/-! quill/quilllaw10.MatchEnds -/
def f10_r0 : List LOp := [
  ⟨some 3, .box 28 (.tmp 0), none⟩,
  ⟨some 6, .assign (.const (.bool false)), none⟩]
def f10_r1 : List LOp := [
  ⟨some 11, .load 28 (.tmp 3), none⟩,
  ⟨some 12, .call { callee := .value (.func 21), args := #[.tmp 11, .const (.int .i64 60)], argTypes := #[28, 3] }, none⟩,
  ⟨some 13, .move (.tmp 12), none⟩,
  ⟨some 14, .move (.tmp 1), some (2, false)⟩,
  ⟨some 15, .call { callee := .builtin .len, args := #[.tmp 14], argTypes := #[9] }, some (2, false)⟩,
  ⟨some 16, .binOp .gtr 3 (.tmp 15) (.const (.int .i64 20)) 3, some (2, false)⟩,
  ⟨some 17, .pick (.tmp 13) (.const (.bool true)) (.tmp 16), none⟩]
def f10_r2 : List LOp := [
  ⟨some 18, .call { callee := .value (.func 22), args := #[], argTypes := #[] }, none⟩,
  ⟨some 6, .assign (.tmp 18), none⟩]
def f10_r3 : List LOp := [
  ⟨some 20, .load 28 (.tmp 3), none⟩,
  ⟨some 21, .move (.tmp 1), none⟩,
  ⟨some 22, .move (.tmp 2), none⟩,
  ⟨some 23, .call { callee := .value (.func 34), args := #[.tmp 20, .tmp 21, .tmp 22], argTypes := #[28, 9, 3] }, none⟩,
  ⟨some 19, .move (.tmp 23), none⟩,
  ⟨some 24, .extract (.tmp 19) 0, none⟩,
  ⟨some 25, .extract (.tmp 19) 1, none⟩,
  ⟨some 7, .assign (.tmp 24), none⟩,
  ⟨some 8, .assign (.tmp 25), none⟩]
def f10_r4 : List LOp := [
  ⟨some 27, .load 28 (.tmp 3), none⟩,
  ⟨some 28, .move (.tmp 1), none⟩,
  ⟨some 29, .move (.tmp 2), none⟩,
  ⟨some 30, .call { callee := .value (.func 35), args := #[.tmp 27, .tmp 28, .tmp 29], argTypes := #[28, 9, 3] }, none⟩,
  ⟨some 26, .move (.tmp 30), none⟩,
  ⟨some 31, .extract (.tmp 26) 0, none⟩,
  ⟨some 32, .extract (.tmp 26) 1, none⟩,
  ⟨some 9, .assign (.tmp 31), none⟩,
  ⟨some 10, .assign (.tmp 32), none⟩]
def f10_r5 : List LOp := [
  ⟨some 33, .load 28 (.tmp 3), none⟩,
  ⟨some 34, .move (.tmp 1), none⟩,
  ⟨some 35, .move (.tmp 2), none⟩,
  ⟨some 36, .call { callee := .value (.func 23), args := #[.tmp 33, .tmp 34, .tmp 35], argTypes := #[28, 9, 3] }, none⟩,
  ⟨some 37, .load 28 (.tmp 3), none⟩,
  ⟨some 38, .move (.tmp 1), none⟩,
  ⟨some 39, .move (.tmp 2), none⟩,
  ⟨some 40, .call { callee := .value (.func 37), args := #[.tmp 37, .tmp 38, .tmp 39], argTypes := #[28, 9, 3] }, none⟩,
  ⟨some 41, .call { callee := .value (.func 36), args := #[.tmp 36, .tmp 40], argTypes := #[46, 46] }, none⟩,
  ⟨some 42, .move (.tmp 41), none⟩,
  ⟨some 43, .move (.tmp 7), some (9, true)⟩,
  ⟨some 44, .move (.tmp 9), some (9, true)⟩,
  ⟨some 45, .binOp .eql 3 (.tmp 43) (.tmp 44) 3, some (9, true)⟩,
  ⟨some 46, .pick (.tmp 42) (.tmp 45) (.const (.bool false)), none⟩,
  ⟨some 47, .move (.tmp 46), none⟩,
  ⟨some 48, .move (.tmp 8), some (14, true)⟩,
  ⟨some 49, .move (.tmp 10), some (14, true)⟩,
  ⟨some 50, .binOp .eql 4 (.tmp 48) (.tmp 49) 4, some (14, true)⟩,
  ⟨some 51, .pick (.tmp 47) (.tmp 50) (.const (.bool false)), none⟩,
  ⟨some 52, .move (.tmp 51), none⟩,
  ⟨some 53, .call { callee := .value (.func 22), args := #[], argTypes := #[] }, some (19, true)⟩,
  ⟨some 54, .pick (.tmp 52) (.tmp 53) (.const (.bool false)), none⟩,
  ⟨some 6, .assign (.tmp 54), none⟩]
def f10_c : LC := (.seq (.reg f10_r0 [] none) (.seq (.seq (.reg f10_r1 [] none) (.cond (.tmp 17) (.seq (.reg f10_r2 [] none) .ret) .skip)) (.seq (.reg f10_r3 [] none) (.seq (.reg f10_r4 [] none) (.seq (.reg f10_r5 [] (some 17)) .ret)))))
theorem f10_lc : Try.f10.body.map lc = some f10_c.st := by kernel_rfl
theorem f10_res : Try.f10.results.toList = [.tmp 6] := by kernel_rfl
theorem f10_nt : Try.f10.ntmps = 55 := by kernel_rfl
theorem f10_nm : (Try.f10.name == "runtime.NumGoroutine") = false := by kernel_rfl

/-! quill/quilllaw10.MatchParts -/
def f11_r0 : List LOp := [
  ⟨some 3, .box 28 (.tmp 0), none⟩,
  ⟨some 4, .box 28 (.tmp 1), none⟩,
  ⟨some 6, .assign (.const (.bool false)), none⟩]
def f11_r1 : List LOp := [
  ⟨some 12, .load 28 (.tmp 3), none⟩,
  ⟨some 13, .call { callee := .value (.func 21), args := #[.tmp 12, .const (.int .i64 40)], argTypes := #[28, 3] }, none⟩,
  ⟨some 14, .move (.tmp 13), none⟩,
  ⟨some 15, .load 28 (.tmp 4), some (2, false)⟩,
  ⟨some 16, .call { callee := .value (.func 21), args := #[.tmp 15, .const (.int .i64 40)], argTypes := #[28, 3] }, some (2, false)⟩,
  ⟨some 17, .pick (.tmp 14) (.const (.bool true)) (.tmp 16), none⟩,
  ⟨some 18, .move (.tmp 17), none⟩,
  ⟨some 19, .move (.tmp 2), some (6, false)⟩,
  ⟨some 20, .call { callee := .builtin .len, args := #[.tmp 19], argTypes := #[9] }, some (6, false)⟩,
  ⟨some 21, .binOp .gtr 3 (.tmp 20) (.const (.int .i64 12)) 3, some (6, false)⟩,
  ⟨some 22, .pick (.tmp 18) (.const (.bool true)) (.tmp 21), none⟩]
def f11_r2 : List LOp := [
  ⟨some 23, .call { callee := .value (.func 22), args := #[], argTypes := #[] }, none⟩,
  ⟨some 6, .assign (.tmp 23), none⟩]
def f11_r3 : List LOp := [
  ⟨some 24, .move (.tmp 2), none⟩,
  ⟨some 25, .binOp .eql 9 (.tmp 24) (.const (.string { data := #[] })) 9, none⟩,
  ⟨some 7, .assign (.const (.bool false)), none⟩,
  ⟨some 8, .assign (.tmp 25), none⟩]
def f11_r4 : List LOp := [
  ⟨some 26, .load 28 (.tmp 3), none⟩,
  ⟨some 27, .call { callee := .value (.func 31), args := #[.tmp 26], argTypes := #[28] }, none⟩,
  ⟨some 9, .alloc 28, none⟩,
  ⟨none, .store 28 (.tmp 9) (.tmp 27), none⟩]
def f11_r5 : List LOp := [
  ⟨some 10, .assign (.const (.int .i64 0)), none⟩]
def f11_r6 : List LOp := [
  ⟨some 28, .move (.tmp 10), none⟩,
  ⟨some 29, .move (.tmp 2), none⟩,
  ⟨some 30, .call { callee := .builtin .len, args := #[.tmp 29], argTypes := #[9] }, none⟩,
  ⟨some 31, .binOp .leq 3 (.tmp 28) (.tmp 30) 3, none⟩]
def f11_r7 : List LOp := [
  ⟨some 34, .load 28 (.tmp 3), none⟩,
  ⟨some 35, .move (.tmp 2), none⟩,
  ⟨some 36, .move (.tmp 10), none⟩,
  ⟨some 37, .slice 9 (.tmp 35) none (some (.tmp 36)) none, none⟩,
  ⟨some 38, .call { callee := .value (.func 38), args := #[.tmp 34, .tmp 37], argTypes := #[28, 9] }, none⟩,
  ⟨some 11, .assign (.tmp 38), none⟩]
def f11_r8 : List LOp := [
  ⟨some 39, .move (.tmp 7), none⟩,
  ⟨some 40, .move (.tmp 39), none⟩,
  ⟨some 41, .move (.tmp 11), some (1, false)⟩,
  ⟨some 42, .move (.tmp 41), some (1, false)⟩,
  ⟨some 43, .load 28 (.tmp 4), some (3, true)⟩,
  ⟨some 44, .move (.tmp 2), some (3, true)⟩,
  ⟨some 45, .move (.tmp 10), some (3, true)⟩,
  ⟨some 46, .slice 9 (.tmp 44) (some (.tmp 45)) none none, some (3, true)⟩,
  ⟨some 47, .call { callee := .value (.func 38), args := #[.tmp 43, .tmp 46], argTypes := #[28, 9] }, some (3, true)⟩,
  ⟨some 48, .pick (.tmp 42) (.tmp 47) (.const (.bool false)), some (1, false)⟩,
  ⟨some 49, .pick (.tmp 40) (.const (.bool true)) (.tmp 48), none⟩,
  ⟨some 7, .assign (.tmp 49), none⟩]
def f11_r9 : List LOp := [
  ⟨some 50, .move (.tmp 8), none⟩,
  ⟨some 51, .move (.tmp 50), none⟩,
  ⟨some 52, .move (.tmp 11), some (1, false)⟩,
  ⟨some 53, .move (.tmp 52), some (1, false)⟩,
  ⟨some 54, .move (.tmp 10), some (3, true)⟩,
  ⟨some 55, .binOp .gtr 3 (.tmp 54) (.const (.int .i64 0)) 3, some (3, true)⟩,
  ⟨some 56, .pick (.tmp 53) (.tmp 55) (.const (.bool false)), some (1, false)⟩,
  ⟨some 57, .move (.tmp 56), some (1, false)⟩,
  ⟨some 58, .load 28 (.tmp 9), some (7, true)⟩,
  ⟨some 59, .move (.tmp 2), some (7, true)⟩,
  ⟨some 60, .move (.tmp 10), some (7, true)⟩,
  ⟨some 61, .slice 9 (.tmp 59) (some (.tmp 60)) none none, some (7, true)⟩,
  ⟨some 62, .call { callee := .value (.func 38), args := #[.tmp 58, .tmp 61], argTypes := #[28, 9] }, some (7, true)⟩,
  ⟨some 63, .pick (.tmp 57) (.tmp 62) (.const (.bool false)), some (1, false)⟩,
  ⟨some 64, .pick (.tmp 51) (.const (.bool true)) (.tmp 63), none⟩,
  ⟨some 8, .assign (.tmp 64), none⟩]
def f11_r10 : List LOp := [
  ⟨some 32, .move (.tmp 10), none⟩,
  ⟨some 33, .binOp .add 3 (.tmp 32) (.const (.int .i64 1)) 3, none⟩,
  ⟨some 10, .assign (.tmp 33), none⟩]
def f11_l11 : LC := (.seq (.seq (.reg f11_r6 [] none) (.cond (.tmp 31) .skip (.exit 0))) (.seq (.block 1 (.seq (.reg f11_r7 [] (some 4)) (.seq (.reg f11_r8 [] (some 8)) (.reg f11_r9 [] (some 12))))) (.reg f11_r10 [] none)))
def f11_i11 (t2 t3 t4 t7 t8 t9 t10 : D) : List D := [.any, .any, t2, t3, t4, .any, .any, t7, t8, t9, t10, .any, .any, .any, .any, .any, .any, .any, .any, .any, .any, .any, .any, .any, .any, .any, .any, .any, .any, .any, .any, .any, .any, .any, .any, .any, .any, .any, .any, .any, .any, .any, .any, .any, .any, .any, .any, .any, .any, .any, .any, .any, .any, .any, .any, .any, .any, .any, .any, .any, .any, .any, .any, .any, .any, .any, .any, .any, .any, .any, .any, .any, .any, .any, .any, .any, .any, .any, .any, .any, .any, .any, .any, .any, .any, .any, .any, .any, .any, .any, .any, .any, .any, .any, .any, .any, .any]
def f11_r12 : List LOp := [
  ⟨some 65, .move (.tmp 8), none⟩,
  ⟨some 66, .move (.tmp 65), none⟩,
  ⟨some 67, .load 28 (.tmp 9), some (1, true)⟩,
  ⟨some 68, .call { callee := .value (.func 30), args := #[.tmp 67], argTypes := #[28] }, some (1, true)⟩,
  ⟨some 69, .pick (.tmp 66) (.tmp 68) (.const (.bool false)), none⟩,
  ⟨some 8, .assign (.tmp 69), none⟩]
def f11_r13 : List LOp := [
  ⟨some 70, .load 28 (.tmp 3), none⟩,
  ⟨some 71, .load 28 (.tmp 4), none⟩,
  ⟨some 72, .call { callee := .value (.func 19), args := #[.const (.int .u8 4), .tmp 70, .tmp 71], argTypes := #[5, 28, 28] }, none⟩,
  ⟨some 73, .move (.tmp 2), none⟩,
  ⟨some 74, .buildSlice 41 1 #[(0, .tmp 73)], none⟩,
  ⟨some 75, .call { callee := .value (.func 39), args := #[.tmp 72, .tmp 74], argTypes := #[28, 41] }, none⟩,
  ⟨some 76, .move (.tmp 7), none⟩,
  ⟨some 77, .move (.tmp 76), none⟩,
  ⟨some 78, .load 28 (.tmp 3), some (7, true)⟩,
  ⟨some 79, .call { callee := .value (.func 30), args := #[.tmp 78], argTypes := #[28] }, some (7, true)⟩,
  ⟨some 80, .pick (.tmp 77) (.tmp 79) (.const (.bool false)), none⟩,
  ⟨some 81, .move (.tmp 80), none⟩,
  ⟨some 82, .load 28 (.tmp 4), some (11, true)⟩,
  ⟨some 83, .call { callee := .value (.func 30), args := #[.tmp 82], argTypes := #[28] }, some (11, true)⟩,
  ⟨some 84, .pick (.tmp 81) (.tmp 83) (.const (.bool false)), none⟩,
  ⟨some 85, .binOp .eql 4 (.tmp 75) (.tmp 84) 4, none⟩,
  ⟨some 86, .move (.tmp 85), none⟩,
  ⟨some 87, .load 28 (.tmp 9), some (16, true)⟩,
  ⟨some 88, .move (.tmp 2), some (16, true)⟩,
  ⟨some 89, .buildSlice 41 1 #[(0, .tmp 88)], some (16, true)⟩,
  ⟨some 90, .call { callee := .value (.func 39), args := #[.tmp 87, .tmp 89], argTypes := #[28, 41] }, some (16, true)⟩,
  ⟨some 91, .move (.tmp 8), some (16, true)⟩,
  ⟨some 92, .binOp .eql 4 (.tmp 90) (.tmp 91) 4, some (16, true)⟩,
  ⟨some 93, .pick (.tmp 86) (.tmp 92) (.const (.bool false)), none⟩,
  ⟨some 94, .move (.tmp 93), none⟩,
  ⟨some 95, .call { callee := .value (.func 22), args := #[], argTypes := #[] }, some (24, true)⟩,
  ⟨some 96, .pick (.tmp 94) (.tmp 95) (.const (.bool false)), none⟩,
  ⟨some 6, .assign (.tmp 96), none⟩]
def f11_c : LC := (.seq (.reg f11_r0 [] none) (.seq (.seq (.reg f11_r1 [] none) (.cond (.tmp 22) (.seq (.reg f11_r2 [] none) .ret) .skip)) (.seq (.reg f11_r3 [] none) (.seq (.reg f11_r4 [] none) (.seq (.seq (.reg f11_r5 [] none) (.block 0 (.loop f11_l11))) (.seq (.reg f11_r12 [] none) (.seq (.reg f11_r13 [] none) .ret)))))))
theorem f11_lc : Try.f11.body.map lc = some f11_c.st := by kernel_rfl
theorem f11_res : Try.f11.results.toList = [.tmp 6] := by kernel_rfl
theorem f11_nt : Try.f11.ntmps = 97 := by kernel_rfl
theorem f11_nm : (Try.f11.name == "runtime.NumGoroutine") = false := by kernel_rfl

/-! quill/quilllaw10.MatchFits -/
def f12_r0 : List LOp := [
  ⟨some 3, .box 28 (.tmp 0), none⟩,
  ⟨some 6, .assign (.const (.bool false)), none⟩]
def f12_r1 : List LOp := [
  ⟨some 12, .load 28 (.tmp 3), none⟩,
  ⟨some 13, .call { callee := .value (.func 21), args := #[.tmp 12, .const (.int .i64 60)], argTypes := #[28, 3] }, none⟩,
  ⟨some 14, .move (.tmp 13), none⟩,
  ⟨some 15, .move (.tmp 2), some (2, false)⟩,
  ⟨some 16, .call { callee := .value (.func 24), args := #[.tmp 15, .const (.int .i64 60)], argTypes := #[26, 3] }, some (2, false)⟩,
  ⟨some 17, .pick (.tmp 14) (.const (.bool true)) (.tmp 16), none⟩,
  ⟨some 18, .move (.tmp 17), none⟩,
  ⟨some 19, .move (.tmp 1), some (6, false)⟩,
  ⟨some 20, .call { callee := .builtin .len, args := #[.tmp 19], argTypes := #[41] }, some (6, false)⟩,
  ⟨some 21, .binOp .gtr 3 (.tmp 20) (.const (.int .i64 10)) 3, some (6, false)⟩,
  ⟨some 22, .pick (.tmp 18) (.const (.bool true)) (.tmp 21), none⟩]
def f12_r2 : List LOp := [
  ⟨some 23, .call { callee := .value (.func 22), args := #[], argTypes := #[] }, none⟩,
  ⟨some 6, .assign (.tmp 23), none⟩]
def f12_r3 : List LOp := [
  ⟨some 7, .assign (.const (.int .i64 0)), none⟩]
def f12_r4 : List LOp := [
  ⟨some 24, .move (.tmp 7), none⟩,
  ⟨some 25, .move (.tmp 1), none⟩,
  ⟨some 26, .call { callee := .builtin .len, args := #[.tmp 25], argTypes := #[41] }, none⟩,
  ⟨some 27, .binOp .lss 3 (.tmp 24) (.tmp 26) 3, none⟩]
def f12_r5 : List LOp := [
  ⟨some 30, .move (.tmp 1), none⟩,
  ⟨some 31, .move (.tmp 7), none⟩,
  ⟨some 32, .indexAddr 41 (.tmp 30) (.tmp 31), none⟩,
  ⟨some 33, .load 9 (.tmp 32), none⟩,
  ⟨some 34, .call { callee := .builtin .len, args := #[.tmp 33], argTypes := #[9] }, none⟩,
  ⟨some 35, .binOp .gtr 3 (.tmp 34) (.const (.int .i64 20)) 3, none⟩]
def f12_r6 : List LOp := [
  ⟨some 36, .call { callee := .value (.func 22), args := #[], argTypes := #[] }, none⟩,
  ⟨some 6, .assign (.tmp 36), none⟩]
def f12_r7 : List LOp := [
  ⟨some 38, .move (.tmp 1), none⟩,
  ⟨some 39, .move (.tmp 7), none⟩,
  ⟨some 40, .indexAddr 41 (.tmp 38) (.tmp 39), none⟩,
  ⟨some 41, .load 9 (.tmp 40), none⟩,
  ⟨some 42, .move (.tmp 2), none⟩,
  ⟨some 43, .call { callee := .value (.func 40), args := #[.tmp 41, .tmp 42], argTypes := #[9, 26] }, none⟩,
  ⟨some 37, .move (.tmp 43), none⟩,
  ⟨some 44, .extract (.tmp 37) 0, none⟩,
  ⟨some 45, .extract (.tmp 37) 1, none⟩,
  ⟨some 8, .assign (.tmp 44), none⟩,
  ⟨some 9, .assign (.tmp 45), none⟩]
def f12_r8 : List LOp := [
  ⟨some 47, .move (.tmp 1), none⟩,
  ⟨some 48, .move (.tmp 7), none⟩,
  ⟨some 49, .indexAddr 41 (.tmp 47) (.tmp 48), none⟩,
  ⟨some 50, .load 9 (.tmp 49), none⟩,
  ⟨some 51, .move (.tmp 2), none⟩,
  ⟨some 52, .call { callee := .value (.func 41), args := #[.tmp 50, .tmp 51], argTypes := #[9, 26] }, none⟩,
  ⟨some 46, .move (.tmp 52), none⟩,
  ⟨some 53, .extract (.tmp 46) 0, none⟩,
  ⟨some 54, .extract (.tmp 46) 1, none⟩,
  ⟨some 10, .assign (.tmp 53), none⟩,
  ⟨some 11, .assign (.tmp 54), none⟩]
def f12_r9 : List LOp := [
  ⟨some 55, .move (.tmp 8), none⟩,
  ⟨some 56, .move (.tmp 10), none⟩,
  ⟨some 57, .binOp .neq 3 (.tmp 55) (.tmp 56) 3, none⟩,
  ⟨some 58, .move (.tmp 57), none⟩,
  ⟨some 59, .move (.tmp 9), some (3, false)⟩,
  ⟨some 60, .move (.tmp 11), some (3, false)⟩,
  ⟨some 61, .binOp .neq 4 (.tmp 59) (.tmp 60) 4, some (3, false)⟩,
  ⟨some 62, .pick (.tmp 58) (.const (.bool true)) (.tmp 61), none⟩]
def f12_r10 : List LOp := [
  ⟨some 6, .assign (.const (.bool false)), none⟩]
def f12_r11 : List LOp := [
  ⟨some 28, .move (.tmp 7), none⟩,
  ⟨some 29, .binOp .add 3 (.tmp 28) (.const (.int .i64 1)) 3, none⟩,
  ⟨some 7, .assign (.tmp 29), none⟩]
def f12_l12 : LC := (.seq (.seq (.reg f12_r4 [] none) (.cond (.tmp 27) .skip (.exit 0))) (.seq (.block 1 (.seq (.seq (.reg f12_r5 [] none) (.cond (.tmp 35) (.seq (.reg f12_r6 [] none) .ret) .skip)) (.seq (.reg f12_r7 [] none) (.seq (.reg f12_r8 [] none) (.seq (.reg f12_r9 [] none) (.cond (.tmp 62) (.seq (.reg f12_r10 [] none) .ret) .skip)))))) (.reg f12_r11 [] none)))
def f12_i12 (t1 t2 t3 t7 : D) : List D := [.any, t1, t2, t3, .any, .any, .any, t7, .any, .any, .any, .any, .any, .any, .any, .any, .any, .any, .any, .any, .any, .any, .any, .any, .any, .any, .any, .any, .any, .any, .any, .any, .any, .any, .any, .any, .any, .any, .any, .any, .any, .any, .any, .any, .any, .any, .any, .any, .any, .any, .any, .any, .any, .any, .any, .any, .any, .any, .any, .any, .any, .any, .any, .any, .any, .any, .any, .any, .any, .any, .any, .any, .any]
def f12_r13 : List LOp := [
  ⟨some 63, .load 28 (.tmp 3), none⟩,
  ⟨some 64, .move (.tmp 1), none⟩,
  ⟨some 65, .call { callee := .value (.func 39), args := #[.tmp 63, .tmp 64], argTypes := #[28, 41] }, none⟩,
  ⟨some 66, .load 28 (.tmp 3), none⟩,
  ⟨some 67, .move (.tmp 1), none⟩,
  ⟨some 68, .call { callee := .value (.func 42), args := #[.tmp 66, .tmp 67], argTypes := #[28, 41] }, none⟩,
  ⟨some 69, .binOp .eql 4 (.tmp 65) (.tmp 68) 4, none⟩,
  ⟨some 70, .move (.tmp 69), none⟩,
  ⟨some 71, .call { callee := .value (.func 22), args := #[], argTypes := #[] }, some (7, true)⟩,
  ⟨some 72, .pick (.tmp 70) (.tmp 71) (.const (.bool false)), none⟩,
  ⟨some 6, .assign (.tmp 72), none⟩]
def f12_c : LC := (.seq (.reg f12_r0 [] none) (.seq (.seq (.reg f12_r1 [] none) (.cond (.tmp 22) (.seq (.reg f12_r2 [] none) .ret) .skip)) (.seq (.seq (.reg f12_r3 [] none) (.block 0 (.loop f12_l12))) (.seq (.reg f12_r13 [] (some 5)) .ret))))
theorem f12_lc : Try.f12.body.map lc = some f12_c.st := by kernel_rfl
theorem f12_res : Try.f12.results.toList = [.tmp 6] := by kernel_rfl
theorem f12_nt : Try.f12.ntmps = 73 := by kernel_rfl
theorem f12_nm : (Try.f12.name == "runtime.NumGoroutine") = false := by kernel_rfl

/-! quill/quilllaw07.NullWays -/
def f13_r0 : List LOp := [
  ⟨some 1, .box 28 (.tmp 0), none⟩,
  ⟨some 2, .assign (.const (.bool false)), none⟩]
def f13_r1 : List LOp := [
  ⟨some 6, .load 28 (.tmp 1), none⟩,
  ⟨some 7, .call { callee := .value (.func 21), args := #[.tmp 6, .const (.int .i64 200)], argTypes := #[28, 3] }, none⟩,
  ⟨some 8, .move (.tmp 7), none⟩,
  ⟨some 9, .load 28 (.tmp 1), some (2, false)⟩,
  ⟨some 10, .call { callee := .value (.func 30), args := #[.tmp 9], argTypes := #[28] }, some (2, false)⟩,
  ⟨some 11, .unOp .not 4 (.tmp 10), some (2, false)⟩,
  ⟨some 12, .pick (.tmp 8) (.const (.bool true)) (.tmp 11), none⟩]
def f13_r2 : List LOp := [
  ⟨some 13, .call { callee := .value (.func 25), args := #[], argTypes := #[] }, none⟩,
  ⟨some 2, .assign (.tmp 13), none⟩]
def f13_r3 : List LOp := [
  ⟨some 14, .load 28 (.tmp 1), none⟩,
  ⟨some 15, .buildSlice 26 1 #[(0, .tmp 14)], none⟩,
  ⟨some 16, .call { callee := .value (.func 29), args := #[.tmp 15], argTypes := #[26] }, none⟩,
  ⟨some 17, .load 28 (.tmp 1), none⟩,
  ⟨some 18, .buildSlice 26 1 #[(0, .tmp 17)], none⟩,
  ⟨some 19, .call { callee := .value (.func 28), args := #[.tmp 18], argTypes := #[26] }, none⟩,
  ⟨some 20, .load 28 (.tmp 1), none⟩,
  ⟨some 21, .call { callee := .value (.func 32), args := #[.tmp 20], argTypes := #[28] }, none⟩,
  ⟨some 22, .buildSlice 83 1 #[(0, .tmp 21)], none⟩,
  ⟨some 23, .call { callee := .value (.func 43), args := #[.tmp 22], argTypes := #[83] }, none⟩,
  ⟨some 3, .assign (.tmp 16), none⟩,
  ⟨some 4, .assign (.tmp 19), none⟩,
  ⟨some 5, .assign (.tmp 23), none⟩]
def f13_r4 : List LOp := [
  ⟨some 24, .move (.tmp 3), none⟩,
  ⟨some 25, .unOp .not 4 (.tmp 24), none⟩,
  ⟨some 26, .move (.tmp 25), none⟩,
  ⟨some 27, .move (.tmp 4), some (2, false)⟩,
  ⟨some 28, .unOp .not 4 (.tmp 27), some (2, false)⟩,
  ⟨some 29, .move (.tmp 28), some (2, false)⟩,
  ⟨some 30, .move (.tmp 5), some (5, true)⟩,
  ⟨some 31, .binOp .eql 3 (.tmp 30) (.const (.int .i64 0)) 3, some (5, true)⟩,
  ⟨some 32, .pick (.tmp 29) (.tmp 31) (.const (.bool false)), some (2, false)⟩,
  ⟨some 33, .pick (.tmp 26) (.const (.bool true)) (.tmp 32), none⟩,
  ⟨some 34, .move (.tmp 33), none⟩,
  ⟨some 35, .move (.tmp 3), some (10, true)⟩,
  ⟨some 36, .move (.tmp 35), some (10, true)⟩,
  ⟨some 37, .move (.tmp 4), some (12, false)⟩,
  ⟨some 38, .pick (.tmp 36) (.const (.bool true)) (.tmp 37), some (10, true)⟩,
  ⟨some 39, .move (.tmp 38), some (10, true)⟩,
  ⟨some 40, .move (.tmp 5), some (15, false)⟩,
  ⟨some 41, .binOp .gtr 3 (.tmp 40) (.const (.int .i64 0)) 3, some (15, false)⟩,
  ⟨some 42, .pick (.tmp 39) (.const (.bool true)) (.tmp 41), some (10, true)⟩,
  ⟨some 43, .pick (.tmp 34) (.tmp 42) (.const (.bool false)), none⟩,
  ⟨some 44, .move (.tmp 43), none⟩,
  ⟨some 45, .load 28 (.tmp 1), some (20, true)⟩,
  ⟨some 46, .call { callee := .value (.func 44), args := #[.tmp 45], argTypes := #[28] }, some (20, true)⟩,
  ⟨some 47, .move (.tmp 4), some (20, true)⟩,
  ⟨some 48, .move (.tmp 47), some (20, true)⟩,
  ⟨some 49, .move (.tmp 5), some (24, true)⟩,
  ⟨some 50, .binOp .eql 3 (.tmp 49) (.const (.int .i64 0)) 3, some (24, true)⟩,
  ⟨some 51, .pick (.tmp 48) (.tmp 50) (.const (.bool false)), some (20, true)⟩,
  ⟨some 52, .binOp .eql 4 (.tmp 46) (.tmp 51) 4, some (20, true)⟩,
  ⟨some 53, .pick (.tmp 44) (.tmp 52) (.const (.bool false)), none⟩,
  ⟨some 54, .move (.tmp 53), none⟩,
  ⟨some 55, .call { callee := .value (.func 25), args := #[], argTypes := #[] }, some (30, true)⟩,
  ⟨some 56, .pick (.tmp 54) (.tmp 55) (.const (.bool false)), none⟩,
  ⟨some 2, .assign (.tmp 56), none⟩]
def f13_c : LC := (.seq (.reg f13_r0 [] none) (.seq (.seq (.reg f13_r1 [] none) (.cond (.tmp 12) (.seq (.reg f13_r2 [] none) .ret) .skip)) (.seq (.regp f13_r3 [] [] 7) (.seq (.reg f13_r4 [] none) .ret))))
theorem f13_lc : Try.f13.body.map lc = some f13_c.st := by kernel_rfl
theorem f13_res : Try.f13.results.toList = [.tmp 2] := by kernel_rfl
theorem f13_nt : Try.f13.ntmps = 57 := by kernel_rfl
theorem f13_nm : (Try.f13.name == "runtime.NumGoroutine") = false := by kernel_rfl

/-! quill/quillref03.Great -/
def f21_r0 : List LOp := [
  ⟨some 2, .box 28 (.tmp 0), none⟩,
  ⟨some 4, .assign (.const (.bool false)), none⟩]
def f21_r1 : List LOp := [
  ⟨some 5, .load 28 (.tmp 2), none⟩,
  ⟨some 6, .move (.tmp 1), none⟩,
  ⟨some 7, .call { callee := .value (.func 50), args := #[.tmp 5, .tmp 6], argTypes := #[28, 3] }, none⟩,
  ⟨some 8, .move (.tmp 1), none⟩,
  ⟨some 9, .binOp .gtr 3 (.tmp 7) (.tmp 8) 3, none⟩,
  ⟨some 4, .assign (.tmp 9), none⟩]
def f21_c : LC := (.seq (.reg f21_r0 [] none) (.seq (.reg f21_r1 [] none) .ret))
theorem f21_lc : Try.f21.body.map lc = some f21_c.st := by kernel_rfl
theorem f21_res : Try.f21.results.toList = [.tmp 4] := by kernel_rfl
theorem f21_nt : Try.f21.ntmps = 10 := by kernel_rfl
theorem f21_nm : (Try.f21.name == "runtime.NumGoroutine") = false := by kernel_rfl

/-! quill/quilllaw10.awake -/
def f22_r0 : List LOp := [
  ⟨some 0, .assign (.const (.bool false)), none⟩]
def f22_r1 : List LOp := [
  ⟨some 5, .call { callee := .value (.func 15), args := #[.const (.string { data := #[97, 42] })], argTypes := #[9] }, none⟩,
  ⟨some 4, .move (.tmp 5), none⟩,
  ⟨some 6, .extract (.tmp 4) 0, none⟩,
  ⟨some 7, .extract (.tmp 4) 1, none⟩,
  ⟨some 8, .extract (.tmp 4) 2, none⟩,
  ⟨some 1, .alloc 28, none⟩,
  ⟨none, .store 28 (.tmp 1) (.tmp 6), none⟩,
  ⟨some 2, .assign (.tmp 7), none⟩,
  ⟨some 3, .assign (.tmp 8), none⟩]
def f22_r2 : List LOp := [
  ⟨some 9, .move (.tmp 3), none⟩,
  ⟨some 10, .binOp .eql 29 (.tmp 9) (.const (.int .i64 0)) 29, none⟩,
  ⟨some 11, .move (.tmp 10), none⟩,
  ⟨some 12, .load 28 (.tmp 1), some (2, true)⟩,
  ⟨some 13, .call { callee := .value (.func 23), args := #[.tmp 12, .const (.string { data := #[97, 97, 98] }), .const (.int .i64 0)], argTypes := #[28, 9, 3] }, some (2, true)⟩,
  ⟨some 14, .buildSlice 46 3 #[(0, .const (.int .i64 0)), (1, .const (.int .i64 1)), (2, .const (.int .i64 2))], some (2, true)⟩,
  ⟨some 15, .call { callee := .value (.func 36), args := #[.tmp 13, .tmp 14], argTypes := #[46, 46] }, some (2, true)⟩,
  ⟨some 16, .pick (.tmp 11) (.tmp 15) (.const (.bool false)), none⟩,
  ⟨some 0, .assign (.tmp 16), none⟩]
def f22_c : LC := (.seq (.reg f22_r0 [] none) (.seq (.reg f22_r1 [] none) (.seq (.reg f22_r2 [] none) .ret)))
theorem f22_lc : Try.f22.body.map lc = some f22_c.st := by kernel_rfl
theorem f22_res : Try.f22.results.toList = [.tmp 0] := by kernel_rfl
theorem f22_nt : Try.f22.ntmps = 17 := by kernel_rfl
theorem f22_nm : (Try.f22.name == "runtime.NumGoroutine") = false := by kernel_rfl

/-! quill/match.Ends -/
def f23_r0 : List LOp := [
  ⟨some 3, .box 28 (.tmp 0), none⟩,
  ⟨some 6, .assign (.const (.slice none 0 0)), none⟩]
def f23_r1 : List LOp := [
  ⟨some 10, .load 28 (.tmp 3), none⟩,
  ⟨some 11, .buildSlice 26 1 #[(0, .tmp 10)], none⟩,
  ⟨some 12, .call { callee := .value (.func 46), args := #[.tmp 11], argTypes := #[26] }, none⟩,
  ⟨some 13, .unOp .not 4 (.tmp 12), none⟩,
  ⟨some 14, .move (.tmp 13), none⟩,
  ⟨some 15, .move (.tmp 2), some (4, false)⟩,
  ⟨some 16, .binOp .lss 3 (.tmp 15) (.const (.int .i64 0)) 3, some (4, false)⟩,
  ⟨some 17, .pick (.tmp 14) (.const (.bool true)) (.tmp 16), none⟩,
  ⟨some 18, .move (.tmp 17), none⟩,
  ⟨some 19, .move (.tmp 2), some (8, false)⟩,
  ⟨some 20, .move (.tmp 1), some (8, false)⟩,
  ⟨some 21, .call { callee := .builtin .len, args := #[.tmp 20], argTypes := #[9] }, some (8, false)⟩,
  ⟨some 22, .binOp .gtr 3 (.tmp 19) (.tmp 21) 3, some (8, false)⟩,
  ⟨some 23, .pick (.tmp 18) (.const (.bool true)) (.tmp 22), none⟩]
def f23_r2 : List LOp := [
  ⟨some 6, .assign (.const (.slice none 0 0)), none⟩]
def f23_r3 : List LOp := [
  ⟨some 7, .assign (.const (.slice none 0 0)), none⟩]
def f23_r4 : List LOp := [
  ⟨some 24, .load 28 (.tmp 3), none⟩,
  ⟨some 25, .move (.tmp 1), none⟩,
  ⟨some 26, .move (.tmp 1), none⟩,
  ⟨some 27, .call { callee := .builtin .len, args := #[.tmp 26], argTypes := #[9] }, none⟩,
  ⟨some 28, .binOp .add 3 (.tmp 27) (.const (.int .i64 1)) 3, none⟩,
  ⟨some 29, .makeSlice 77 (.tmp 28) (.tmp 28), none⟩,
  ⟨some 30, .move (.tmp 2), none⟩,
  ⟨some 31, .call { callee := .value (.func 52), args := #[.tmp 29, .tmp 30], argTypes := #[77, 3] }, none⟩,
  ⟨some 32, .call { callee := .value (.func 51), args := #[.tmp 24, .tmp 25, .tmp 31], argTypes := #[28, 9, 77] }, none⟩,
  ⟨some 33, .call { callee := .builtin .len, args := #[.tmp 32], argTypes := #[77] }, none⟩,
  ⟨some 34, .move (.const (.int .i64 0)), none⟩]
def f23_r5 : List LOp := [
  ⟨some 35, .binOp .lss 3 (.tmp 34) (.tmp 33) 3, none⟩]
def f23_r6 : List LOp := [
  ⟨some 36, .move (.tmp 34), none⟩,
  ⟨some 37, .indexAddr 77 (.tmp 32) (.tmp 34), none⟩,
  ⟨some 38, .load 4 (.tmp 37), none⟩,
  ⟨some 8, .assign (.tmp 36), none⟩,
  ⟨some 9, .assign (.tmp 38), none⟩]
def f23_r7 : List LOp := [
  ⟨some 39, .move (.tmp 9), none⟩]
def f23_r8 : List LOp := [
  ⟨some 40, .move (.tmp 7), none⟩,
  ⟨some 41, .move (.tmp 8), none⟩,
  ⟨some 42, .buildSlice 46 1 #[(0, .tmp 41)], none⟩,
  ⟨some 43, .call { callee := .builtin .append, args := #[.tmp 40, .tmp 42], argTypes := #[46, 46] }, none⟩,
  ⟨some 7, .assign (.tmp 43), none⟩]
def f23_r9 : List LOp := [
  ⟨some 44, .binOp .add 3 (.tmp 34) (.const (.int .i64 1)) 3, none⟩,
  ⟨some 34, .move (.tmp 44), none⟩]
def f23_l10 : LC := (.seq (.reg f23_r5 [] none) (.seq (.cond (.tmp 35) .skip (.exit 0)) (.seq (.block 1 (.seq (.reg f23_r6 [] none) (.seq (.reg f23_r7 [] none) (.cond (.tmp 39) (.reg f23_r8 [] none) .skip)))) (.reg f23_r9 [] none))))
def f23_i10 (t7 t32 t33 t34 : D) : List D := [.any, .any, .any, .any, .any, .any, .any, t7, .any, .any, .any, .any, .any, .any, .any, .any, .any, .any, .any, .any, .any, .any, .any, .any, .any, .any, .any, .any, .any, .any, .any, .any, t32, t33, t34, .any, .any, .any, .any, .any, .any, .any, .any, .any, .any, .any]
def f23_r11 : List LOp := [
  ⟨some 45, .move (.tmp 7), none⟩,
  ⟨some 6, .assign (.tmp 45), none⟩]
def f23_c : LC := (.seq (.reg f23_r0 [] none) (.seq (.seq (.reg f23_r1 [] none) (.cond (.tmp 23) (.seq (.reg f23_r2 [] none) .ret) .skip)) (.seq (.reg f23_r3 [] none) (.seq (.seq (.reg f23_r4 [5] (some 11)) (.block 0 (.loop f23_l10))) (.seq (.reg f23_r11 [] none) .ret)))))
theorem f23_lc : Try.f23.body.map lc = some f23_c.st := by kernel_rfl
theorem f23_res : Try.f23.results.toList = [.tmp 6] := by kernel_rfl
theorem f23_nt : Try.f23.ntmps = 46 := by kernel_rfl
theorem f23_nm : (Try.f23.name == "runtime.NumGoroutine") = false := by kernel_rfl

/-! quill/quillref03.GreatAll -/
def f24_r0 : List LOp := [
  ⟨some 4, .assign (.const (.bool false)), none⟩]
def f24_r1 : List LOp := [
  ⟨some 6, .move (.tmp 0), none⟩,
  ⟨some 7, .call { callee := .builtin .len, args := #[.tmp 6], argTypes := #[26] }, none⟩,
  ⟨some 8, .binOp .gtr 3 (.tmp 7) (.const (.int .i64 20)) 3, none⟩]
def f24_r2 : List LOp := [
  ⟨some 4, .assign (.const (.bool true)), none⟩]
def f24_r3 : List LOp := [
  ⟨some 9, .move (.tmp 0), none⟩,
  ⟨some 10, .call { callee := .builtin .len, args := #[.tmp 9], argTypes := #[26] }, none⟩,
  ⟨some 11, .move (.const (.int .i64 0)), none⟩]
def f24_r4 : List LOp := [
  ⟨some 12, .binOp .lss 3 (.tmp 11) (.tmp 10) 3, none⟩]
def f24_r5 : List LOp := [
  ⟨some 13, .move (.tmp 11), none⟩,
  ⟨some 5, .assign (.tmp 13), none⟩]
def f24_r6 : List LOp := [
  ⟨some 14, .move (.tmp 0), none⟩,
  ⟨some 15, .move (.tmp 5), none⟩,
  ⟨some 16, .indexAddr 26 (.tmp 14) (.tmp 15), none⟩,
  ⟨some 17, .load 28 (.tmp 16), none⟩,
  ⟨some 18, .move (.tmp 1), none⟩,
  ⟨some 19, .call { callee := .value (.func 21), args := #[.tmp 17, .tmp 18], argTypes := #[28, 3] }, none⟩]
def f24_r7 : List LOp := [
  ⟨some 4, .assign (.const (.bool true)), none⟩]
def f24_r8 : List LOp := [
  ⟨some 20, .binOp .add 3 (.tmp 11) (.const (.int .i64 1)) 3, none⟩,
  ⟨some 11, .move (.tmp 20), none⟩]
def f24_l9 : LC := (.seq (.reg f24_r4 [] none) (.seq (.cond (.tmp 12) .skip (.exit 0)) (.seq (.block 1 (.seq (.reg f24_r5 [] none) (.seq (.reg f24_r6 [] none) (.cond (.tmp 19) (.seq (.reg f24_r7 [] none) .ret) .skip)))) (.reg f24_r8 [] none))))
def f24_i9 (t0 t1 t10 t11 : D) : List D := [t0, t1, .any, .any, .any, .any, .any, .any, .any, .any, t10, t11, .any, .any, .any, .any, .any, .any, .any, .any, .any]
def f24_r10 : List LOp := [
  ⟨some 4, .assign (.const (.bool false)), none⟩]
def f24_c : LC := (.seq (.reg f24_r0 [] none) (.seq (.seq (.reg f24_r1 [] none) (.cond (.tmp 8) (.seq (.reg f24_r2 [] none) .ret) .skip)) (.seq (.seq (.reg f24_r3 [] none) (.block 0 (.loop f24_l9))) (.seq (.reg f24_r10 [] none) .ret))))
theorem f24_lc : Try.f24.body.map lc = some f24_c.st := by kernel_rfl
theorem f24_res : Try.f24.results.toList = [.tmp 4] := by kernel_rfl
theorem f24_nt : Try.f24.ntmps = 21 := by kernel_rfl
theorem f24_nm : (Try.f24.name == "runtime.NumGoroutine") = false := by kernel_rfl

/-! quill/quilllaw07.awake -/
def f25_r0 : List LOp := [
  ⟨some 0, .assign (.const (.bool false)), none⟩]
def f25_r1 : List LOp := [
  ⟨some 5, .call { callee := .value (.func 15), args := #[.const (.string { data := #[97, 42, 98] })], argTypes := #[9] }, none⟩,
  ⟨some 4, .move (.tmp 5), none⟩,
  ⟨some 6, .extract (.tmp 4) 0, none⟩,
  ⟨some 7, .extract (.tmp 4) 1, none⟩,
  ⟨some 8, .extract (.tmp 4) 2, none⟩,
  ⟨some 1, .alloc 28, none⟩,
  ⟨none, .store 28 (.tmp 1) (.tmp 6), none⟩,
  ⟨some 2, .assign (.tmp 7), none⟩,
  ⟨some 3, .assign (.tmp 8), none⟩]
def f25_r2 : List LOp := [
  ⟨some 9, .move (.tmp 3), none⟩,
  ⟨some 10, .binOp .eql 29 (.tmp 9) (.const (.int .i64 0)) 29, none⟩,
  ⟨some 11, .move (.tmp 10), none⟩,
  ⟨some 12, .load 28 (.tmp 1), some (2, true)⟩,
  ⟨some 13, .call { callee := .value (.func 32), args := #[.tmp 12], argTypes := #[28] }, some (2, true)⟩,
  ⟨some 14, .buildSlice 37 2 #[(0, .const (.int .u8 97)), (1, .const (.int .u8 98))], some (2, true)⟩,
  ⟨some 15, .call { callee := .value (.func 53), args := #[.tmp 14], argTypes := #[37] }, some (2, true)⟩,
  ⟨some 16, .binOp .eql 25 (.tmp 13) (.tmp 15) 25, some (2, true)⟩,
  ⟨some 17, .pick (.tmp 11) (.tmp 16) (.const (.bool false)), none⟩,
  ⟨some 18, .move (.tmp 17), none⟩,
  ⟨some 19, .load 28 (.tmp 1), some (9, true)⟩,
  ⟨some 20, .buildSlice 26 1 #[(0, .tmp 19)], some (9, true)⟩,
  ⟨some 21, .call { callee := .value (.func 28), args := #[.tmp 20], argTypes := #[26] }, some (9, true)⟩,
  ⟨some 22, .unOp .not 4 (.tmp 21), some (9, true)⟩,
  ⟨some 23, .pick (.tmp 18) (.tmp 22) (.const (.bool false)), none⟩,
  ⟨some 0, .assign (.tmp 23), none⟩]
def f25_c : LC := (.seq (.reg f25_r0 [] none) (.seq (.reg f25_r1 [] none) (.seq (.reg f25_r2 [] none) .ret)))
theorem f25_lc : Try.f25.body.map lc = some f25_c.st := by kernel_rfl
theorem f25_res : Try.f25.results.toList = [.tmp 0] := by kernel_rfl
theorem f25_nt : Try.f25.ntmps = 24 := by kernel_rfl
theorem f25_nm : (Try.f25.name == "runtime.NumGoroutine") = false := by kernel_rfl

/-! quill/quillref07.Null -/
def f26_r0 : List LOp := [
  ⟨some 1, .box 28 (.tmp 0), none⟩,
  ⟨some 2, .assign (.const (.bool false)), none⟩]
def f26_r1 : List LOp := [
  ⟨some 3, .load 28 (.tmp 1), none⟩,
  ⟨some 4, .call { callee := .value (.func 30), args := #[.tmp 3], argTypes := #[28] }, none⟩,
  ⟨some 5, .move (.tmp 4), none⟩,
  ⟨some 6, .load 28 (.tmp 1), some (2, true)⟩,
  ⟨some 7, .call { callee := .value (.func 54), args := #[.tmp 6], argTypes := #[28] }, some (2, true)⟩,
  ⟨some 8, .pick (.tmp 5) (.tmp 7) (.const (.bool false)), none⟩,
  ⟨some 2, .assign (.tmp 8), none⟩]
def f26_c : LC := (.seq (.reg f26_r0 [] none) (.seq (.reg f26_r1 [] none) .ret))
theorem f26_lc : Try.f26.body.map lc = some f26_c.st := by kernel_rfl
theorem f26_res : Try.f26.results.toList = [.tmp 2] := by kernel_rfl
theorem f26_nt : Try.f26.ntmps = 9 := by kernel_rfl
theorem f26_nm : (Try.f26.name == "runtime.NumGoroutine") = false := by kernel_rfl

/-! quill/quillref07.Void -/
def f27_r0 : List LOp := [
  ⟨some 1, .box 28 (.tmp 0), none⟩,
  ⟨some 2, .assign (.const (.bool false)), none⟩]
def f27_r1 : List LOp := [
  ⟨some 3, .load 28 (.tmp 1), none⟩,
  ⟨some 4, .call { callee := .value (.func 30), args := #[.tmp 3], argTypes := #[28] }, none⟩,
  ⟨some 5, .move (.tmp 4), none⟩,
  ⟨some 6, .load 28 (.tmp 1), some (2, true)⟩,
  ⟨some 7, .call { callee := .value (.func 55), args := #[.tmp 6], argTypes := #[28] }, some (2, true)⟩,
  ⟨some 8, .unOp .not 4 (.tmp 7), some (2, true)⟩,
  ⟨some 9, .pick (.tmp 5) (.tmp 8) (.const (.bool false)), none⟩,
  ⟨some 2, .assign (.tmp 9), none⟩]
def f27_c : LC := (.seq (.reg f27_r0 [] none) (.seq (.reg f27_r1 [] none) .ret))
theorem f27_lc : Try.f27.body.map lc = some f27_c.st := by kernel_rfl
theorem f27_res : Try.f27.results.toList = [.tmp 2] := by kernel_rfl
theorem f27_nt : Try.f27.ntmps = 10 := by kernel_rfl
theorem f27_nm : (Try.f27.name == "runtime.NumGoroutine") = false := by kernel_rfl

/-! quill/null.Null -/
def f28_r0 : List LOp := [
  ⟨some 2, .assign (.const (.bool false)), none⟩]
def f28_r1 : List LOp := [
  ⟨some 3, .move (.tmp 0), none⟩,
  ⟨some 4, .call { callee := .value (.func 56), args := #[.tmp 3, .func 57], argTypes := #[26, 50] }, none⟩,
  ⟨some 5, .unOp .not 4 (.tmp 4), none⟩,
  ⟨some 2, .assign (.tmp 5), none⟩]
def f28_c : LC := (.seq (.reg f28_r0 [] none) (.seq (.reg f28_r1 [] none) .ret))
theorem f28_lc : Try.f28.body.map lc = some f28_c.st := by kernel_rfl
theorem f28_res : Try.f28.results.toList = [.tmp 2] := by kernel_rfl
theorem f28_nt : Try.f28.ntmps = 6 := by kernel_rfl
theorem f28_nm : (Try.f28.name == "runtime.NumGoroutine") = false := by kernel_rfl

/-! quill/null.Void -/
def f29_r0 : List LOp := [
  ⟨some 2, .assign (.const (.bool false)), none⟩]
def f29_r1 : List LOp := [
  ⟨some 3, .move (.tmp 0), none⟩,
  ⟨some 4, .call { callee := .value (.func 56), args := #[.tmp 3, .func 59], argTypes := #[26, 50] }, none⟩,
  ⟨some 2, .assign (.tmp 4), none⟩]
def f29_c : LC := (.seq (.reg f29_r0 [] none) (.seq (.reg f29_r1 [] none) .ret))
theorem f29_lc : Try.f29.body.map lc = some f29_c.st := by kernel_rfl
theorem f29_res : Try.f29.results.toList = [.tmp 2] := by kernel_rfl
theorem f29_nt : Try.f29.ntmps = 5 := by kernel_rfl
theorem f29_nm : (Try.f29.name == "runtime.NumGoroutine") = false := by kernel_rfl

/-! quill/null.First -/
def f32_r0 : List LOp := [
  ⟨some 1, .box 28 (.tmp 0), none⟩,
  ⟨some 2, .alloc 25, none⟩]
def f32_r1 : List LOp := [
  ⟨some 3, .load 28 (.tmp 1), none⟩,
  ⟨some 4, .buildSlice 26 1 #[(0, .tmp 3)], none⟩,
  ⟨some 5, .call { callee := .value (.func 46), args := #[.tmp 4], argTypes := #[26] }, none⟩,
  ⟨some 6, .unOp .not 4 (.tmp 5), none⟩]
def f32_r2 : List LOp := [
  ⟨some 7, .build 25 #[], none⟩,
  ⟨none, .store 25 (.tmp 2) (.tmp 7), none⟩]
def f32_r3 : List LOp := [
  ⟨some 8, .load 28 (.tmp 1), none⟩,
  ⟨some 9, .call { callee := .value (.func 62), args := #[.tmp 8], argTypes := #[28] }, none⟩,
  ⟨none, .store 25 (.tmp 2) (.tmp 9), none⟩]
def f32_c : LC := (.seq (.reg f32_r0 [] none) (.seq (.seq (.reg f32_r1 [] none) (.cond (.tmp 6) (.seq (.reg f32_r2 [] none) .ret) .skip)) (.seq (.reg f32_r3 [] none) .ret)))
theorem f32_lc : Try.f32.body.map lc = some f32_c.st := by kernel_rfl
theorem f32_res : Try.f32.results.toList = [.cell 2 25] := by kernel_rfl
theorem f32_nt : Try.f32.ntmps = 10 := by kernel_rfl
theorem f32_nm : (Try.f32.name == "runtime.NumGoroutine") = false := by kernel_rfl

/-! quill/match.Longest -/
def f34_r0 : List LOp := [
  ⟨some 3, .box 28 (.tmp 0), none⟩,
  ⟨some 6, .assign (.const (.int .i64 0)), none⟩,
  ⟨some 7, .assign (.const (.bool false)), none⟩]
def f34_r1 : List LOp := [
  ⟨some 9, .load 28 (.tmp 3), none⟩,
  ⟨some 10, .move (.tmp 1), none⟩,
  ⟨some 11, .move (.tmp 2), none⟩,
  ⟨some 12, .call { callee := .value (.func 23), args := #[.tmp 9, .tmp 10, .tmp 11], argTypes := #[28, 9, 3] }, none⟩,
  ⟨some 8, .assign (.tmp 12), none⟩]
def f34_r2 : List LOp := [
  ⟨some 13, .move (.tmp 8), none⟩,
  ⟨some 14, .call { callee := .builtin .len, args := #[.tmp 13], argTypes := #[46] }, none⟩,
  ⟨some 15, .binOp .eql 3 (.tmp 14) (.const (.int .i64 0)) 3, none⟩,
  ⟨some 16, .move (.tmp 15), none⟩,
  ⟨some 17, .move (.tmp 8), some (3, false)⟩,
  ⟨some 18, .move (.tmp 8), some (3, false)⟩,
  ⟨some 19, .call { callee := .builtin .len, args := #[.tmp 18], argTypes := #[46] }, some (3, false)⟩,
  ⟨some 20, .binOp .sub 3 (.tmp 19) (.const (.int .i64 1)) 3, some (3, false)⟩,
  ⟨some 21, .indexAddr 46 (.tmp 17) (.tmp 20), some (3, false)⟩,
  ⟨some 22, .load 3 (.tmp 21), some (3, false)⟩,
  ⟨some 23, .move (.tmp 2), some (3, false)⟩,
  ⟨some 24, .binOp .eql 3 (.tmp 22) (.tmp 23) 3, some (3, false)⟩,
  ⟨some 25, .pick (.tmp 16) (.const (.bool true)) (.tmp 24), none⟩]
def f34_r3 : List LOp := [
  ⟨some 6, .assign (.const (.int .i64 0)), none⟩,
  ⟨some 7, .assign (.const (.bool false)), none⟩]
def f34_r4 : List LOp := [
  ⟨some 26, .move (.tmp 8), none⟩,
  ⟨some 27, .move (.tmp 8), none⟩,
  ⟨some 28, .call { callee := .builtin .len, args := #[.tmp 27], argTypes := #[46] }, none⟩,
  ⟨some 29, .binOp .sub 3 (.tmp 28) (.const (.int .i64 1)) 3, none⟩,
  ⟨some 30, .indexAddr 46 (.tmp 26) (.tmp 29), none⟩,
  ⟨some 31, .load 3 (.tmp 30), none⟩,
  ⟨some 32, .move (.tmp 2), none⟩,
  ⟨some 33, .binOp .sub 3 (.tmp 31) (.tmp 32) 3, none⟩,
  ⟨some 6, .assign (.tmp 33), none⟩,
  ⟨some 7, .assign (.const (.bool true)), none⟩]
def f34_c : LC := (.seq (.reg f34_r0 [] none) (.seq (.reg f34_r1 [] none) (.seq (.seq (.reg f34_r2 [] none) (.cond (.tmp 25) (.seq (.reg f34_r3 [] none) .ret) .skip)) (.seq (.reg f34_r4 [] none) .ret))))
theorem f34_lc : Try.f34.body.map lc = some f34_c.st := by kernel_rfl
theorem f34_res : Try.f34.results.toList = [.tmp 6, .tmp 7] := by kernel_rfl
theorem f34_nt : Try.f34.ntmps = 34 := by kernel_rfl
theorem f34_nm : (Try.f34.name == "runtime.NumGoroutine") = false := by kernel_rfl

/-! quill/quillref10.Longest -/
def f35_r0 : List LOp := [
  ⟨some 3, .box 28 (.tmp 0), none⟩,
  ⟨some 6, .assign (.const (.int .i64 0)), none⟩,
  ⟨some 7, .assign (.const (.bool false)), none⟩]
def f35_r1 : List LOp := [
  ⟨some 10, .load 28 (.tmp 3), none⟩,
  ⟨some 11, .move (.tmp 1), none⟩,
  ⟨some 12, .move (.tmp 2), none⟩,
  ⟨some 13, .call { callee := .value (.func 37), args := #[.tmp 10, .tmp 11, .tmp 12], argTypes := #[28, 9, 3] }, none⟩,
  ⟨some 8, .assign (.tmp 13), none⟩]
def f35_r2 : List LOp := [
  ⟨some 14, .move (.tmp 8), none⟩,
  ⟨some 15, .call { callee := .builtin .len, args := #[.tmp 14], argTypes := #[46] }, none⟩,
  ⟨some 16, .binOp .eql 3 (.tmp 15) (.const (.int .i64 0)) 3, none⟩]
def f35_r3 : List LOp := [
  ⟨some 6, .assign (.const (.int .i64 0)), none⟩,
  ⟨some 7, .assign (.const (.bool false)), none⟩]
def f35_r4 : List LOp := [
  ⟨some 17, .move (.tmp 8), none⟩,
  ⟨some 18, .move (.tmp 8), none⟩,
  ⟨some 19, .call { callee := .builtin .len, args := #[.tmp 18], argTypes := #[46] }, none⟩,
  ⟨some 20, .binOp .sub 3 (.tmp 19) (.const (.int .i64 1)) 3, none⟩,
  ⟨some 21, .indexAddr 46 (.tmp 17) (.tmp 20), none⟩,
  ⟨some 22, .load 3 (.tmp 21), none⟩,
  ⟨some 23, .move (.tmp 2), none⟩,
  ⟨some 24, .binOp .sub 3 (.tmp 22) (.tmp 23) 3, none⟩,
  ⟨some 9, .assign (.tmp 24), none⟩]
def f35_r5 : List LOp := [
  ⟨some 25, .move (.tmp 9), none⟩,
  ⟨some 26, .move (.tmp 9), none⟩,
  ⟨some 27, .binOp .gtr 3 (.tmp 26) (.const (.int .i64 0)) 3, none⟩,
  ⟨some 6, .assign (.tmp 25), none⟩,
  ⟨some 7, .assign (.tmp 27), none⟩]
def f35_c : LC := (.seq (.reg f35_r0 [] none) (.seq (.reg f35_r1 [] none) (.seq (.seq (.reg f35_r2 [] none) (.cond (.tmp 16) (.seq (.reg f35_r3 [] none) .ret) .skip)) (.seq (.reg f35_r4 [] none) (.seq (.reg f35_r5 [] none) .ret)))))
theorem f35_lc : Try.f35.body.map lc = some f35_c.st := by kernel_rfl
theorem f35_res : Try.f35.results.toList = [.tmp 6, .tmp 7] := by kernel_rfl
theorem f35_nt : Try.f35.ntmps = 28 := by kernel_rfl
theorem f35_nm : (Try.f35.name == "runtime.NumGoroutine") = false := by kernel_rfl

/-! quill/quillref10.Ints -/
def f36_r0 : List LOp := [
  ⟨some 4, .assign (.const (.bool false)), none⟩]
def f36_r1 : List LOp := [
  ⟨some 6, .move (.tmp 0), none⟩,
  ⟨some 7, .call { callee := .builtin .len, args := #[.tmp 6], argTypes := #[46] }, none⟩,
  ⟨some 8, .move (.tmp 1), none⟩,
  ⟨some 9, .call { callee := .builtin .len, args := #[.tmp 8], argTypes := #[46] }, none⟩,
  ⟨some 10, .binOp .neq 3 (.tmp 7) (.tmp 9) 3, none⟩]
def f36_r2 : List LOp := [
  ⟨some 4, .assign (.const (.bool false)), none⟩]
def f36_r3 : List LOp := [
  ⟨some 11, .move (.tmp 0), none⟩,
  ⟨some 12, .call { callee := .builtin .len, args := #[.tmp 11], argTypes := #[46] }, none⟩,
  ⟨some 13, .move (.const (.int .i64 0)), none⟩]
def f36_r4 : List LOp := [
  ⟨some 14, .binOp .lss 3 (.tmp 13) (.tmp 12) 3, none⟩]
def f36_r5 : List LOp := [
  ⟨some 15, .move (.tmp 13), none⟩,
  ⟨some 5, .assign (.tmp 15), none⟩]
def f36_r6 : List LOp := [
  ⟨some 16, .move (.tmp 0), none⟩,
  ⟨some 17, .move (.tmp 5), none⟩,
  ⟨some 18, .indexAddr 46 (.tmp 16) (.tmp 17), none⟩,
  ⟨some 19, .load 3 (.tmp 18), none⟩,
  ⟨some 20, .move (.tmp 1), none⟩,
  ⟨some 21, .move (.tmp 5), none⟩,
  ⟨some 22, .indexAddr 46 (.tmp 20) (.tmp 21), none⟩,
  ⟨some 23, .load 3 (.tmp 22), none⟩,
  ⟨some 24, .binOp .neq 3 (.tmp 19) (.tmp 23) 3, none⟩]
def f36_r7 : List LOp := [
  ⟨some 4, .assign (.const (.bool false)), none⟩]
def f36_r8 : List LOp := [
  ⟨some 25, .binOp .add 3 (.tmp 13) (.const (.int .i64 1)) 3, none⟩,
  ⟨some 13, .move (.tmp 25), none⟩]
def f36_l9 : LC := (.seq (.reg f36_r4 [] none) (.seq (.cond (.tmp 14) .skip (.exit 0)) (.seq (.block 1 (.seq (.reg f36_r5 [] none) (.seq (.reg f36_r6 [] (some 8)) (.cond (.tmp 24) (.seq (.reg f36_r7 [] none) .ret) .skip)))) (.reg f36_r8 [] none))))
def f36_i9 (t0 t1 t12 t13 : D) : List D := [t0, t1, .any, .any, .any, .any, .any, .any, .any, .any, .any, .any, t12, t13, .any, .any, .any, .any, .any, .any, .any, .any, .any, .any, .any, .any]
def f36_r10 : List LOp := [
  ⟨some 4, .assign (.const (.bool true)), none⟩]
def f36_c : LC := (.seq (.reg f36_r0 [] none) (.seq (.seq (.reg f36_r1 [] none) (.cond (.tmp 10) (.seq (.reg f36_r2 [] none) .ret) .skip)) (.seq (.seq (.reg f36_r3 [] none) (.block 0 (.loop f36_l9))) (.seq (.reg f36_r10 [] none) .ret))))
theorem f36_lc : Try.f36.body.map lc = some f36_c.st := by kernel_rfl
theorem f36_res : Try.f36.results.toList = [.tmp 4] := by kernel_rfl
theorem f36_nt : Try.f36.ntmps = 26 := by kernel_rfl
theorem f36_nm : (Try.f36.name == "runtime.NumGoroutine") = false := by kernel_rfl

/-! quill/quillref10.Ends -/
def f37_r0 : List LOp := [
  ⟨some 3, .box 28 (.tmp 0), none⟩,
  ⟨some 6, .assign (.const (.slice none 0 0)), none⟩]
def f37_r1 : List LOp := [
  ⟨some 10, .load 28 (.tmp 3), none⟩,
  ⟨some 11, .move (.tmp 1), none⟩,
  ⟨some 12, .move (.tmp 2), none⟩,
  ⟨some 13, .call { callee := .value (.func 63), args := #[.tmp 10, .tmp 11, .tmp 12], argTypes := #[28, 9, 3] }, none⟩,
  ⟨some 7, .assign (.tmp 13), none⟩]
def f37_r2 : List LOp := [
  ⟨some 14, .buildSlice 46 0 #[], none⟩,
  ⟨some 8, .assign (.tmp 14), none⟩]
def f37_r3 : List LOp := [
  ⟨some 15, .move (.tmp 7), none⟩,
  ⟨some 16, .call { callee := .builtin .len, args := #[.tmp 15], argTypes := #[76] }, none⟩,
  ⟨some 17, .move (.const (.int .i64 0)), none⟩]
def f37_r4 : List LOp := [
  ⟨some 18, .binOp .lss 3 (.tmp 17) (.tmp 16) 3, none⟩]
def f37_r5 : List LOp := [
  ⟨some 19, .move (.tmp 17), none⟩,
  ⟨some 9, .assign (.tmp 19), none⟩]
def f37_r6 : List LOp := [
  ⟨some 20, .move (.tmp 7), none⟩,
  ⟨some 21, .move (.tmp 9), none⟩,
  ⟨some 22, .indexAddr 76 (.tmp 20) (.tmp 21), none⟩,
  ⟨some 23, .load 4 (.tmp 22), none⟩]
def f37_r7 : List LOp := [
  ⟨some 24, .move (.tmp 8), none⟩,
  ⟨some 25, .move (.tmp 9), none⟩,
  ⟨some 26, .buildSlice 46 1 #[(0, .tmp 25)], none⟩,
  ⟨some 27, .call { callee := .builtin .append, args := #[.tmp 24, .tmp 26], argTypes := #[46, 46] }, none⟩,
  ⟨some 8, .assign (.tmp 27), none⟩]
def f37_r8 : List LOp := [
  ⟨some 28, .binOp .add 3 (.tmp 17) (.const (.int .i64 1)) 3, none⟩,
  ⟨some 17, .move (.tmp 28), none⟩]
def f37_l9 : LC := (.seq (.reg f37_r4 [] none) (.seq (.cond (.tmp 18) .skip (.exit 0)) (.seq (.block 1 (.seq (.reg f37_r5 [] none) (.seq (.reg f37_r6 [] none) (.cond (.tmp 23) (.reg f37_r7 [] none) .skip)))) (.reg f37_r8 [] none))))
def f37_i9 (t7 t8 t16 t17 : D) : List D := [.any, .any, .any, .any, .any, .any, .any, t7, t8, .any, .any, .any, .any, .any, .any, .any, t16, t17, .any, .any, .any, .any, .any, .any, .any, .any, .any, .any, .any, .any]
def f37_r10 : List LOp := [
  ⟨some 29, .move (.tmp 8), none⟩,
  ⟨some 6, .assign (.tmp 29), none⟩]
def f37_c : LC := (.seq (.reg f37_r0 [] none) (.seq (.reg f37_r1 [] none) (.seq (.reg f37_r2 [0] none) (.seq (.seq (.reg f37_r3 [] none) (.block 0 (.loop f37_l9))) (.seq (.reg f37_r10 [] none) .ret)))))
theorem f37_lc : Try.f37.body.map lc = some f37_c.st := by kernel_rfl
theorem f37_res : Try.f37.results.toList = [.tmp 6] := by kernel_rfl
theorem f37_nt : Try.f37.ntmps = 30 := by kernel_rfl
theorem f37_nm : (Try.f37.name == "runtime.NumGoroutine") = false := by kernel_rfl

/-! quill/quillref09.Fits -/
def f38_r0 : List LOp := [
  ⟨some 2, .box 28 (.tmp 0), none⟩,
  ⟨some 4, .assign (.const (.bool false)), none⟩]
def f38_r1 : List LOp := [
  ⟨some 5, .load 28 (.tmp 2), none⟩,
  ⟨some 6, .move (.tmp 1), none⟩,
  ⟨some 7, .call { callee := .value (.func 63), args := #[.tmp 5, .tmp 6, .const (.int .i64 0)], argTypes := #[28, 9, 3] }, none⟩,
  ⟨some 8, .move (.tmp 1), none⟩,
  ⟨some 9, .call { callee := .builtin .len, args := #[.tmp 8], argTypes := #[9] }, none⟩,
  ⟨some 10, .indexAddr 76 (.tmp 7) (.tmp 9), none⟩,
  ⟨some 11, .load 4 (.tmp 10), none⟩,
  ⟨some 4, .assign (.tmp 11), none⟩]
def f38_c : LC := (.seq (.reg f38_r0 [] none) (.seq (.reg f38_r1 [] none) .ret))
theorem f38_lc : Try.f38.body.map lc = some f38_c.st := by kernel_rfl
theorem f38_res : Try.f38.results.toList = [.tmp 4] := by kernel_rfl
theorem f38_nt : Try.f38.ntmps = 12 := by kernel_rfl
theorem f38_nm : (Try.f38.name == "runtime.NumGoroutine") = false := by kernel_rfl

/-! quill/match.Fits -/
def f39_r0 : List LOp := [
  ⟨some 2, .box 28 (.tmp 0), none⟩,
  ⟨some 4, .assign (.const (.bool false)), none⟩]
def f39_r1 : List LOp := [
  ⟨some 5, .load 28 (.tmp 2), none⟩,
  ⟨some 6, .buildSlice 26 1 #[(0, .tmp 5)], none⟩,
  ⟨some 7, .call { callee := .value (.func 46), args := #[.tmp 6], argTypes := #[26] }, none⟩,
  ⟨some 8, .move (.tmp 7), none⟩,
  ⟨some 9, .move (.tmp 1), some (3, true)⟩,
  ⟨some 10, .makeFunc (.func 64) #[] #[.tmp 2], some (3, true)⟩,
  ⟨some 11, .call { callee := .value (.func 48), args := #[.tmp 9, .tmp 10], argTypes := #[41, 36] }, some (3, true)⟩,
  ⟨some 12, .unOp .not 4 (.tmp 11), some (3, true)⟩,
  ⟨some 13, .pick (.tmp 8) (.tmp 12) (.const (.bool false)), none⟩,
  ⟨some 4, .assign (.tmp 13), none⟩]
def f39_c : LC := (.seq (.reg f39_r0 [] none) (.seq (.reg f39_r1 [] none) .ret))
theorem f39_lc : Try.f39.body.map lc = some f39_c.st := by kernel_rfl
theorem f39_res : Try.f39.results.toList = [.tmp 4] := by kernel_rfl
theorem f39_nt : Try.f39.ntmps = 14 := by kernel_rfl
theorem f39_nm : (Try.f39.name == "runtime.NumGoroutine") = false := by kernel_rfl

/-! quill/match.Any -/
def f40_r0 : List LOp := [
  ⟨some 2, .box 9 (.tmp 0), none⟩,
  ⟨some 4, .assign (.const (.int .i64 0)), none⟩,
  ⟨some 5, .assign (.const (.bool false)), none⟩]
def f40_r1 : List LOp := [
  ⟨some 7, .move (.tmp 1), none⟩,
  ⟨some 8, .makeFunc (.func 67) #[] #[.tmp 2], none⟩,
  ⟨some 9, .call { callee := .value (.func 66), args := #[.tmp 7, .tmp 8], argTypes := #[26, 50] }, none⟩,
  ⟨some 6, .assign (.tmp 9), none⟩]
def f40_r2 : List LOp := [
  ⟨some 10, .move (.tmp 6), none⟩,
  ⟨some 11, .call { callee := .builtin .max, args := #[.const (.int .i64 0), .tmp 10], argTypes := #[3, 3] }, none⟩,
  ⟨some 12, .move (.tmp 6), none⟩,
  ⟨some 13, .binOp .geq 3 (.tmp 12) (.const (.int .i64 0)) 3, none⟩,
  ⟨some 4, .assign (.tmp 11), none⟩,
  ⟨some 5, .assign (.tmp 13), none⟩]
def f40_c : LC := (.seq (.reg f40_r0 [] none) (.seq (.reg f40_r1 [] none) (.seq (.reg f40_r2 [] none) .ret)))
theorem f40_lc : Try.f40.body.map lc = some f40_c.st := by kernel_rfl
theorem f40_res : Try.f40.results.toList = [.tmp 4, .tmp 5] := by kernel_rfl
theorem f40_nt : Try.f40.ntmps = 14 := by kernel_rfl
theorem f40_nm : (Try.f40.name == "runtime.NumGoroutine") = false := by kernel_rfl

/-! quill/quillref10.Any -/
def f41_r0 : List LOp := [
  ⟨some 4, .assign (.const (.int .i64 0)), none⟩,
  ⟨some 5, .assign (.const (.bool false)), none⟩]
def f41_r1 : List LOp := [
  ⟨some 7, .move (.tmp 1), none⟩,
  ⟨some 8, .call { callee := .builtin .len, args := #[.tmp 7], argTypes := #[26] }, none⟩,
  ⟨some 9, .move (.const (.int .i64 0)), none⟩]
def f41_r2 : List LOp := [
  ⟨some 10, .binOp .lss 3 (.tmp 9) (.tmp 8) 3, none⟩]
def f41_r3 : List LOp := [
  ⟨some 11, .move (.tmp 9), none⟩,
  ⟨some 6, .assign (.tmp 11), none⟩]
def f41_r4 : List LOp := [
  ⟨some 12, .move (.tmp 1), none⟩,
  ⟨some 13, .move (.tmp 6), none⟩,
  ⟨some 14, .indexAddr 26 (.tmp 12) (.tmp 13), none⟩,
  ⟨some 15, .load 28 (.tmp 14), none⟩,
  ⟨some 16, .move (.tmp 0), none⟩,
  ⟨some 17, .call { callee := .value (.func 38), args := #[.tmp 15, .tmp 16], argTypes := #[28, 9] }, none⟩]
def f41_r5 : List LOp := [
  ⟨some 18, .move (.tmp 6), none⟩,
  ⟨some 4, .assign (.tmp 18), none⟩,
  ⟨some 5, .assign (.const (.bool true)), none⟩]
def f41_r6 : List LOp := [
  ⟨some 19, .binOp .add 3 (.tmp 9) (.const (.int .i64 1)) 3, none⟩,
  ⟨some 9, .move (.tmp 19), none⟩]
def f41_l7 : LC := (.seq (.reg f41_r2 [] none) (.seq (.cond (.tmp 10) .skip (.exit 0)) (.seq (.block 1 (.seq (.reg f41_r3 [] none) (.seq (.reg f41_r4 [] none) (.cond (.tmp 17) (.seq (.reg f41_r5 [] none) .ret) .skip)))) (.reg f41_r6 [] none))))
def f41_i7 (t0 t1 t8 t9 : D) : List D := [t0, t1, .any, .any, .any, .any, .any, .any, t8, t9, .any, .any, .any, .any, .any, .any, .any, .any, .any, .any]
def f41_r8 : List LOp := [
  ⟨some 4, .assign (.const (.int .i64 0)), none⟩,
  ⟨some 5, .assign (.const (.bool false)), none⟩]
def f41_c : LC := (.seq (.reg f41_r0 [] none) (.seq (.seq (.reg f41_r1 [] none) (.block 0 (.loop f41_l7))) (.seq (.reg f41_r8 [] none) .ret)))
theorem f41_lc : Try.f41.body.map lc = some f41_c.st := by kernel_rfl
theorem f41_res : Try.f41.results.toList = [.tmp 4, .tmp 5] := by kernel_rfl
theorem f41_nt : Try.f41.ntmps = 20 := by kernel_rfl
theorem f41_nm : (Try.f41.name == "runtime.NumGoroutine") = false := by kernel_rfl

/-! quill/quillref10.Fits -/
def f42_r0 : List LOp := [
  ⟨some 2, .box 28 (.tmp 0), none⟩,
  ⟨some 4, .assign (.const (.bool false)), none⟩]
def f42_r1 : List LOp := [
  ⟨some 6, .move (.tmp 1), none⟩,
  ⟨some 7, .call { callee := .builtin .len, args := #[.tmp 6], argTypes := #[41] }, none⟩,
  ⟨some 8, .move (.const (.int .i64 0)), none⟩]
def f42_r2 : List LOp := [
  ⟨some 9, .binOp .lss 3 (.tmp 8) (.tmp 7) 3, none⟩]
def f42_r3 : List LOp := [
  ⟨some 10, .move (.tmp 8), none⟩,
  ⟨some 5, .assign (.tmp 10), none⟩]
def f42_r4 : List LOp := [
  ⟨some 11, .load 28 (.tmp 2), none⟩,
  ⟨some 12, .move (.tmp 1), none⟩,
  ⟨some 13, .move (.tmp 5), none⟩,
  ⟨some 14, .indexAddr 41 (.tmp 12) (.tmp 13), none⟩,
  ⟨some 15, .load 9 (.tmp 14), none⟩,
  ⟨some 16, .call { callee := .value (.func 38), args := #[.tmp 11, .tmp 15], argTypes := #[28, 9] }, none⟩,
  ⟨some 17, .unOp .not 4 (.tmp 16), none⟩]
def f42_r5 : List LOp := [
  ⟨some 4, .assign (.const (.bool false)), none⟩]
def f42_r6 : List LOp := [
  ⟨some 18, .binOp .add 3 (.tmp 8) (.const (.int .i64 1)) 3, none⟩,
  ⟨some 8, .move (.tmp 18), none⟩]
def f42_l7 : LC := (.seq (.reg f42_r2 [] none) (.seq (.cond (.tmp 9) .skip (.exit 0)) (.seq (.block 1 (.seq (.reg f42_r3 [] none) (.seq (.reg f42_r4 [] (some 5)) (.cond (.tmp 17) (.seq (.reg f42_r5 [] none) .ret) .skip)))) (.reg f42_r6 [] none))))
def f42_i7 (t1 t2 t7 t8 : D) : List D := [.any, t1, t2, .any, .any, .any, .any, t7, t8, .any, .any, .any, .any, .any, .any, .any, .any, .any, .any, .any, .any]
def f42_r8 : List LOp := [
  ⟨some 19, .load 28 (.tmp 2), none⟩,
  ⟨some 20, .call { callee := .value (.func 30), args := #[.tmp 19], argTypes := #[28] }, none⟩,
  ⟨some 4, .assign (.tmp 20), none⟩]
def f42_c : LC := (.seq (.reg f42_r0 [] none) (.seq (.seq (.reg f42_r1 [] none) (.block 0 (.loop f42_l7))) (.seq (.reg f42_r8 [] none) .ret)))
theorem f42_lc : Try.f42.body.map lc = some f42_c.st := by kernel_rfl
theorem f42_res : Try.f42.results.toList = [.tmp 4] := by kernel_rfl
theorem f42_nt : Try.f42.ntmps = 21 := by kernel_rfl
theorem f42_nm : (Try.f42.name == "runtime.NumGoroutine") = false := by kernel_rfl

/-! quill/set.Count -/
def f43_r0 : List LOp := [
  ⟨some 2, .assign (.const (.int .i64 0)), none⟩]
def f43_r1 : List LOp := [
  ⟨some 3, .assign (.const (.int .i64 0)), none⟩]
def f43_r2 : List LOp := [
  ⟨some 8, .move (.tmp 0), none⟩,
  ⟨some 9, .call { callee := .builtin .len, args := #[.tmp 8], argTypes := #[83] }, none⟩,
  ⟨some 10, .move (.const (.int .i64 0)), none⟩]
def f43_r3 : List LOp := [
  ⟨some 11, .binOp .lss 3 (.tmp 10) (.tmp 9) 3, none⟩]
def f43_r4 : List LOp := [
  ⟨some 12, .indexAddr 83 (.tmp 8) (.tmp 10), none⟩,
  ⟨some 13, .load 25 (.tmp 12), none⟩,
  ⟨some 5, .alloc 25, none⟩,
  ⟨none, .store 25 (.tmp 5) (.tmp 13), none⟩]
def f43_r5 : List LOp := [
  ⟨some 14, .load 25 (.tmp 5), none⟩,
  ⟨some 15, .move (.const (.int .i64 0)), none⟩]
def f43_r6 : List LOp := [
  ⟨some 16, .binOp .lss 3 (.tmp 15) (.const (.int .i64 4)) 3, none⟩]
def f43_r7 : List LOp := [
  ⟨some 17, .index 25 (.tmp 14) (.tmp 15), none⟩,
  ⟨some 7, .assign (.tmp 17), none⟩]
def f43_r8 : List LOp := [
  ⟨some 18, .move (.tmp 3), none⟩,
  ⟨some 19, .move (.tmp 7), none⟩,
  ⟨some 20, .call { callee := .value (.func 68), args := #[.tmp 19], argTypes := #[23] }, none⟩,
  ⟨some 21, .binOp .add 3 (.tmp 18) (.tmp 20) 3, none⟩,
  ⟨some 3, .assign (.tmp 21), none⟩]
def f43_r9 : List LOp := [
  ⟨some 22, .binOp .add 3 (.tmp 15) (.const (.int .i64 1)) 3, none⟩,
  ⟨some 15, .move (.tmp 22), none⟩]
def f43_l10 : LC := (.seq (.reg f43_r6 [] none) (.seq (.cond (.tmp 16) .skip (.exit 2)) (.seq (.block 3 (.seq (.reg f43_r7 [] none) (.reg f43_r8 [] none))) (.reg f43_r9 [] none))))
def f43_i10 (t3 t8 t9 t10 t14 t15 : D) : List D := [.any, .any, .any, t3, .any, .any, .any, .any, t8, t9, t10, .any, .any, .any, t14, t15, .any, .any, .any, .any, .any, .any, .any, .any, .any]
def f43_r11 : List LOp := [
  ⟨some 23, .binOp .add 3 (.tmp 10) (.const (.int .i64 1)) 3, none⟩,
  ⟨some 10, .move (.tmp 23), none⟩]
def f43_l12 : LC := (.seq (.reg f43_r3 [] none) (.seq (.cond (.tmp 11) .skip (.exit 0)) (.seq (.block 1 (.seq (.reg f43_r4 [] none) (.seq (.reg f43_r5 [] none) (.block 2 (.loop f43_l10))))) (.reg f43_r11 [] none))))
def f43_i12 (t3 t8 t9 t10 : D) : List D := [.any, .any, .any, t3, .any, .any, .any, .any, t8, t9, t10, .any, .any, .any, .any, .any, .any, .any, .any, .any, .any, .any, .any, .any, .any]
def f43_r13 : List LOp := [
  ⟨some 24, .move (.tmp 3), none⟩,
  ⟨some 2, .assign (.tmp 24), none⟩]
def f43_c : LC := (.seq (.reg f43_r0 [] none) (.seq (.reg f43_r1 [] none) (.seq (.seq (.reg f43_r2 [] none) (.block 0 (.loop f43_l12))) (.seq (.reg f43_r13 [] none) .ret))))
theorem f43_lc : Try.f43.body.map lc = some f43_c.st := by kernel_rfl
theorem f43_res : Try.f43.results.toList = [.tmp 2] := by kernel_rfl
theorem f43_nt : Try.f43.ntmps = 25 := by kernel_rfl
theorem f43_nm : (Try.f43.name == "runtime.NumGoroutine") = false := by kernel_rfl

/-! quill/null.Only -/
def f44_r0 : List LOp := [
  ⟨some 1, .box 28 (.tmp 0), none⟩,
  ⟨some 2, .assign (.const (.bool false)), none⟩]
def f44_r1 : List LOp := [
  ⟨some 3, .load 28 (.tmp 1), none⟩,
  ⟨some 4, .buildSlice 26 1 #[(0, .tmp 3)], none⟩,
  ⟨some 5, .call { callee := .value (.func 28), args := #[.tmp 4], argTypes := #[26] }, none⟩,
  ⟨some 6, .move (.tmp 5), none⟩,
  ⟨some 7, .load 28 (.tmp 1), some (3, true)⟩,
  ⟨some 8, .call { callee := .value (.func 62), args := #[.tmp 7], argTypes := #[28] }, some (3, true)⟩,
  ⟨some 9, .build 25 #[], some (3, true)⟩,
  ⟨some 10, .binOp .eql 25 (.tmp 8) (.tmp 9) 25, some (3, true)⟩,
  ⟨some 11, .pick (.tmp 6) (.tmp 10) (.const (.bool false)), none⟩,
  ⟨some 2, .assign (.tmp 11), none⟩]
def f44_c : LC := (.seq (.reg f44_r0 [] none) (.seq (.reg f44_r1 [] none) .ret))
theorem f44_lc : Try.f44.body.map lc = some f44_c.st := by kernel_rfl
theorem f44_res : Try.f44.results.toList = [.tmp 2] := by kernel_rfl
theorem f44_nt : Try.f44.ntmps = 12 := by kernel_rfl
theorem f44_nm : (Try.f44.name == "runtime.NumGoroutine") = false := by kernel_rfl

/-! quill/quillref03.count -/
def f50_r0 : List LOp := [
  ⟨some 2, .box 28 (.tmp 0), none⟩,
  ⟨some 4, .assign (.const (.int .i64 0)), none⟩]
def f50_r1 : List LOp := [
  ⟨some 5, .assign (.const (.int .i64 1)), none⟩]
def f50_r2 : List LOp := [
  ⟨some 7, .fieldAddr 28 (.tmp 2) 2, none⟩,
  ⟨some 8, .load 26 (.tmp 7), none⟩,
  ⟨some 9, .call { callee := .builtin .len, args := #[.tmp 8], argTypes := #[26] }, none⟩,
  ⟨some 10, .move (.const (.int .i64 0)), none⟩]
def f50_r3 : List LOp := [
  ⟨some 11, .binOp .lss 3 (.tmp 10) (.tmp 9) 3, none⟩]
def f50_r4 : List LOp := [
  ⟨some 12, .move (.tmp 10), none⟩,
  ⟨some 6, .assign (.tmp 12), none⟩]
def f50_r5 : List LOp := [
  ⟨some 13, .move (.tmp 5), none⟩,
  ⟨some 14, .move (.tmp 1), none⟩,
  ⟨some 15, .binOp .gtr 3 (.tmp 13) (.tmp 14) 3, none⟩]
def f50_r6 : List LOp := [
  ⟨some 16, .move (.tmp 5), none⟩,
  ⟨some 4, .assign (.tmp 16), none⟩]
def f50_r7 : List LOp := [
  ⟨some 17, .move (.tmp 5), none⟩,
  ⟨some 18, .fieldAddr 28 (.tmp 2) 2, none⟩,
  ⟨some 19, .load 26 (.tmp 18), none⟩,
  ⟨some 20, .move (.tmp 6), none⟩,
  ⟨some 21, .indexAddr 26 (.tmp 19) (.tmp 20), none⟩,
  ⟨some 22, .load 28 (.tmp 21), none⟩,
  ⟨some 23, .move (.tmp 1), none⟩,
  ⟨some 24, .call { callee := .value (.func 50), args := #[.tmp 22, .tmp 23], argTypes := #[28, 3] }, none⟩,
  ⟨some 25, .binOp .add 3 (.tmp 17) (.tmp 24) 3, none⟩,
  ⟨some 5, .assign (.tmp 25), none⟩]
def f50_r8 : List LOp := [
  ⟨some 26, .binOp .add 3 (.tmp 10) (.const (.int .i64 1)) 3, none⟩,
  ⟨some 10, .move (.tmp 26), none⟩]
def f50_l9 : LC := (.seq (.reg f50_r3 [] none) (.seq (.cond (.tmp 11) .skip (.exit 0)) (.seq (.block 1 (.seq (.reg f50_r4 [] none) (.seq (.seq (.reg f50_r5 [] none) (.cond (.tmp 15) (.seq (.reg f50_r6 [] none) .ret) .skip)) (.reg f50_r7 [] none)))) (.reg f50_r8 [] none))))
def f50_i9 (t1 t2 t5 t9 t10 : D) : List D := [.any, t1, t2, .any, .any, t5, .any, .any, .any, t9, t10, .any, .any, .any, .any, .any, .any, .any, .any, .any, .any, .any, .any, .any, .any, .any, .any, .any]
def f50_r10 : List LOp := [
  ⟨some 27, .move (.tmp 5), none⟩,
  ⟨some 4, .assign (.tmp 27), none⟩]
def f50_c : LC := (.seq (.reg f50_r0 [] none) (.seq (.reg f50_r1 [] none) (.seq (.seq (.reg f50_r2 [] none) (.block 0 (.loop f50_l9))) (.seq (.reg f50_r10 [] none) .ret))))
theorem f50_lc : Try.f50.body.map lc = some f50_c.st := by kernel_rfl
theorem f50_res : Try.f50.results.toList = [.tmp 4] := by kernel_rfl
theorem f50_nt : Try.f50.ntmps = 28 := by kernel_rfl
theorem f50_nm : (Try.f50.name == "runtime.NumGoroutine") = false := by kernel_rfl

/-! quill/match.ends -/
def f51_r0 : List LOp := [
  ⟨some 3, .box 28 (.tmp 0), none⟩,
  ⟨some 6, .assign (.const (.slice none 0 0)), none⟩]
def f51_r1 : List LOp := [
  ⟨some 11, .move (.tmp 2), none⟩,
  ⟨some 12, .call { callee := .builtin .len, args := #[.tmp 11], argTypes := #[77] }, none⟩,
  ⟨some 13, .makeSlice 77 (.tmp 12) (.tmp 12), none⟩,
  ⟨some 7, .assign (.tmp 13), none⟩]
def f51_r2 : List LOp := [
  ⟨some 14, .fieldAddr 28 (.tmp 3) 0, none⟩,
  ⟨some 15, .load 5 (.tmp 14), none⟩]
def f51_r3 : List LOp := [
  ⟨some 17, .binOp .eql 5 (.tmp 15) (.const (.int .u8 2)) 5, none⟩,
  ⟨some 16, .assign (.tmp 17), none⟩]
def f51_r4 : List LOp := [
  ⟨some 18, .move (.tmp 7), none⟩,
  ⟨some 19, .move (.tmp 2), none⟩,
  ⟨some 20, .call { callee := .builtin .copy, args := #[.tmp 18, .tmp 19], argTypes := #[77, 77] }, none⟩]
def f51_r5 : List LOp := [
  ⟨some 22, .binOp .eql 5 (.tmp 15) (.const (.int .u8 3)) 5, none⟩,
  ⟨some 21, .assign (.tmp 22), none⟩]
def f51_r6 : List LOp := [
  ⟨some 23, .move (.tmp 1), none⟩,
  ⟨some 24, .call { callee := .builtin .len, args := #[.tmp 23], argTypes := #[9] }, none⟩,
  ⟨some 25, .move (.const (.int .i64 0)), none⟩]
def f51_r7 : List LOp := [
  ⟨some 26, .binOp .lss 3 (.tmp 25) (.tmp 24) 3, none⟩]
def f51_r8 : List LOp := [
  ⟨some 27, .move (.tmp 25), none⟩,
  ⟨some 8, .assign (.tmp 27), none⟩]
def f51_r9 : List LOp := [
  ⟨some 28, .move (.tmp 7), none⟩,
  ⟨some 29, .move (.tmp 8), none⟩,
  ⟨some 30, .binOp .add 3 (.tmp 29) (.const (.int .i64 1)) 3, none⟩,
  ⟨some 31, .move (.tmp 2), none⟩,
  ⟨some 32, .move (.tmp 8), none⟩,
  ⟨some 33, .indexAddr 77 (.tmp 31) (.tmp 32), none⟩,
  ⟨some 34, .load 4 (.tmp 33), none⟩,
  ⟨some 35, .move (.tmp 34), none⟩,
  ⟨some 36, .fieldAddr 28 (.tmp 3) 1, some (7, true)⟩,
  ⟨some 37, .load 25 (.tmp 36), some (7, true)⟩,
  ⟨some 38, .move (.tmp 1), some (7, true)⟩,
  ⟨some 39, .move (.tmp 8), some (7, true)⟩,
  ⟨some 40, .index 9 (.tmp 38) (.tmp 39), some (7, true)⟩,
  ⟨some 41, .call { callee := .value (.func 78), args := #[.tmp 37, .tmp 40], argTypes := #[25, 5] }, some (7, true)⟩,
  ⟨some 42, .pick (.tmp 35) (.tmp 41) (.const (.bool false)), none⟩,
  ⟨some 43, .indexAddr 77 (.tmp 28) (.tmp 30), none⟩,
  ⟨none, .store 4 (.tmp 43) (.tmp 42), none⟩]
def f51_r10 : List LOp := [
  ⟨some 44, .binOp .add 3 (.tmp 25) (.const (.int .i64 1)) 3, none⟩,
  ⟨some 25, .move (.tmp 44), none⟩]
def f51_l11 : LC := (.seq (.reg f51_r7 [] none) (.seq (.cond (.tmp 26) .skip (.exit 1)) (.seq (.block 2 (.seq (.reg f51_r8 [] none) (.reg f51_r9 [] (some 15)))) (.reg f51_r10 [] none))))
def f51_i11 (t1 t2 t3 t7 t24 t25 : D) : List D := [.any, t1, t2, t3, .any, .any, .any, t7, .any, .any, .any, .any, .any, .any, .any, .any, .any, .any, .any, .any, .any, .any, .any, .any, t24, t25, .any, .any, .any, .any, .any, .any, .any, .any, .any, .any, .any, .any, .any, .any, .any, .any, .any, .any, .any, .any, .any, .any, .any, .any, .any, .any, .any, .any, .any, .any, .any, .any, .any, .any, .any, .any, .any, .any, .any, .any, .any, .any, .any, .any, .any, .any, .any, .any, .any, .any, .any, .any, .any, .any, .any, .any, .any, .any, .any, .any, .any, .any, .any, .any, .any, .any, .any, .any, .any, .any, .any, .any, .any, .any, .any, .any]
def f51_r12 : List LOp := [
  ⟨some 46, .binOp .eql 5 (.tmp 15) (.const (.int .u8 4)) 5, none⟩,
  ⟨some 45, .assign (.tmp 46), none⟩]
def f51_r13 : List LOp := [
  ⟨some 47, .fieldAddr 28 (.tmp 3) 2, none⟩,
  ⟨some 48, .load 26 (.tmp 47), none⟩,
  ⟨some 49, .indexAddr 26 (.tmp 48) (.const (.int .i64 1)), none⟩,
  ⟨some 50, .load 28 (.tmp 49), none⟩,
  ⟨some 51, .move (.tmp 1), none⟩,
  ⟨some 52, .fieldAddr 28 (.tmp 3) 2, none⟩,
  ⟨some 53, .load 26 (.tmp 52), none⟩,
  ⟨some 54, .indexAddr 26 (.tmp 53) (.const (.int .i64 0)), none⟩,
  ⟨some 55, .load 28 (.tmp 54), none⟩,
  ⟨some 56, .move (.tmp 1), none⟩,
  ⟨some 57, .move (.tmp 2), none⟩,
  ⟨some 58, .call { callee := .value (.func 51), args := #[.tmp 55, .tmp 56, .tmp 57], argTypes := #[28, 9, 77] }, none⟩,
  ⟨some 59, .call { callee := .value (.func 51), args := #[.tmp 50, .tmp 51, .tmp 58], argTypes := #[28, 9, 77] }, none⟩,
  ⟨some 6, .assign (.tmp 59), none⟩]
def f51_r14 : List LOp := [
  ⟨some 61, .binOp .eql 5 (.tmp 15) (.const (.int .u8 5)) 5, none⟩,
  ⟨some 60, .assign (.tmp 61), none⟩]
def f51_r15 : List LOp := [
  ⟨some 62, .move (.tmp 7), none⟩,
  ⟨some 63, .fieldAddr 28 (.tmp 3) 2, none⟩,
  ⟨some 64, .load 26 (.tmp 63), none⟩,
  ⟨some 65, .indexAddr 26 (.tmp 64) (.const (.int .i64 0)), none⟩,
  ⟨some 66, .load 28 (.tmp 65), none⟩,
  ⟨some 67, .move (.tmp 1), none⟩,
  ⟨some 68, .move (.tmp 2), none⟩,
  ⟨some 69, .call { callee := .value (.func 51), args := #[.tmp 66, .tmp 67, .tmp 68], argTypes := #[28, 9, 77] }, none⟩,
  ⟨some 70, .call { callee := .value (.func 79), args := #[.tmp 62, .tmp 69], argTypes := #[77, 77] }, none⟩]
def f51_r16 : List LOp := [
  ⟨some 71, .move (.tmp 7), none⟩,
  ⟨some 72, .fieldAddr 28 (.tmp 3) 2, none⟩,
  ⟨some 73, .load 26 (.tmp 72), none⟩,
  ⟨some 74, .indexAddr 26 (.tmp 73) (.const (.int .i64 1)), none⟩,
  ⟨some 75, .load 28 (.tmp 74), none⟩,
  ⟨some 76, .move (.tmp 1), none⟩,
  ⟨some 77, .move (.tmp 2), none⟩,
  ⟨some 78, .call { callee := .value (.func 51), args := #[.tmp 75, .tmp 76, .tmp 77], argTypes := #[28, 9, 77] }, none⟩,
  ⟨some 79, .call { callee := .value (.func 79), args := #[.tmp 71, .tmp 78], argTypes := #[77, 77] }, none⟩]
def f51_r17 : List LOp := [
  ⟨some 81, .binOp .eql 5 (.tmp 15) (.const (.int .u8 6)) 5, none⟩,
  ⟨some 80, .assign (.tmp 81), none⟩]
def f51_r18 : List LOp := [
  ⟨some 82, .fieldAddr 28 (.tmp 3) 2, none⟩,
  ⟨some 83, .load 26 (.tmp 82), none⟩,
  ⟨some 84, .indexAddr 26 (.tmp 83) (.const (.int .i64 0)), none⟩,
  ⟨some 85, .load 28 (.tmp 84), none⟩,
  ⟨some 9, .alloc 28, none⟩,
  ⟨none, .store 28 (.tmp 9) (.tmp 85), none⟩]
def f51_r19 : List LOp := [
  ⟨some 86, .fieldAddr 28 (.tmp 9) 0, none⟩,
  ⟨some 87, .load 5 (.tmp 86), none⟩,
  ⟨some 88, .binOp .eql 5 (.tmp 87) (.const (.int .u8 6)) 5, none⟩]
def f51_r20 : List LOp := [
  ⟨some 89, .fieldAddr 28 (.tmp 9) 2, none⟩,
  ⟨some 90, .load 26 (.tmp 89), none⟩,
  ⟨some 91, .indexAddr 26 (.tmp 90) (.const (.int .i64 0)), none⟩,
  ⟨some 92, .load 28 (.tmp 91), none⟩,
  ⟨none, .store 28 (.tmp 9) (.tmp 92), none⟩]
def f51_l21 : LC := (.seq (.seq (.reg f51_r19 [] none) (.cond (.tmp 88) .skip (.exit 3))) (.block 4 (.reg f51_r20 [] none)))
def f51_i21 (t1 t2 t7 t9 : D) : List D := [.any, t1, t2, .any, .any, .any, .any, t7, .any, t9, .any, .any, .any, .any, .any, .any, .any, .any, .any, .any, .any, .any, .any, .any, .any, .any, .any, .any, .any, .any, .any, .any, .any, .any, .any, .any, .any, .any, .any, .any, .any, .any, .any, .any, .any, .any, .any, .any, .any, .any, .any, .any, .any, .any, .any, .any, .any, .any, .any, .any, .any, .any, .any, .any, .any, .any, .any, .any, .any, .any, .any, .any, .any, .any, .any, .any, .any, .any, .any, .any, .any, .any, .any, .any, .any, .any, .any, .any, .any, .any, .any, .any, .any, .any, .any, .any, .any, .any, .any, .any, .any, .any]
def f51_r22 : List LOp := [
  ⟨some 93, .move (.tmp 2), none⟩,
  ⟨some 10, .assign (.tmp 93), none⟩]
def f51_r23 : List LOp := [
  ⟨some 94, .move (.tmp 7), none⟩,
  ⟨some 95, .move (.tmp 10), none⟩,
  ⟨some 96, .call { callee := .value (.func 79), args := #[.tmp 94, .tmp 95], argTypes := #[77, 77] }, none⟩]
def f51_r24 : List LOp := [
  ⟨some 97, .load 28 (.tmp 9), none⟩,
  ⟨some 98, .move (.tmp 1), none⟩,
  ⟨some 99, .move (.tmp 10), none⟩,
  ⟨some 100, .call { callee := .value (.func 51), args := #[.tmp 97, .tmp 98, .tmp 99], argTypes := #[28, 9, 77] }, none⟩,
  ⟨some 10, .assign (.tmp 100), none⟩]
def f51_l25 : LC := (.seq (.seq (.reg f51_r23 [] none) (.cond (.tmp 96) .skip (.exit 5))) (.block 6 (.reg f51_r24 [] none)))
def f51_i25 (t1 t7 t9 t10 : D) : List D := [.any, t1, .any, .any, .any, .any, .any, t7, .any, t9, t10, .any, .any, .any, .any, .any, .any, .any, .any, .any, .any, .any, .any, .any, .any, .any, .any, .any, .any, .any, .any, .any, .any, .any, .any, .any, .any, .any, .any, .any, .any, .any, .any, .any, .any, .any, .any, .any, .any, .any, .any, .any, .any, .any, .any, .any, .any, .any, .any, .any, .any, .any, .any, .any, .any, .any, .any, .any, .any, .any, .any, .any, .any, .any, .any, .any, .any, .any, .any, .any, .any, .any, .any, .any, .any, .any, .any, .any, .any, .any, .any, .any, .any, .any, .any, .any, .any, .any, .any, .any, .any, .any]
def f51_r26 : List LOp := [
  ⟨some 101, .move (.tmp 7), none⟩,
  ⟨some 6, .assign (.tmp 101), none⟩]
def f51_c : LC := (.seq (.reg f51_r0 [] none) (.seq (.reg f51_r1 [2] none) (.seq (.seq (.reg f51_r2 [] none) (.block 0 (.seq (.reg f51_r3 [] none) (.cond (.tmp 16) (.reg f51_r4 [] none) (.seq (.reg f51_r5 [] none) (.cond (.tmp 21) (.seq (.reg f51_r6 [] none) (.block 1 (.loop f51_l11))) (.seq (.reg f51_r12 [] none) (.cond (.tmp 45) (.seq (.reg f51_r13 [] (some 12)) .ret) (.seq (.reg f51_r14 [] none) (.cond (.tmp 60) (.seq (.reg f51_r15 [] none) (.reg f51_r16 [] none)) (.seq (.reg f51_r17 [] none) (.cond (.tmp 80) (.seq (.reg f51_r18 [] none) (.seq (.block 3 (.loop f51_l21)) (.seq (.reg f51_r22 [] none) (.block 5 (.loop f51_l25))))) .skip)))))))))))) (.seq (.reg f51_r26 [] none) .ret))))
theorem f51_lc : Try.f51.body.map lc = some f51_c.st := by kernel_rfl
theorem f51_res : Try.f51.results.toList = [.tmp 6] := by kernel_rfl
theorem f51_nt : Try.f51.ntmps = 102 := by kernel_rfl
theorem f51_nm : (Try.f51.name == "runtime.NumGoroutine") = false := by kernel_rfl

/-! (quill/match.places).only -/
def f52_r0 : List LOp := [
  ⟨some 4, .assign (.const (.slice none 0 0)), none⟩]
def f52_r1 : List LOp := [
  ⟨some 6, .move (.tmp 0), none⟩,
  ⟨some 7, .call { callee := .builtin .len, args := #[.tmp 6], argTypes := #[77] }, none⟩,
  ⟨some 8, .makeSlice 77 (.tmp 7) (.tmp 7), none⟩,
  ⟨some 5, .assign (.tmp 8), none⟩]
def f52_r2 : List LOp := [
  ⟨some 9, .move (.tmp 5), none⟩,
  ⟨some 10, .move (.tmp 1), none⟩,
  ⟨some 11, .indexAddr 77 (.tmp 9) (.tmp 10), none⟩,
  ⟨none, .store 4 (.tmp 11) (.const (.bool true)), none⟩]
def f52_r3 : List LOp := [
  ⟨some 12, .move (.tmp 5), none⟩,
  ⟨some 4, .assign (.tmp 12), none⟩]
def f52_c : LC := (.seq (.reg f52_r0 [] none) (.seq (.reg f52_r1 [2] none) (.seq (.reg f52_r2 [] none) (.seq (.reg f52_r3 [] none) .ret))))
theorem f52_lc : Try.f52.body.map lc = some f52_c.st := by kernel_rfl
theorem f52_res : Try.f52.results.toList = [.tmp 4] := by kernel_rfl
theorem f52_nt : Try.f52.ntmps = 13 := by kernel_rfl
theorem f52_nm : (Try.f52.name == "runtime.NumGoroutine") = false := by kernel_rfl

/-! quill/quillref07.Of -/
def f54_r0 : List LOp := [
  ⟨some 1, .box 28 (.tmp 0), none⟩,
  ⟨some 2, .assign (.const (.bool false)), none⟩]
def f54_r1 : List LOp := [
  ⟨some 3, .fieldAddr 28 (.tmp 1) 0, none⟩,
  ⟨some 4, .load 5 (.tmp 3), none⟩,
  ⟨some 5, .binOp .eql 5 (.tmp 4) (.const (.int .u8 4)) 5, none⟩]
def f54_r2 : List LOp := [
  ⟨some 6, .fieldAddr 28 (.tmp 1) 2, none⟩,
  ⟨some 7, .load 26 (.tmp 6), none⟩,
  ⟨some 8, .indexAddr 26 (.tmp 7) (.const (.int .i64 0)), none⟩,
  ⟨some 9, .load 28 (.tmp 8), none⟩,
  ⟨some 10, .call { callee := .value (.func 54), args := #[.tmp 9], argTypes := #[28] }, none⟩,
  ⟨some 11, .move (.tmp 10), none⟩,
  ⟨some 12, .fieldAddr 28 (.tmp 1) 2, some (5, true)⟩,
  ⟨some 13, .load 26 (.tmp 12), some (5, true)⟩,
  ⟨some 14, .indexAddr 26 (.tmp 13) (.const (.int .i64 1)), some (5, true)⟩,
  ⟨some 15, .load 28 (.tmp 14), some (5, true)⟩,
  ⟨some 16, .call { callee := .value (.func 54), args := #[.tmp 15], argTypes := #[28] }, some (5, true)⟩,
  ⟨some 17, .pick (.tmp 11) (.tmp 16) (.const (.bool false)), none⟩,
  ⟨some 2, .assign (.tmp 17), none⟩]
def f54_r3 : List LOp := [
  ⟨some 18, .fieldAddr 28 (.tmp 1) 0, none⟩,
  ⟨some 19, .load 5 (.tmp 18), none⟩,
  ⟨some 20, .binOp .eql 5 (.tmp 19) (.const (.int .u8 5)) 5, none⟩]
def f54_r4 : List LOp := [
  ⟨some 21, .fieldAddr 28 (.tmp 1) 2, none⟩,
  ⟨some 22, .load 26 (.tmp 21), none⟩,
  ⟨some 23, .indexAddr 26 (.tmp 22) (.const (.int .i64 0)), none⟩,
  ⟨some 24, .load 28 (.tmp 23), none⟩,
  ⟨some 25, .call { callee := .value (.func 54), args := #[.tmp 24], argTypes := #[28] }, none⟩,
  ⟨some 26, .move (.tmp 25), none⟩,
  ⟨some 27, .fieldAddr 28 (.tmp 1) 2, some (5, false)⟩,
  ⟨some 28, .load 26 (.tmp 27), some (5, false)⟩,
  ⟨some 29, .indexAddr 26 (.tmp 28) (.const (.int .i64 1)), some (5, false)⟩,
  ⟨some 30, .load 28 (.tmp 29), some (5, false)⟩,
  ⟨some 31, .call { callee := .value (.func 54), args := #[.tmp 30], argTypes := #[28] }, some (5, false)⟩,
  ⟨some 32, .pick (.tmp 26) (.const (.bool true)) (.tmp 31), none⟩,
  ⟨some 2, .assign (.tmp 32), none⟩]
def f54_r5 : List LOp := [
  ⟨some 33, .fieldAddr 28 (.tmp 1) 0, none⟩,
  ⟨some 34, .load 5 (.tmp 33), none⟩,
  ⟨some 35, .binOp .eql 5 (.tmp 34) (.const (.int .u8 2)) 5, none⟩,
  ⟨some 36, .move (.tmp 35), none⟩,
  ⟨some 37, .fieldAddr 28 (.tmp 1) 0, some (3, false)⟩,
  ⟨some 38, .load 5 (.tmp 37), some (3, false)⟩,
  ⟨some 39, .binOp .eql 5 (.tmp 38) (.const (.int .u8 6)) 5, some (3, false)⟩,
  ⟨some 40, .pick (.tmp 36) (.const (.bool true)) (.tmp 39), none⟩,
  ⟨some 2, .assign (.tmp 40), none⟩]
def f54_c : LC := (.seq (.reg f54_r0 [] none) (.seq (.seq (.reg f54_r1 [] none) (.cond (.tmp 5) (.seq (.reg f54_r2 [] none) .ret) .skip)) (.seq (.seq (.reg f54_r3 [] none) (.cond (.tmp 20) (.seq (.reg f54_r4 [] none) .ret) .skip)) (.seq (.reg f54_r5 [] none) .ret))))
theorem f54_lc : Try.f54.body.map lc = some f54_c.st := by kernel_rfl
theorem f54_res : Try.f54.results.toList = [.tmp 2] := by kernel_rfl
theorem f54_nt : Try.f54.ntmps = 41 := by kernel_rfl
theorem f54_nm : (Try.f54.name == "runtime.NumGoroutine") = false := by kernel_rfl

/-! quill/quillref07.fits -/
def f55_r0 : List LOp := [
  ⟨some 1, .box 28 (.tmp 0), none⟩,
  ⟨some 2, .assign (.const (.bool false)), none⟩]
def f55_r1 : List LOp := [
  ⟨some 3, .fieldAddr 28 (.tmp 1) 0, none⟩,
  ⟨some 4, .load 5 (.tmp 3), none⟩,
  ⟨some 5, .binOp .eql 5 (.tmp 4) (.const (.int .u8 4)) 5, none⟩]
def f55_r2 : List LOp := [
  ⟨some 6, .fieldAddr 28 (.tmp 1) 2, none⟩,
  ⟨some 7, .load 26 (.tmp 6), none⟩,
  ⟨some 8, .indexAddr 26 (.tmp 7) (.const (.int .i64 0)), none⟩,
  ⟨some 9, .load 28 (.tmp 8), none⟩,
  ⟨some 10, .call { callee := .value (.func 55), args := #[.tmp 9], argTypes := #[28] }, none⟩,
  ⟨some 11, .move (.tmp 10), none⟩,
  ⟨some 12, .fieldAddr 28 (.tmp 1) 2, some (5, true)⟩,
  ⟨some 13, .load 26 (.tmp 12), some (5, true)⟩,
  ⟨some 14, .indexAddr 26 (.tmp 13) (.const (.int .i64 1)), some (5, true)⟩,
  ⟨some 15, .load 28 (.tmp 14), some (5, true)⟩,
  ⟨some 16, .call { callee := .value (.func 55), args := #[.tmp 15], argTypes := #[28] }, some (5, true)⟩,
  ⟨some 17, .pick (.tmp 11) (.tmp 16) (.const (.bool false)), none⟩,
  ⟨some 2, .assign (.tmp 17), none⟩]
def f55_r3 : List LOp := [
  ⟨some 18, .fieldAddr 28 (.tmp 1) 0, none⟩,
  ⟨some 19, .load 5 (.tmp 18), none⟩,
  ⟨some 20, .binOp .eql 5 (.tmp 19) (.const (.int .u8 5)) 5, none⟩]
def f55_r4 : List LOp := [
  ⟨some 21, .fieldAddr 28 (.tmp 1) 2, none⟩,
  ⟨some 22, .load 26 (.tmp 21), none⟩,
  ⟨some 23, .indexAddr 26 (.tmp 22) (.const (.int .i64 0)), none⟩,
  ⟨some 24, .load 28 (.tmp 23), none⟩,
  ⟨some 25, .call { callee := .value (.func 55), args := #[.tmp 24], argTypes := #[28] }, none⟩,
  ⟨some 26, .move (.tmp 25), none⟩,
  ⟨some 27, .fieldAddr 28 (.tmp 1) 2, some (5, false)⟩,
  ⟨some 28, .load 26 (.tmp 27), some (5, false)⟩,
  ⟨some 29, .indexAddr 26 (.tmp 28) (.const (.int .i64 1)), some (5, false)⟩,
  ⟨some 30, .load 28 (.tmp 29), some (5, false)⟩,
  ⟨some 31, .call { callee := .value (.func 55), args := #[.tmp 30], argTypes := #[28] }, some (5, false)⟩,
  ⟨some 32, .pick (.tmp 26) (.const (.bool true)) (.tmp 31), none⟩,
  ⟨some 2, .assign (.tmp 32), none⟩]
def f55_r5 : List LOp := [
  ⟨some 33, .fieldAddr 28 (.tmp 1) 0, none⟩,
  ⟨some 34, .load 5 (.tmp 33), none⟩,
  ⟨some 35, .binOp .neq 5 (.tmp 34) (.const (.int .u8 1)) 5, none⟩,
  ⟨some 2, .assign (.tmp 35), none⟩]
def f55_c : LC := (.seq (.reg f55_r0 [] none) (.seq (.seq (.reg f55_r1 [] none) (.cond (.tmp 5) (.seq (.reg f55_r2 [] none) .ret) .skip)) (.seq (.seq (.reg f55_r3 [] none) (.cond (.tmp 20) (.seq (.reg f55_r4 [] none) .ret) .skip)) (.seq (.reg f55_r5 [] none) .ret))))
theorem f55_lc : Try.f55.body.map lc = some f55_c.st := by kernel_rfl
theorem f55_res : Try.f55.results.toList = [.tmp 2] := by kernel_rfl
theorem f55_nt : Try.f55.ntmps = 36 := by kernel_rfl
theorem f55_nm : (Try.f55.name == "runtime.NumGoroutine") = false := by kernel_rfl

/-! quill/null.Null$1 -/
def f57_r0 : List LOp := [
  ⟨some 1, .box 28 (.tmp 0), none⟩,
  ⟨some 2, .assign (.const (.bool false)), none⟩]
def f57_r1 : List LOp := [
  ⟨some 3, .load 28 (.tmp 1), none⟩,
  ⟨some 4, .buildSlice 26 1 #[(0, .tmp 3)], none⟩,
  ⟨some 5, .call { callee := .value (.func 46), args := #[.tmp 4], argTypes := #[26] }, none⟩,
  ⟨some 6, .unOp .not 4 (.tmp 5), none⟩,
  ⟨some 7, .move (.tmp 6), none⟩,
  ⟨some 8, .load 28 (.tmp 1), some (4, false)⟩,
  ⟨some 9, .call { callee := .value (.func 58), args := #[.tmp 8], argTypes := #[28] }, some (4, false)⟩,
  ⟨some 10, .unOp .not 4 (.tmp 9), some (4, false)⟩,
  ⟨some 11, .pick (.tmp 7) (.const (.bool true)) (.tmp 10), none⟩,
  ⟨some 2, .assign (.tmp 11), none⟩]
def f57_c : LC := (.seq (.reg f57_r0 [] none) (.seq (.reg f57_r1 [] none) .ret))
theorem f57_lc : Try.f57.body.map lc = some f57_c.st := by kernel_rfl
theorem f57_res : Try.f57.results.toList = [.tmp 2] := by kernel_rfl
theorem f57_nt : Try.f57.ntmps = 12 := by kernel_rfl
theorem f57_nm : (Try.f57.name == "runtime.NumGoroutine") = false := by kernel_rfl

/-! quill/null.null -/
def f58_r0 : List LOp := [
  ⟨some 1, .box 28 (.tmp 0), none⟩,
  ⟨some 2, .assign (.const (.bool false)), none⟩]
def f58_r1 : List LOp := [
  ⟨some 3, .fieldAddr 28 (.tmp 1) 0, none⟩,
  ⟨some 4, .load 5 (.tmp 3), none⟩]
def f58_r2 : List LOp := [
  ⟨some 6, .binOp .eql 5 (.tmp 4) (.const (.int .u8 2)) 5, none⟩,
  ⟨some 5, .assign (.tmp 6), none⟩]
def f58_r3 : List LOp := [
  ⟨some 7, .binOp .eql 5 (.tmp 4) (.const (.int .u8 6)) 5, none⟩,
  ⟨some 5, .assign (.tmp 7), none⟩]
def f58_r4 : List LOp := [
  ⟨some 2, .assign (.const (.bool true)), none⟩]
def f58_r5 : List LOp := [
  ⟨some 9, .binOp .eql 5 (.tmp 4) (.const (.int .u8 4)) 5, none⟩,
  ⟨some 8, .assign (.tmp 9), none⟩]
def f58_r6 : List LOp := [
  ⟨some 10, .fieldAddr 28 (.tmp 1) 2, none⟩,
  ⟨some 11, .load 26 (.tmp 10), none⟩,
  ⟨some 12, .indexAddr 26 (.tmp 11) (.const (.int .i64 0)), none⟩,
  ⟨some 13, .load 28 (.tmp 12), none⟩,
  ⟨some 14, .call { callee := .value (.func 58), args := #[.tmp 13], argTypes := #[28] }, none⟩,
  ⟨some 15, .move (.tmp 14), none⟩,
  ⟨some 16, .fieldAddr 28 (.tmp 1) 2, some (5, true)⟩,
  ⟨some 17, .load 26 (.tmp 16), some (5, true)⟩,
  ⟨some 18, .indexAddr 26 (.tmp 17) (.const (.int .i64 1)), some (5, true)⟩,
  ⟨some 19, .load 28 (.tmp 18), some (5, true)⟩,
  ⟨some 20, .call { callee := .value (.func 58), args := #[.tmp 19], argTypes := #[28] }, some (5, true)⟩,
  ⟨some 21, .pick (.tmp 15) (.tmp 20) (.const (.bool false)), none⟩,
  ⟨some 2, .assign (.tmp 21), none⟩]
def f58_r7 : List LOp := [
  ⟨some 23, .binOp .eql 5 (.tmp 4) (.const (.int .u8 5)) 5, none⟩,
  ⟨some 22, .assign (.tmp 23), none⟩]
def f58_r8 : List LOp := [
  ⟨some 24, .fieldAddr 28 (.tmp 1) 2, none⟩,
  ⟨some 25, .load 26 (.tmp 24), none⟩,
  ⟨some 26, .indexAddr 26 (.tmp 25) (.const (.int .i64 0)), none⟩,
  ⟨some 27, .load 28 (.tmp 26), none⟩,
  ⟨some 28, .call { callee := .value (.func 58), args := #[.tmp 27], argTypes := #[28] }, none⟩,
  ⟨some 29, .move (.tmp 28), none⟩,
  ⟨some 30, .fieldAddr 28 (.tmp 1) 2, some (5, false)⟩,
  ⟨some 31, .load 26 (.tmp 30), some (5, false)⟩,
  ⟨some 32, .indexAddr 26 (.tmp 31) (.const (.int .i64 1)), some (5, false)⟩,
  ⟨some 33, .load 28 (.tmp 32), some (5, false)⟩,
  ⟨some 34, .call { callee := .value (.func 58), args := #[.tmp 33], argTypes := #[28] }, some (5, false)⟩,
  ⟨some 35, .pick (.tmp 29) (.const (.bool true)) (.tmp 34), none⟩,
  ⟨some 2, .assign (.tmp 35), none⟩]
def f58_r9 : List LOp := [
  ⟨some 2, .assign (.const (.bool false)), none⟩]
def f58_c : LC := (.seq (.reg f58_r0 [] none) (.seq (.seq (.reg f58_r1 [] none) (.block 0 (.seq (.seq (.reg f58_r2 [] none) (.cond (.tmp 5) .skip (.reg f58_r3 [] none))) (.cond (.tmp 5) (.seq (.reg f58_r4 [] none) .ret) (.seq (.reg f58_r5 [] none) (.cond (.tmp 8) (.seq (.reg f58_r6 [] none) .ret) (.seq (.reg f58_r7 [] none) (.cond (.tmp 22) (.seq (.reg f58_r8 [] none) .ret) .skip)))))))) (.seq (.reg f58_r9 [] none) .ret)))
theorem f58_lc : Try.f58.body.map lc = some f58_c.st := by kernel_rfl
theorem f58_res : Try.f58.results.toList = [.tmp 2] := by kernel_rfl
theorem f58_nt : Try.f58.ntmps = 36 := by kernel_rfl
theorem f58_nm : (Try.f58.name == "runtime.NumGoroutine") = false := by kernel_rfl

/-! quill/null.Void$1 -/
def f59_r0 : List LOp := [
  ⟨some 1, .box 28 (.tmp 0), none⟩,
  ⟨some 2, .assign (.const (.bool false)), none⟩]
def f59_r1 : List LOp := [
  ⟨some 3, .load 28 (.tmp 1), none⟩,
  ⟨some 4, .buildSlice 26 1 #[(0, .tmp 3)], none⟩,
  ⟨some 5, .call { callee := .value (.func 46), args := #[.tmp 4], argTypes := #[26] }, none⟩,
  ⟨some 6, .move (.tmp 5), none⟩,
  ⟨some 7, .load 28 (.tmp 1), some (3, true)⟩,
  ⟨some 8, .call { callee := .value (.func 60), args := #[.tmp 7], argTypes := #[28] }, some (3, true)⟩,
  ⟨some 9, .pick (.tmp 6) (.tmp 8) (.const (.bool false)), none⟩,
  ⟨some 2, .assign (.tmp 9), none⟩]
def f59_c : LC := (.seq (.reg f59_r0 [] none) (.seq (.reg f59_r1 [] none) .ret))
theorem f59_lc : Try.f59.body.map lc = some f59_c.st := by kernel_rfl
theorem f59_res : Try.f59.results.toList = [.tmp 2] := by kernel_rfl
theorem f59_nt : Try.f59.ntmps = 10 := by kernel_rfl
theorem f59_nm : (Try.f59.name == "runtime.NumGoroutine") = false := by kernel_rfl

/-! quill/null.void -/
def f60_r0 : List LOp := [
  ⟨some 1, .box 28 (.tmp 0), none⟩,
  ⟨some 2, .assign (.const (.bool false)), none⟩]
def f60_r1 : List LOp := [
  ⟨some 3, .fieldAddr 28 (.tmp 1) 0, none⟩,
  ⟨some 4, .load 5 (.tmp 3), none⟩]
def f60_r2 : List LOp := [
  ⟨some 6, .binOp .eql 5 (.tmp 4) (.const (.int .u8 1)) 5, none⟩,
  ⟨some 5, .assign (.tmp 6), none⟩]
def f60_r3 : List LOp := [
  ⟨some 2, .assign (.const (.bool true)), none⟩]
def f60_r4 : List LOp := [
  ⟨some 8, .binOp .eql 5 (.tmp 4) (.const (.int .u8 4)) 5, none⟩,
  ⟨some 7, .assign (.tmp 8), none⟩]
def f60_r5 : List LOp := [
  ⟨some 9, .fieldAddr 28 (.tmp 1) 2, none⟩,
  ⟨some 10, .load 26 (.tmp 9), none⟩,
  ⟨some 11, .indexAddr 26 (.tmp 10) (.const (.int .i64 0)), none⟩,
  ⟨some 12, .load 28 (.tmp 11), none⟩,
  ⟨some 13, .call { callee := .value (.func 60), args := #[.tmp 12], argTypes := #[28] }, none⟩,
  ⟨some 14, .move (.tmp 13), none⟩,
  ⟨some 15, .fieldAddr 28 (.tmp 1) 2, some (5, false)⟩,
  ⟨some 16, .load 26 (.tmp 15), some (5, false)⟩,
  ⟨some 17, .indexAddr 26 (.tmp 16) (.const (.int .i64 1)), some (5, false)⟩,
  ⟨some 18, .load 28 (.tmp 17), some (5, false)⟩,
  ⟨some 19, .call { callee := .value (.func 60), args := #[.tmp 18], argTypes := #[28] }, some (5, false)⟩,
  ⟨some 20, .pick (.tmp 14) (.const (.bool true)) (.tmp 19), none⟩,
  ⟨some 2, .assign (.tmp 20), none⟩]
def f60_r6 : List LOp := [
  ⟨some 22, .binOp .eql 5 (.tmp 4) (.const (.int .u8 5)) 5, none⟩,
  ⟨some 21, .assign (.tmp 22), none⟩]
def f60_r7 : List LOp := [
  ⟨some 23, .fieldAddr 28 (.tmp 1) 2, none⟩,
  ⟨some 24, .load 26 (.tmp 23), none⟩,
  ⟨some 25, .indexAddr 26 (.tmp 24) (.const (.int .i64 0)), none⟩,
  ⟨some 26, .load 28 (.tmp 25), none⟩,
  ⟨some 27, .call { callee := .value (.func 60), args := #[.tmp 26], argTypes := #[28] }, none⟩,
  ⟨some 28, .move (.tmp 27), none⟩,
  ⟨some 29, .fieldAddr 28 (.tmp 1) 2, some (5, true)⟩,
  ⟨some 30, .load 26 (.tmp 29), some (5, true)⟩,
  ⟨some 31, .indexAddr 26 (.tmp 30) (.const (.int .i64 1)), some (5, true)⟩,
  ⟨some 32, .load 28 (.tmp 31), some (5, true)⟩,
  ⟨some 33, .call { callee := .value (.func 60), args := #[.tmp 32], argTypes := #[28] }, some (5, true)⟩,
  ⟨some 34, .pick (.tmp 28) (.tmp 33) (.const (.bool false)), none⟩,
  ⟨some 2, .assign (.tmp 34), none⟩]
def f60_r8 : List LOp := [
  ⟨some 2, .assign (.const (.bool false)), none⟩]
def f60_c : LC := (.seq (.reg f60_r0 [] none) (.seq (.seq (.reg f60_r1 [] none) (.block 0 (.seq (.reg f60_r2 [] none) (.cond (.tmp 5) (.seq (.reg f60_r3 [] none) .ret) (.seq (.reg f60_r4 [] none) (.cond (.tmp 7) (.seq (.reg f60_r5 [] none) .ret) (.seq (.reg f60_r6 [] none) (.cond (.tmp 21) (.seq (.reg f60_r7 [] none) .ret) .skip)))))))) (.seq (.reg f60_r8 [] none) .ret)))
theorem f60_lc : Try.f60.body.map lc = some f60_c.st := by kernel_rfl
theorem f60_res : Try.f60.results.toList = [.tmp 2] := by kernel_rfl
theorem f60_nt : Try.f60.ntmps = 35 := by kernel_rfl
theorem f60_nm : (Try.f60.name == "runtime.NumGoroutine") = false := by kernel_rfl

/-! quill/null.first -/
def f62_r0 : List LOp := [
  ⟨some 1, .box 28 (.tmp 0), none⟩,
  ⟨some 2, .alloc 25, none⟩]
def f62_r1 : List LOp := [
  ⟨some 3, .fieldAddr 28 (.tmp 1) 0, none⟩,
  ⟨some 4, .load 5 (.tmp 3), none⟩]
def f62_r2 : List LOp := [
  ⟨some 6, .binOp .eql 5 (.tmp 4) (.const (.int .u8 3)) 5, none⟩,
  ⟨some 5, .assign (.tmp 6), none⟩]
def f62_r3 : List LOp := [
  ⟨some 7, .fieldAddr 28 (.tmp 1) 1, none⟩,
  ⟨some 8, .load 25 (.tmp 7), none⟩,
  ⟨none, .store 25 (.tmp 2) (.tmp 8), none⟩]
def f62_r4 : List LOp := [
  ⟨some 10, .binOp .eql 5 (.tmp 4) (.const (.int .u8 6)) 5, none⟩,
  ⟨some 9, .assign (.tmp 10), none⟩]
def f62_r5 : List LOp := [
  ⟨some 11, .fieldAddr 28 (.tmp 1) 2, none⟩,
  ⟨some 12, .load 26 (.tmp 11), none⟩,
  ⟨some 13, .indexAddr 26 (.tmp 12) (.const (.int .i64 0)), none⟩,
  ⟨some 14, .load 28 (.tmp 13), none⟩,
  ⟨some 15, .call { callee := .value (.func 62), args := #[.tmp 14], argTypes := #[28] }, none⟩,
  ⟨none, .store 25 (.tmp 2) (.tmp 15), none⟩]
def f62_r6 : List LOp := [
  ⟨some 17, .binOp .eql 5 (.tmp 4) (.const (.int .u8 5)) 5, none⟩,
  ⟨some 16, .assign (.tmp 17), none⟩]
def f62_r7 : List LOp := [
  ⟨some 18, .fieldAddr 28 (.tmp 1) 2, none⟩,
  ⟨some 19, .load 26 (.tmp 18), none⟩,
  ⟨some 20, .indexAddr 26 (.tmp 19) (.const (.int .i64 0)), none⟩,
  ⟨some 21, .load 28 (.tmp 20), none⟩,
  ⟨some 22, .call { callee := .value (.func 62), args := #[.tmp 21], argTypes := #[28] }, none⟩,
  ⟨some 23, .fieldAddr 28 (.tmp 1) 2, none⟩,
  ⟨some 24, .load 26 (.tmp 23), none⟩,
  ⟨some 25, .indexAddr 26 (.tmp 24) (.const (.int .i64 1)), none⟩,
  ⟨some 26, .load 28 (.tmp 25), none⟩,
  ⟨some 27, .call { callee := .value (.func 62), args := #[.tmp 26], argTypes := #[28] }, none⟩,
  ⟨some 28, .buildSlice 83 2 #[(0, .tmp 22), (1, .tmp 27)], none⟩,
  ⟨some 29, .call { callee := .value (.func 33), args := #[.tmp 28], argTypes := #[83] }, none⟩,
  ⟨none, .store 25 (.tmp 2) (.tmp 29), none⟩]
def f62_r8 : List LOp := [
  ⟨some 31, .binOp .eql 5 (.tmp 4) (.const (.int .u8 4)) 5, none⟩,
  ⟨some 30, .assign (.tmp 31), none⟩]
def f62_r9 : List LOp := [
  ⟨some 33, .load 28 (.tmp 1), none⟩,
  ⟨some 34, .call { callee := .value (.func 60), args := #[.tmp 33], argTypes := #[28] }, none⟩,
  ⟨some 32, .assign (.tmp 34), none⟩]
def f62_r10 : List LOp := [
  ⟨some 35, .build 25 #[], none⟩,
  ⟨none, .store 25 (.tmp 2) (.tmp 35), none⟩]
def f62_r11 : List LOp := [
  ⟨some 37, .fieldAddr 28 (.tmp 1) 2, none⟩,
  ⟨some 38, .load 26 (.tmp 37), none⟩,
  ⟨some 39, .indexAddr 26 (.tmp 38) (.const (.int .i64 0)), none⟩,
  ⟨some 40, .load 28 (.tmp 39), none⟩,
  ⟨some 41, .call { callee := .value (.func 58), args := #[.tmp 40], argTypes := #[28] }, none⟩,
  ⟨some 36, .assign (.tmp 41), none⟩]
def f62_r12 : List LOp := [
  ⟨some 42, .fieldAddr 28 (.tmp 1) 2, none⟩,
  ⟨some 43, .load 26 (.tmp 42), none⟩,
  ⟨some 44, .indexAddr 26 (.tmp 43) (.const (.int .i64 0)), none⟩,
  ⟨some 45, .load 28 (.tmp 44), none⟩,
  ⟨some 46, .call { callee := .value (.func 62), args := #[.tmp 45], argTypes := #[28] }, none⟩,
  ⟨some 47, .fieldAddr 28 (.tmp 1) 2, none⟩,
  ⟨some 48, .load 26 (.tmp 47), none⟩,
  ⟨some 49, .indexAddr 26 (.tmp 48) (.const (.int .i64 1)), none⟩,
  ⟨some 50, .load 28 (.tmp 49), none⟩,
  ⟨some 51, .call { callee := .value (.func 62), args := #[.tmp 50], argTypes := #[28] }, none⟩,
  ⟨some 52, .buildSlice 83 2 #[(0, .tmp 46), (1, .tmp 51)], none⟩,
  ⟨some 53, .call { callee := .value (.func 33), args := #[.tmp 52], argTypes := #[83] }, none⟩,
  ⟨none, .store 25 (.tmp 2) (.tmp 53), none⟩]
def f62_r13 : List LOp := [
  ⟨some 54, .fieldAddr 28 (.tmp 1) 2, none⟩,
  ⟨some 55, .load 26 (.tmp 54), none⟩,
  ⟨some 56, .indexAddr 26 (.tmp 55) (.const (.int .i64 0)), none⟩,
  ⟨some 57, .load 28 (.tmp 56), none⟩,
  ⟨some 58, .call { callee := .value (.func 62), args := #[.tmp 57], argTypes := #[28] }, none⟩,
  ⟨none, .store 25 (.tmp 2) (.tmp 58), none⟩]
def f62_r14 : List LOp := [
  ⟨some 59, .build 25 #[], none⟩,
  ⟨none, .store 25 (.tmp 2) (.tmp 59), none⟩]
def f62_c : LC := (.seq (.reg f62_r0 [] none) (.seq (.seq (.reg f62_r1 [] none) (.block 0 (.seq (.reg f62_r2 [] none) (.cond (.tmp 5) (.seq (.reg f62_r3 [] none) .ret) (.seq (.reg f62_r4 [] none) (.cond (.tmp 9) (.seq (.reg f62_r5 [] none) .ret) (.seq (.reg f62_r6 [] none) (.cond (.tmp 16) (.seq (.reg f62_r7 [] (some 9)) .ret) (.seq (.reg f62_r8 [] none) (.cond (.tmp 30) (.seq (.block 1 (.seq (.reg f62_r9 [] none) (.cond (.tmp 32) (.seq (.reg f62_r10 [] none) .ret) (.seq (.reg f62_r11 [] none) (.cond (.tmp 36) (.seq (.reg f62_r12 [] (some 9)) .ret) .skip))))) (.seq (.reg f62_r13 [] none) .ret)) .skip)))))))))) (.seq (.reg f62_r14 [] none) .ret)))
theorem f62_lc : Try.f62.body.map lc = some f62_c.st := by kernel_rfl
theorem f62_res : Try.f62.results.toList = [.cell 2 25] := by kernel_rfl
theorem f62_nt : Try.f62.ntmps = 60 := by kernel_rfl
theorem f62_nm : (Try.f62.name == "runtime.NumGoroutine") = false := by kernel_rfl

/-! quill/quillref09.Ends -/
def f63_r0 : List LOp := [
  ⟨some 3, .box 28 (.tmp 0), none⟩,
  ⟨some 6, .assign (.const (.slice none 0 0)), none⟩]
def f63_r1 : List LOp := [
  ⟨some 8, .move (.tmp 1), none⟩,
  ⟨some 9, .call { callee := .builtin .len, args := #[.tmp 8], argTypes := #[9] }, none⟩,
  ⟨some 10, .binOp .add 3 (.tmp 9) (.const (.int .i64 1)) 3, none⟩,
  ⟨some 11, .makeSlice 76 (.tmp 10) (.tmp 10), none⟩,
  ⟨some 7, .assign (.tmp 11), none⟩]
def f63_r2 : List LOp := [
  ⟨some 12, .load 28 (.tmp 3), none⟩,
  ⟨some 13, .call { callee := .value (.func 30), args := #[.tmp 12], argTypes := #[28] }, none⟩,
  ⟨some 14, .unOp .not 4 (.tmp 13), none⟩,
  ⟨some 15, .move (.tmp 14), none⟩,
  ⟨some 16, .move (.tmp 2), some (3, false)⟩,
  ⟨some 17, .binOp .lss 3 (.tmp 16) (.const (.int .i64 0)) 3, some (3, false)⟩,
  ⟨some 18, .pick (.tmp 15) (.const (.bool true)) (.tmp 17), none⟩,
  ⟨some 19, .move (.tmp 18), none⟩,
  ⟨some 20, .move (.tmp 2), some (7, false)⟩,
  ⟨some 21, .move (.tmp 1), some (7, false)⟩,
  ⟨some 22, .call { callee := .builtin .len, args := #[.tmp 21], argTypes := #[9] }, some (7, false)⟩,
  ⟨some 23, .binOp .gtr 3 (.tmp 20) (.tmp 22) 3, some (7, false)⟩,
  ⟨some 24, .pick (.tmp 19) (.const (.bool true)) (.tmp 23), none⟩]
def f63_r3 : List LOp := [
  ⟨some 25, .move (.tmp 7), none⟩,
  ⟨some 6, .assign (.tmp 25), none⟩]
def f63_r4 : List LOp := [
  ⟨some 26, .load 28 (.tmp 3), none⟩,
  ⟨some 27, .move (.tmp 1), none⟩,
  ⟨some 28, .move (.tmp 7), none⟩,
  ⟨some 29, .move (.tmp 2), none⟩,
  ⟨some 30, .call { callee := .value (.func 81), args := #[.tmp 28, .tmp 29], argTypes := #[76, 3] }, none⟩,
  ⟨some 31, .call { callee := .value (.func 80), args := #[.tmp 26, .tmp 27, .tmp 30], argTypes := #[28, 9, 76] }, none⟩,
  ⟨some 6, .assign (.tmp 31), none⟩]
def f63_c : LC := (.seq (.reg f63_r0 [] none) (.seq (.reg f63_r1 [3] none) (.seq (.seq (.reg f63_r2 [] none) (.cond (.tmp 24) (.seq (.reg f63_r3 [] none) .ret) .skip)) (.seq (.reg f63_r4 [] (some 5)) .ret))))
theorem f63_lc : Try.f63.body.map lc = some f63_c.st := by kernel_rfl
theorem f63_res : Try.f63.results.toList = [.tmp 6] := by kernel_rfl
theorem f63_nt : Try.f63.ntmps = 32 := by kernel_rfl
theorem f63_nm : (Try.f63.name == "runtime.NumGoroutine") = false := by kernel_rfl

/-! quill/match.Fits$1 -/
def f64_r0 : List LOp := [
  ⟨some 3, .assign (.const (.bool false)), none⟩]
def f64_r1 : List LOp := [
  ⟨some 4, .load 28 (.tmp 1), none⟩,
  ⟨some 5, .move (.tmp 0), none⟩,
  ⟨some 6, .call { callee := .value (.func 65), args := #[.tmp 4, .tmp 5], argTypes := #[28, 9] }, none⟩,
  ⟨some 7, .unOp .not 4 (.tmp 6), none⟩,
  ⟨some 3, .assign (.tmp 7), none⟩]
def f64_c : LC := (.seq (.reg f64_r0 [] none) (.seq (.reg f64_r1 [] none) .ret))
theorem f64_lc : Try.f64.body.map lc = some f64_c.st := by kernel_rfl
theorem f64_res : Try.f64.results.toList = [.tmp 3] := by kernel_rfl
theorem f64_nt : Try.f64.ntmps = 8 := by kernel_rfl
theorem f64_nm : (Try.f64.name == "runtime.NumGoroutine") = false := by kernel_rfl

/-! quill/match.fits -/
def f65_r0 : List LOp := [
  ⟨some 2, .box 28 (.tmp 0), none⟩,
  ⟨some 4, .assign (.const (.bool false)), none⟩]
def f65_r1 : List LOp := [
  ⟨some 5, .load 28 (.tmp 2), none⟩,
  ⟨some 6, .move (.tmp 1), none⟩,
  ⟨some 7, .call { callee := .value (.func 23), args := #[.tmp 5, .tmp 6, .const (.int .i64 0)], argTypes := #[28, 9, 3] }, none⟩,
  ⟨some 8, .move (.tmp 1), none⟩,
  ⟨some 9, .call { callee := .builtin .len, args := #[.tmp 8], argTypes := #[9] }, none⟩,
  ⟨some 10, .call { callee := .value (.func 82), args := #[.tmp 7, .tmp 9], argTypes := #[46, 3] }, none⟩,
  ⟨some 4, .assign (.tmp 10), none⟩]
def f65_c : LC := (.seq (.reg f65_r0 [] none) (.seq (.reg f65_r1 [] none) .ret))
theorem f65_lc : Try.f65.body.map lc = some f65_c.st := by kernel_rfl
theorem f65_res : Try.f65.results.toList = [.tmp 4] := by kernel_rfl
theorem f65_nt : Try.f65.ntmps = 11 := by kernel_rfl
theorem f65_nm : (Try.f65.name == "runtime.NumGoroutine") = false := by kernel_rfl

/-! quill/match.Any$1 -/
def f67_r0 : List LOp := [
  ⟨some 2, .box 28 (.tmp 0), none⟩,
  ⟨some 3, .assign (.const (.bool false)), none⟩]
def f67_r1 : List LOp := [
  ⟨some 4, .load 28 (.tmp 2), none⟩,
  ⟨some 5, .load 9 (.tmp 1), none⟩,
  ⟨some 6, .call { callee := .value (.func 65), args := #[.tmp 4, .tmp 5], argTypes := #[28, 9] }, none⟩,
  ⟨some 3, .assign (.tmp 6), none⟩]
def f67_c : LC := (.seq (.reg f67_r0 [] none) (.seq (.reg f67_r1 [] none) .ret))
theorem f67_lc : Try.f67.body.map lc = some f67_c.st := by kernel_rfl
theorem f67_res : Try.f67.results.toList = [.tmp 3] := by kernel_rfl
theorem f67_nt : Try.f67.ntmps = 7 := by kernel_rfl
theorem f67_nm : (Try.f67.name == "runtime.NumGoroutine") = false := by kernel_rfl

/-! math/bits.OnesCount64 -/
def f68_r0 : List LOp := [
  ⟨some 2, .assign (.const (.int .i64 0)), none⟩]
def f68_r1 : List LOp := [
  ⟨some 3, .move (.tmp 0), none⟩,
  ⟨some 4, .binOp .shr 23 (.tmp 3) (.const (.int .u64 1)) 99, none⟩,
  ⟨some 5, .binOp .and 23 (.tmp 4) (.const (.int .u64 6148914691236517205)) 23, none⟩,
  ⟨some 6, .move (.tmp 0), none⟩,
  ⟨some 7, .binOp .and 23 (.tmp 6) (.const (.int .u64 6148914691236517205)) 23, none⟩,
  ⟨some 8, .binOp .add 23 (.tmp 5) (.tmp 7) 23, none⟩,
  ⟨some 0, .assign (.tmp 8), none⟩]
def f68_r2 : List LOp := [
  ⟨some 9, .move (.tmp 0), none⟩,
  ⟨some 10, .binOp .shr 23 (.tmp 9) (.const (.int .u64 2)) 99, none⟩,
  ⟨some 11, .binOp .and 23 (.tmp 10) (.const (.int .u64 3689348814741910323)) 23, none⟩,
  ⟨some 12, .move (.tmp 0), none⟩,
  ⟨some 13, .binOp .and 23 (.tmp 12) (.const (.int .u64 3689348814741910323)) 23, none⟩,
  ⟨some 14, .binOp .add 23 (.tmp 11) (.tmp 13) 23, none⟩,
  ⟨some 0, .assign (.tmp 14), none⟩]
def f68_r3 : List LOp := [
  ⟨some 15, .move (.tmp 0), none⟩,
  ⟨some 16, .binOp .shr 23 (.tmp 15) (.const (.int .u64 4)) 99, none⟩,
  ⟨some 17, .move (.tmp 0), none⟩,
  ⟨some 18, .binOp .add 23 (.tmp 16) (.tmp 17) 23, none⟩,
  ⟨some 19, .binOp .and 23 (.tmp 18) (.const (.int .u64 1085102592571150095)) 23, none⟩,
  ⟨some 0, .assign (.tmp 19), none⟩]
def f68_r4 : List LOp := [
  ⟨some 20, .move (.tmp 0), none⟩,
  ⟨some 21, .move (.tmp 0), none⟩,
  ⟨some 22, .binOp .shr 23 (.tmp 21) (.const (.int .u64 8)) 99, none⟩,
  ⟨some 23, .binOp .add 23 (.tmp 20) (.tmp 22) 23, none⟩,
  ⟨some 0, .assign (.tmp 23), none⟩]
def f68_r5 : List LOp := [
  ⟨some 24, .move (.tmp 0), none⟩,
  ⟨some 25, .move (.tmp 0), none⟩,
  ⟨some 26, .binOp .shr 23 (.tmp 25) (.const (.int .u64 16)) 99, none⟩,
  ⟨some 27, .binOp .add 23 (.tmp 24) (.tmp 26) 23, none⟩,
  ⟨some 0, .assign (.tmp 27), none⟩]
def f68_r6 : List LOp := [
  ⟨some 28, .move (.tmp 0), none⟩,
  ⟨some 29, .move (.tmp 0), none⟩,
  ⟨some 30, .binOp .shr 23 (.tmp 29) (.const (.int .u64 32)) 99, none⟩,
  ⟨some 31, .binOp .add 23 (.tmp 28) (.tmp 30) 23, none⟩,
  ⟨some 0, .assign (.tmp 31), none⟩]
def f68_r7 : List LOp := [
  ⟨some 32, .move (.tmp 0), none⟩,
  ⟨some 33, .convert 23 3 (.tmp 32), none⟩,
  ⟨some 34, .binOp .and 3 (.tmp 33) (.const (.int .i64 127)) 3, none⟩,
  ⟨some 2, .assign (.tmp 34), none⟩]
def f68_c : LC := (.seq (.reg f68_r0 [] none) (.seq (.reg f68_r1 [] none) (.seq (.reg f68_r2 [] none) (.seq (.reg f68_r3 [] none) (.seq (.reg f68_r4 [] none) (.seq (.reg f68_r5 [] none) (.seq (.reg f68_r6 [] none) (.seq (.reg f68_r7 [] none) .ret))))))))
theorem f68_lc : Try.f68.body.map lc = some f68_c.st := by kernel_rfl
theorem f68_res : Try.f68.results.toList = [.tmp 2] := by kernel_rfl
theorem f68_nt : Try.f68.ntmps = 35 := by kernel_rfl
theorem f68_nm : (Try.f68.name == "runtime.NumGoroutine") = false := by kernel_rfl

/-! quill/set.Has -/
def f78_r0 : List LOp := [
  ⟨some 2, .box 25 (.tmp 0), none⟩,
  ⟨some 4, .assign (.const (.bool false)), none⟩]
def f78_r1 : List LOp := [
  ⟨some 5, .move (.tmp 1), none⟩,
  ⟨some 6, .binOp .quo 5 (.tmp 5) (.const (.int .u8 64)) 5, none⟩,
  ⟨some 7, .indexAddr 25 (.tmp 2) (.tmp 6), none⟩,
  ⟨some 8, .load 23 (.tmp 7), none⟩,
  ⟨some 9, .move (.tmp 1), none⟩,
  ⟨some 10, .binOp .rem 5 (.tmp 9) (.const (.int .u8 64)) 5, none⟩,
  ⟨some 11, .binOp .shr 23 (.tmp 8) (.tmp 10) 5, none⟩,
  ⟨some 12, .binOp .and 23 (.tmp 11) (.const (.int .u64 1)) 23, none⟩,
  ⟨some 13, .binOp .eql 23 (.tmp 12) (.const (.int .u64 1)) 23, none⟩,
  ⟨some 4, .assign (.tmp 13), none⟩]
def f78_c : LC := (.seq (.reg f78_r0 [] none) (.seq (.reg f78_r1 [] none) .ret))
theorem f78_lc : Try.f78.body.map lc = some f78_c.st := by kernel_rfl
theorem f78_res : Try.f78.results.toList = [.tmp 4] := by kernel_rfl
theorem f78_nt : Try.f78.ntmps = 14 := by kernel_rfl
theorem f78_nm : (Try.f78.name == "runtime.NumGoroutine") = false := by kernel_rfl

/-! (quill/match.places).join -/
def f79_r0 : List LOp := [
  ⟨some 4, .assign (.const (.bool false)), none⟩]
def f79_r1 : List LOp := [
  ⟨some 5, .assign (.const (.bool false)), none⟩]
def f79_r2 : List LOp := [
  ⟨some 8, .move (.tmp 1), none⟩,
  ⟨some 9, .call { callee := .builtin .len, args := #[.tmp 8], argTypes := #[77] }, none⟩,
  ⟨some 10, .move (.const (.int .i64 0)), none⟩]
def f79_r3 : List LOp := [
  ⟨some 11, .binOp .lss 3 (.tmp 10) (.tmp 9) 3, none⟩]
def f79_r4 : List LOp := [
  ⟨some 12, .move (.tmp 10), none⟩,
  ⟨some 13, .indexAddr 77 (.tmp 8) (.tmp 10), none⟩,
  ⟨some 14, .load 4 (.tmp 13), none⟩,
  ⟨some 6, .assign (.tmp 12), none⟩,
  ⟨some 7, .assign (.tmp 14), none⟩]
def f79_r5 : List LOp := [
  ⟨some 15, .move (.tmp 5), none⟩,
  ⟨some 16, .move (.tmp 15), none⟩,
  ⟨some 17, .move (.tmp 7), some (1, false)⟩,
  ⟨some 18, .move (.tmp 17), some (1, false)⟩,
  ⟨some 19, .move (.tmp 0), some (3, true)⟩,
  ⟨some 20, .move (.tmp 6), some (3, true)⟩,
  ⟨some 21, .indexAddr 77 (.tmp 19) (.tmp 20), some (3, true)⟩,
  ⟨some 22, .load 4 (.tmp 21), some (3, true)⟩,
  ⟨some 23, .unOp .not 4 (.tmp 22), some (3, true)⟩,
  ⟨some 24, .pick (.tmp 18) (.tmp 23) (.const (.bool false)), some (1, false)⟩,
  ⟨some 25, .pick (.tmp 16) (.const (.bool true)) (.tmp 24), none⟩,
  ⟨some 5, .assign (.tmp 25), none⟩]
def f79_r6 : List LOp := [
  ⟨some 26, .move (.tmp 0), none⟩,
  ⟨some 27, .move (.tmp 6), none⟩,
  ⟨some 28, .move (.tmp 0), none⟩,
  ⟨some 29, .move (.tmp 6), none⟩,
  ⟨some 30, .indexAddr 77 (.tmp 28) (.tmp 29), none⟩,
  ⟨some 31, .load 4 (.tmp 30), none⟩,
  ⟨some 32, .move (.tmp 31), none⟩,
  ⟨some 33, .move (.tmp 7), some (6, false)⟩,
  ⟨some 34, .pick (.tmp 32) (.const (.bool true)) (.tmp 33), none⟩,
  ⟨some 35, .indexAddr 77 (.tmp 26) (.tmp 27), none⟩,
  ⟨none, .store 4 (.tmp 35) (.tmp 34), none⟩]
def f79_r7 : List LOp := [
  ⟨some 36, .binOp .add 3 (.tmp 10) (.const (.int .i64 1)) 3, none⟩,
  ⟨some 10, .move (.tmp 36), none⟩]
def f79_l8 : LC := (.seq (.reg f79_r3 [] none) (.seq (.cond (.tmp 11) .skip (.exit 0)) (.seq (.block 1 (.seq (.reg f79_r4 [] none) (.seq (.reg f79_r5 [] none) (.reg f79_r6 [] none)))) (.reg f79_r7 [] none))))
def f79_i8 (t0 t5 t8 t9 t10 : D) : List D := [t0, .any, .any, .any, .any, t5, .any, .any, t8, t9, t10, .any, .any, .any, .any, .any, .any, .any, .any, .any, .any, .any, .any, .any, .any, .any, .any, .any, .any, .any, .any, .any, .any, .any, .any, .any, .any, .any]
def f79_r9 : List LOp := [
  ⟨some 37, .move (.tmp 5), none⟩,
  ⟨some 4, .assign (.tmp 37), none⟩]
def f79_c : LC := (.seq (.reg f79_r0 [] none) (.seq (.reg f79_r1 [] none) (.seq (.seq (.reg f79_r2 [] none) (.block 0 (.loop f79_l8))) (.seq (.reg f79_r9 [] none) .ret))))
theorem f79_lc : Try.f79.body.map lc = some f79_c.st := by kernel_rfl
theorem f79_res : Try.f79.results.toList = [.tmp 4] := by kernel_rfl
theorem f79_nt : Try.f79.ntmps = 38 := by kernel_rfl
theorem f79_nm : (Try.f79.name == "runtime.NumGoroutine") = false := by kernel_rfl

/-! quill/quillref09.ends -/
def f80_r0 : List LOp := [
  ⟨some 3, .box 28 (.tmp 0), none⟩,
  ⟨some 6, .assign (.const (.slice none 0 0)), none⟩]
def f80_r1 : List LOp := [
  ⟨some 16, .move (.tmp 1), none⟩,
  ⟨some 17, .call { callee := .builtin .len, args := #[.tmp 16], argTypes := #[9] }, none⟩,
  ⟨some 18, .binOp .add 3 (.tmp 17) (.const (.int .i64 1)) 3, none⟩,
  ⟨some 19, .makeSlice 76 (.tmp 18) (.tmp 18), none⟩,
  ⟨some 7, .assign (.tmp 19), none⟩]
def f80_r2 : List LOp := [
  ⟨some 20, .fieldAddr 28 (.tmp 3) 0, none⟩,
  ⟨some 21, .load 5 (.tmp 20), none⟩]
def f80_r3 : List LOp := [
  ⟨some 23, .binOp .eql 5 (.tmp 21) (.const (.int .u8 1)) 5, none⟩,
  ⟨some 22, .assign (.tmp 23), none⟩]
def f80_r4 : List LOp := [
  ⟨some 24, .move (.tmp 7), none⟩,
  ⟨some 6, .assign (.tmp 24), none⟩]
def f80_r5 : List LOp := [
  ⟨some 26, .binOp .eql 5 (.tmp 21) (.const (.int .u8 2)) 5, none⟩,
  ⟨some 25, .assign (.tmp 26), none⟩]
def f80_r6 : List LOp := [
  ⟨some 27, .move (.tmp 2), none⟩,
  ⟨some 6, .assign (.tmp 27), none⟩]
def f80_r7 : List LOp := [
  ⟨some 29, .binOp .eql 5 (.tmp 21) (.const (.int .u8 3)) 5, none⟩,
  ⟨some 28, .assign (.tmp 29), none⟩]
def f80_r8 : List LOp := [
  ⟨some 8, .assign (.const (.int .i64 0)), none⟩]
def f80_r9 : List LOp := [
  ⟨some 30, .move (.tmp 8), none⟩,
  ⟨some 31, .move (.tmp 1), none⟩,
  ⟨some 32, .call { callee := .builtin .len, args := #[.tmp 31], argTypes := #[9] }, none⟩,
  ⟨some 33, .binOp .lss 3 (.tmp 30) (.tmp 32) 3, none⟩]
def f80_r10 : List LOp := [
  ⟨some 36, .move (.tmp 2), none⟩,
  ⟨some 37, .move (.tmp 8), none⟩,
  ⟨some 38, .indexAddr 76 (.tmp 36) (.tmp 37), none⟩,
  ⟨some 39, .load 4 (.tmp 38), none⟩,
  ⟨some 40, .move (.tmp 39), none⟩,
  ⟨some 41, .fieldAddr 28 (.tmp 3) 1, some (4, true)⟩,
  ⟨some 42, .load 25 (.tmp 41), some (4, true)⟩,
  ⟨some 43, .move (.tmp 1), some (4, true)⟩,
  ⟨some 44, .move (.tmp 8), some (4, true)⟩,
  ⟨some 45, .index 9 (.tmp 43) (.tmp 44), some (4, true)⟩,
  ⟨some 46, .convert 5 3 (.tmp 45), some (4, true)⟩,
  ⟨some 47, .call { callee := .value (.func 91), args := #[.tmp 42, .tmp 46], argTypes := #[25, 3] }, some (4, true)⟩,
  ⟨some 48, .pick (.tmp 40) (.tmp 47) (.const (.bool false)), none⟩]
def f80_r11 : List LOp := [
  ⟨some 49, .move (.tmp 7), none⟩,
  ⟨some 50, .move (.tmp 8), none⟩,
  ⟨some 51, .binOp .add 3 (.tmp 50) (.const (.int .i64 1)) 3, none⟩,
  ⟨some 52, .call { callee := .value (.func 81), args := #[.tmp 49, .tmp 51], argTypes := #[76, 3] }, none⟩,
  ⟨some 7, .assign (.tmp 52), none⟩]
def f80_r12 : List LOp := [
  ⟨some 34, .move (.tmp 8), none⟩,
  ⟨some 35, .binOp .add 3 (.tmp 34) (.const (.int .i64 1)) 3, none⟩,
  ⟨some 8, .assign (.tmp 35), none⟩]
def f80_l13 : LC := (.seq (.seq (.reg f80_r9 [] none) (.cond (.tmp 33) .skip (.exit 1))) (.seq (.block 2 (.seq (.reg f80_r10 [] (some 11)) (.cond (.tmp 48) (.reg f80_r11 [] none) .skip))) (.reg f80_r12 [] none)))
def f80_i13 (t1 t2 t3 t7 t8 : D) : List D := [.any, t1, t2, t3, .any, .any, .any, t7, t8, .any, .any, .any, .any, .any, .any, .any, .any, .any, .any, .any, .any, .any, .any, .any, .any, .any, .any, .any, .any, .any, .any, .any, .any, .any, .any, .any, .any, .any, .any, .any, .any, .any, .any, .any, .any, .any, .any, .any, .any, .any, .any, .any, .any, .any, .any, .any, .any, .any, .any, .any, .any, .any, .any, .any, .any, .any, .any, .any, .any, .any, .any, .any, .any, .any, .any, .any, .any, .any, .any, .any, .any, .any, .any, .any, .any, .any, .any, .any, .any, .any, .any, .any, .any, .any, .any, .any, .any, .any, .any, .any, .any, .any, .any, .any, .any, .any, .any, .any, .any, .any, .any, .any, .any, .any, .any, .any, .any, .any, .any, .any, .any, .any, .any, .any, .any, .any, .any, .any, .any, .any, .any, .any, .any, .any, .any, .any, .any, .any, .any, .any, .any, .any, .any, .any, .any, .any, .any, .any, .any, .any]
def f80_r14 : List LOp := [
  ⟨some 53, .move (.tmp 7), none⟩,
  ⟨some 6, .assign (.tmp 53), none⟩]
def f80_r15 : List LOp := [
  ⟨some 55, .binOp .eql 5 (.tmp 21) (.const (.int .u8 4)) 5, none⟩,
  ⟨some 54, .assign (.tmp 55), none⟩]
def f80_r16 : List LOp := [
  ⟨some 56, .fieldAddr 28 (.tmp 3) 2, none⟩,
  ⟨some 57, .load 26 (.tmp 56), none⟩,
  ⟨some 58, .indexAddr 26 (.tmp 57) (.const (.int .i64 1)), none⟩,
  ⟨some 59, .load 28 (.tmp 58), none⟩,
  ⟨some 60, .move (.tmp 1), none⟩,
  ⟨some 61, .fieldAddr 28 (.tmp 3) 2, none⟩,
  ⟨some 62, .load 26 (.tmp 61), none⟩,
  ⟨some 63, .indexAddr 26 (.tmp 62) (.const (.int .i64 0)), none⟩,
  ⟨some 64, .load 28 (.tmp 63), none⟩,
  ⟨some 65, .move (.tmp 1), none⟩,
  ⟨some 66, .move (.tmp 2), none⟩,
  ⟨some 67, .call { callee := .value (.func 80), args := #[.tmp 64, .tmp 65, .tmp 66], argTypes := #[28, 9, 76] }, none⟩,
  ⟨some 68, .call { callee := .value (.func 80), args := #[.tmp 59, .tmp 60, .tmp 67], argTypes := #[28, 9, 76] }, none⟩,
  ⟨some 6, .assign (.tmp 68), none⟩]
def f80_r17 : List LOp := [
  ⟨some 70, .binOp .eql 5 (.tmp 21) (.const (.int .u8 5)) 5, none⟩,
  ⟨some 69, .assign (.tmp 70), none⟩]
def f80_r18 : List LOp := [
  ⟨some 71, .fieldAddr 28 (.tmp 3) 2, none⟩,
  ⟨some 72, .load 26 (.tmp 71), none⟩,
  ⟨some 73, .indexAddr 26 (.tmp 72) (.const (.int .i64 0)), none⟩,
  ⟨some 74, .load 28 (.tmp 73), none⟩,
  ⟨some 75, .move (.tmp 1), none⟩,
  ⟨some 76, .move (.tmp 2), none⟩,
  ⟨some 77, .call { callee := .value (.func 80), args := #[.tmp 74, .tmp 75, .tmp 76], argTypes := #[28, 9, 76] }, none⟩,
  ⟨some 78, .fieldAddr 28 (.tmp 3) 2, none⟩,
  ⟨some 79, .load 26 (.tmp 78), none⟩,
  ⟨some 80, .indexAddr 26 (.tmp 79) (.const (.int .i64 1)), none⟩,
  ⟨some 81, .load 28 (.tmp 80), none⟩,
  ⟨some 82, .move (.tmp 1), none⟩,
  ⟨some 83, .move (.tmp 2), none⟩,
  ⟨some 84, .call { callee := .value (.func 80), args := #[.tmp 81, .tmp 82, .tmp 83], argTypes := #[28, 9, 76] }, none⟩,
  ⟨some 9, .assign (.tmp 77), none⟩,
  ⟨some 10, .assign (.tmp 84), none⟩]
def f80_r19 : List LOp := [
  ⟨some 85, .move (.tmp 9), none⟩,
  ⟨some 86, .call { callee := .builtin .len, args := #[.tmp 85], argTypes := #[76] }, none⟩,
  ⟨some 87, .move (.const (.int .i64 0)), none⟩]
def f80_r20 : List LOp := [
  ⟨some 88, .binOp .lss 3 (.tmp 87) (.tmp 86) 3, none⟩]
def f80_r21 : List LOp := [
  ⟨some 89, .move (.tmp 87), none⟩,
  ⟨some 11, .assign (.tmp 89), none⟩]
def f80_r22 : List LOp := [
  ⟨some 90, .move (.tmp 7), none⟩,
  ⟨some 91, .move (.tmp 11), none⟩,
  ⟨some 92, .move (.tmp 9), none⟩,
  ⟨some 93, .move (.tmp 11), none⟩,
  ⟨some 94, .indexAddr 76 (.tmp 92) (.tmp 93), none⟩,
  ⟨some 95, .load 4 (.tmp 94), none⟩,
  ⟨some 96, .move (.tmp 95), none⟩,
  ⟨some 97, .move (.tmp 10), some (6, false)⟩,
  ⟨some 98, .move (.tmp 11), some (6, false)⟩,
  ⟨some 99, .indexAddr 76 (.tmp 97) (.tmp 98), some (6, false)⟩,
  ⟨some 100, .load 4 (.tmp 99), some (6, false)⟩,
  ⟨some 101, .pick (.tmp 96) (.const (.bool true)) (.tmp 100), none⟩,
  ⟨some 102, .indexAddr 76 (.tmp 90) (.tmp 91), none⟩,
  ⟨none, .store 4 (.tmp 102) (.tmp 101), none⟩]
def f80_r23 : List LOp := [
  ⟨some 103, .binOp .add 3 (.tmp 87) (.const (.int .i64 1)) 3, none⟩,
  ⟨some 87, .move (.tmp 103), none⟩]
def f80_l24 : LC := (.seq (.reg f80_r20 [] none) (.seq (.cond (.tmp 88) .skip (.exit 3)) (.seq (.block 4 (.seq (.reg f80_r21 [] none) (.reg f80_r22 [] none))) (.reg f80_r23 [] none))))
def f80_i24 (t7 t9 t10 t86 t87 : D) : List D := [.any, .any, .any, .any, .any, .any, .any, t7, .any, t9, t10, .any, .any, .any, .any, .any, .any, .any, .any, .any, .any, .any, .any, .any, .any, .any, .any, .any, .any, .any, .any, .any, .any, .any, .any, .any, .any, .any, .any, .any, .any, .any, .any, .any, .any, .any, .any, .any, .any, .any, .any, .any, .any, .any, .any, .any, .any, .any, .any, .any, .any, .any, .any, .any, .any, .any, .any, .any, .any, .any, .any, .any, .any, .any, .any, .any, .any, .any, .any, .any, .any, .any, .any, .any, .any, .any, t86, t87, .any, .any, .any, .any, .any, .any, .any, .any, .any, .any, .any, .any, .any, .any, .any, .any, .any, .any, .any, .any, .any, .any, .any, .any, .any, .any, .any, .any, .any, .any, .any, .any, .any, .any, .any, .any, .any, .any, .any, .any, .any, .any, .any, .any, .any, .any, .any, .any, .any, .any, .any, .any, .any, .any, .any, .any, .any, .any, .any, .any, .any, .any]
def f80_r25 : List LOp := [
  ⟨some 104, .move (.tmp 7), none⟩,
  ⟨some 6, .assign (.tmp 104), none⟩]
def f80_r26 : List LOp := [
  ⟨some 105, .fieldAddr 28 (.tmp 3) 2, none⟩,
  ⟨some 106, .load 26 (.tmp 105), none⟩,
  ⟨some 107, .indexAddr 26 (.tmp 106) (.const (.int .i64 0)), none⟩,
  ⟨some 108, .fieldAddr 28 (.tmp 107) 0, none⟩,
  ⟨some 109, .load 5 (.tmp 108), none⟩,
  ⟨some 110, .binOp .eql 5 (.tmp 109) (.const (.int .u8 6)) 5, none⟩]
def f80_r27 : List LOp := [
  ⟨some 111, .fieldAddr 28 (.tmp 3) 2, none⟩,
  ⟨some 112, .load 26 (.tmp 111), none⟩,
  ⟨some 113, .indexAddr 26 (.tmp 112) (.const (.int .i64 0)), none⟩,
  ⟨some 114, .load 28 (.tmp 113), none⟩,
  ⟨some 115, .move (.tmp 1), none⟩,
  ⟨some 116, .move (.tmp 2), none⟩,
  ⟨some 117, .call { callee := .value (.func 80), args := #[.tmp 114, .tmp 115, .tmp 116], argTypes := #[28, 9, 76] }, none⟩,
  ⟨some 6, .assign (.tmp 117), none⟩]
def f80_r28 : List LOp := [
  ⟨some 118, .buildSlice 76 0 #[], none⟩,
  ⟨some 119, .move (.tmp 2), none⟩,
  ⟨some 120, .call { callee := .builtin .append, args := #[.tmp 118, .tmp 119], argTypes := #[76, 76] }, none⟩,
  ⟨some 12, .assign (.tmp 120), none⟩]
def f80_r29 : List LOp := [
  ⟨some 13, .assign (.const (.bool true)), none⟩]
def f80_r30 : List LOp := [
  ⟨some 121, .move (.tmp 13), none⟩]
def f80_r31 : List LOp := [
  ⟨some 13, .assign (.const (.bool false)), none⟩]
def f80_r32 : List LOp := [
  ⟨some 122, .fieldAddr 28 (.tmp 3) 2, none⟩,
  ⟨some 123, .load 26 (.tmp 122), none⟩,
  ⟨some 124, .indexAddr 26 (.tmp 123) (.const (.int .i64 0)), none⟩,
  ⟨some 125, .load 28 (.tmp 124), none⟩,
  ⟨some 126, .move (.tmp 1), none⟩,
  ⟨some 127, .move (.tmp 12), none⟩,
  ⟨some 128, .call { callee := .value (.func 80), args := #[.tmp 125, .tmp 126, .tmp 127], argTypes := #[28, 9, 76] }, none⟩,
  ⟨some 14, .assign (.tmp 128), none⟩]
def f80_r33 : List LOp := [
  ⟨some 129, .move (.tmp 14), none⟩,
  ⟨some 130, .call { callee := .builtin .len, args := #[.tmp 129], argTypes := #[76] }, none⟩,
  ⟨some 131, .move (.const (.int .i64 0)), none⟩]
def f80_r34 : List LOp := [
  ⟨some 132, .binOp .lss 3 (.tmp 131) (.tmp 130) 3, none⟩]
def f80_r35 : List LOp := [
  ⟨some 133, .move (.tmp 131), none⟩,
  ⟨some 15, .assign (.tmp 133), none⟩]
def f80_r36 : List LOp := [
  ⟨some 134, .move (.tmp 14), none⟩,
  ⟨some 135, .move (.tmp 15), none⟩,
  ⟨some 136, .indexAddr 76 (.tmp 134) (.tmp 135), none⟩,
  ⟨some 137, .load 4 (.tmp 136), none⟩,
  ⟨some 138, .move (.tmp 137), none⟩,
  ⟨some 139, .move (.tmp 12), some (4, true)⟩,
  ⟨some 140, .move (.tmp 15), some (4, true)⟩,
  ⟨some 141, .indexAddr 76 (.tmp 139) (.tmp 140), some (4, true)⟩,
  ⟨some 142, .load 4 (.tmp 141), some (4, true)⟩,
  ⟨some 143, .unOp .not 4 (.tmp 142), some (4, true)⟩,
  ⟨some 144, .pick (.tmp 138) (.tmp 143) (.const (.bool false)), none⟩]
def f80_r37 : List LOp := [
  ⟨some 145, .move (.tmp 12), none⟩,
  ⟨some 146, .move (.tmp 15), none⟩,
  ⟨some 147, .indexAddr 76 (.tmp 145) (.tmp 146), none⟩,
  ⟨none, .store 4 (.tmp 147) (.const (.bool true)), none⟩]
def f80_r38 : List LOp := [
  ⟨some 13, .assign (.const (.bool true)), none⟩]
def f80_r39 : List LOp := [
  ⟨some 148, .binOp .add 3 (.tmp 131) (.const (.int .i64 1)) 3, none⟩,
  ⟨some 131, .move (.tmp 148), none⟩]
def f80_l40 : LC := (.seq (.reg f80_r34 [] none) (.seq (.cond (.tmp 132) .skip (.exit 7)) (.seq (.block 8 (.seq (.reg f80_r35 [] none) (.seq (.reg f80_r36 [] none) (.cond (.tmp 144) (.seq (.reg f80_r37 [] none) (.reg f80_r38 [] none)) .skip)))) (.reg f80_r39 [] none))))
def f80_i40 (t1 t3 t12 t13 t14 t130 t131 : D) : List D := [.any, t1, .any, t3, .any, .any, .any, .any, .any, .any, .any, .any, t12, t13, t14, .any, .any, .any, .any, .any, .any, .any, .any, .any, .any, .any, .any, .any, .any, .any, .any, .any, .any, .any, .any, .any, .any, .any, .any, .any, .any, .any, .any, .any, .any, .any, .any, .any, .any, .any, .any, .any, .any, .any, .any, .any, .any, .any, .any, .any, .any, .any, .any, .any, .any, .any, .any, .any, .any, .any, .any, .any, .any, .any, .any, .any, .any, .any, .any, .any, .any, .any, .any, .any, .any, .any, .any, .any, .any, .any, .any, .any, .any, .any, .any, .any, .any, .any, .any, .any, .any, .any, .any, .any, .any, .any, .any, .any, .any, .any, .any, .any, .any, .any, .any, .any, .any, .any, .any, .any, .any, .any, .any, .any, .any, .any, .any, .any, .any, .any, t130, t131, .any, .any, .any, .any, .any, .any, .any, .any, .any, .any, .any, .any, .any, .any, .any, .any, .any, .any]
def f80_l41 : LC := (.seq (.seq (.reg f80_r30 [] none) (.cond (.tmp 121) .skip (.exit 5))) (.block 6 (.seq (.reg f80_r31 [] none) (.seq (.reg f80_r32 [] none) (.seq (.reg f80_r33 [] none) (.block 7 (.loop f80_l40)))))))
def f80_i41 (t1 t3 t12 t13 : D) : List D := [.any, t1, .any, t3, .any, .any, .any, .any, .any, .any, .any, .any, t12, t13, .any, .any, .any, .any, .any, .any, .any, .any, .any, .any, .any, .any, .any, .any, .any, .any, .any, .any, .any, .any, .any, .any, .any, .any, .any, .any, .any, .any, .any, .any, .any, .any, .any, .any, .any, .any, .any, .any, .any, .any, .any, .any, .any, .any, .any, .any, .any, .any, .any, .any, .any, .any, .any, .any, .any, .any, .any, .any, .any, .any, .any, .any, .any, .any, .any, .any, .any, .any, .any, .any, .any, .any, .any, .any, .any, .any, .any, .any, .any, .any, .any, .any, .any, .any, .any, .any, .any, .any, .any, .any, .any, .any, .any, .any, .any, .any, .any, .any, .any, .any, .any, .any, .any, .any, .any, .any, .any, .any, .any, .any, .any, .any, .any, .any, .any, .any, .any, .any, .any, .any, .any, .any, .any, .any, .any, .any, .any, .any, .any, .any, .any, .any, .any, .any, .any, .any]
def f80_r42 : List LOp := [
  ⟨some 149, .move (.tmp 12), none⟩,
  ⟨some 6, .assign (.tmp 149), none⟩]
def f80_c : LC := (.seq (.reg f80_r0 [] none) (.seq (.reg f80_r1 [3] none) (.seq (.seq (.reg f80_r2 [] none) (.block 0 (.seq (.reg f80_r3 [] none) (.cond (.tmp 22) (.seq (.reg f80_r4 [] none) .ret) (.seq (.reg f80_r5 [] none) (.cond (.tmp 25) (.seq (.reg f80_r6 [] none) .ret) (.seq (.reg f80_r7 [] none) (.cond (.tmp 28) (.seq (.seq (.reg f80_r8 [] none) (.block 1 (.loop f80_l13))) (.seq (.reg f80_r14 [] none) .ret)) (.seq (.reg f80_r15 [] none) (.cond (.tmp 54) (.seq (.reg f80_r16 [] (some 12)) .ret) (.seq (.reg f80_r17 [] none) (.cond (.tmp 69) (.seq (.regp f80_r18 [] [4, 5, 11, 12] 13) (.seq (.seq (.reg f80_r19 [] none) (.block 3 (.loop f80_l24))) (.seq (.reg f80_r25 [] none) .ret))) .skip)))))))))))) (.seq (.seq (.reg f80_r26 [] none) (.cond (.tmp 110) (.seq (.reg f80_r27 [] none) .ret) .skip)) (.seq (.reg f80_r28 [0] none) (.seq (.reg f80_r29 [] none) (.seq (.block 5 (.loop f80_l41)) (.seq (.reg f80_r42 [] none) .ret))))))))
theorem f80_lc : Try.f80.body.map lc = some f80_c.st := by kernel_rfl
theorem f80_res : Try.f80.results.toList = [.tmp 6] := by kernel_rfl
theorem f80_nt : Try.f80.ntmps = 150 := by kernel_rfl
theorem f80_nm : (Try.f80.name == "runtime.NumGoroutine") = false := by kernel_rfl

/-! quill/quillref09.mark -/
def f81_r0 : List LOp := [
  ⟨some 4, .assign (.const (.slice none 0 0)), none⟩]
def f81_r1 : List LOp := [
  ⟨some 6, .buildSlice 76 0 #[], none⟩,
  ⟨some 7, .move (.tmp 0), none⟩,
  ⟨some 8, .call { callee := .builtin .append, args := #[.tmp 6, .tmp 7], argTypes := #[76, 76] }, none⟩,
  ⟨some 5, .assign (.tmp 8), none⟩]
def f81_r2 : List LOp := [
  ⟨some 9, .move (.tmp 5), none⟩,
  ⟨some 10, .move (.tmp 1), none⟩,
  ⟨some 11, .indexAddr 76 (.tmp 9) (.tmp 10), none⟩,
  ⟨none, .store 4 (.tmp 11) (.const (.bool true)), none⟩]
def f81_r3 : List LOp := [
  ⟨some 12, .move (.tmp 5), none⟩,
  ⟨some 4, .assign (.tmp 12), none⟩]
def f81_c : LC := (.seq (.reg f81_r0 [] none) (.seq (.reg f81_r1 [0] none) (.seq (.reg f81_r2 [] none) (.seq (.reg f81_r3 [] none) .ret))))
theorem f81_lc : Try.f81.body.map lc = some f81_c.st := by kernel_rfl
theorem f81_res : Try.f81.results.toList = [.tmp 4] := by kernel_rfl
theorem f81_nt : Try.f81.ntmps = 13 := by kernel_rfl
theorem f81_nm : (Try.f81.name == "runtime.NumGoroutine") = false := by kernel_rfl

/-! slices.Contains[[]int,int] -/
def f82_r0 : List LOp := [
  ⟨some 4, .assign (.const (.bool false)), none⟩]
def f82_r1 : List LOp := [
  ⟨some 5, .move (.tmp 0), none⟩,
  ⟨some 6, .move (.tmp 1), none⟩,
  ⟨some 7, .call { callee := .value (.func 92), args := #[.tmp 5, .tmp 6], argTypes := #[46, 3] }, none⟩,
  ⟨some 8, .binOp .geq 3 (.tmp 7) (.const (.int .i64 0)) 3, none⟩,
  ⟨some 4, .assign (.tmp 8), none⟩]
def f82_c : LC := (.seq (.reg f82_r0 [] none) (.seq (.reg f82_r1 [] none) .ret))
theorem f82_lc : Try.f82.body.map lc = some f82_c.st := by kernel_rfl
theorem f82_res : Try.f82.results.toList = [.tmp 4] := by kernel_rfl
theorem f82_nt : Try.f82.ntmps = 9 := by kernel_rfl
theorem f82_nm : (Try.f82.name == "runtime.NumGoroutine") = false := by kernel_rfl

/-! slices.Index[[]int,int] -/
def f92_r0 : List LOp := [
  ⟨some 4, .assign (.const (.int .i64 0)), none⟩]
def f92_r1 : List LOp := [
  ⟨some 6, .move (.tmp 0), none⟩,
  ⟨some 7, .call { callee := .builtin .len, args := #[.tmp 6], argTypes := #[46] }, none⟩,
  ⟨some 8, .move (.const (.int .i64 0)), none⟩]
def f92_r2 : List LOp := [
  ⟨some 9, .binOp .lss 3 (.tmp 8) (.tmp 7) 3, none⟩]
def f92_r3 : List LOp := [
  ⟨some 10, .move (.tmp 8), none⟩,
  ⟨some 5, .assign (.tmp 10), none⟩]
def f92_r4 : List LOp := [
  ⟨some 11, .move (.tmp 1), none⟩,
  ⟨some 12, .move (.tmp 0), none⟩,
  ⟨some 13, .move (.tmp 5), none⟩,
  ⟨some 14, .indexAddr 46 (.tmp 12) (.tmp 13), none⟩,
  ⟨some 15, .load 3 (.tmp 14), none⟩,
  ⟨some 16, .binOp .eql 3 (.tmp 11) (.tmp 15) 3, none⟩]
def f92_r5 : List LOp := [
  ⟨some 17, .move (.tmp 5), none⟩,
  ⟨some 4, .assign (.tmp 17), none⟩]
def f92_r6 : List LOp := [
  ⟨some 18, .binOp .add 3 (.tmp 8) (.const (.int .i64 1)) 3, none⟩,
  ⟨some 8, .move (.tmp 18), none⟩]
def f92_l7 : LC := (.seq (.reg f92_r2 [] none) (.seq (.cond (.tmp 9) .skip (.exit 0)) (.seq (.block 1 (.seq (.reg f92_r3 [] none) (.seq (.reg f92_r4 [] none) (.cond (.tmp 16) (.seq (.reg f92_r5 [] none) .ret) .skip)))) (.reg f92_r6 [] none))))
def f92_i7 (t0 t1 t7 t8 : D) : List D := [t0, t1, .any, .any, .any, .any, .any, t7, t8, .any, .any, .any, .any, .any, .any, .any, .any, .any, .any]
def f92_r8 : List LOp := [
  ⟨some 4, .assign (.const (.int .i64 (-1))), none⟩]
def f92_c : LC := (.seq (.reg f92_r0 [] none) (.seq (.seq (.reg f92_r1 [] none) (.block 0 (.loop f92_l7))) (.seq (.reg f92_r8 [] none) .ret)))
theorem f92_lc : Try.f92.body.map lc = some f92_c.st := by kernel_rfl
theorem f92_res : Try.f92.results.toList = [.tmp 4] := by kernel_rfl
theorem f92_nt : Try.f92.ntmps = 19 := by kernel_rfl
theorem f92_nm : (Try.f92.name == "runtime.NumGoroutine") = false := by kernel_rfl

attribute [go_sem] f2_r0 f2_c f7_r0 f7_r1 f7_r2 f7_r3 f7_r4 f7_r5 f7_r6 f7_r7 f7_r8 f7_r9 f7_r10 f7_l11 f7_i11 f7_r12 f7_c f8_r0 f8_r1 f8_r2 f8_r3 f8_r4 f8_r5 f8_r6 f8_r7 f8_r8 f8_l9 f8_i9 f8_r10 f8_c f9_r0 f9_r1 f9_r2 f9_r3 f9_r4 f9_r5 f9_r6 f9_r7 f9_c f10_r0 f10_r1 f10_r2 f10_r3 f10_r4 f10_r5 f10_c f11_r0 f11_r1 f11_r2 f11_r3 f11_r4 f11_r5 f11_r6 f11_r7 f11_r8 f11_r9 f11_r10 f11_l11 f11_i11 f11_r12 f11_r13 f11_c f12_r0 f12_r1 f12_r2 f12_r3 f12_r4 f12_r5 f12_r6 f12_r7 f12_r8 f12_r9 f12_r10 f12_r11 f12_l12 f12_i12 f12_r13 f12_c f13_r0 f13_r1 f13_r2 f13_r3 f13_r4 f13_c f21_r0 f21_r1 f21_c f22_r0 f22_r1 f22_r2 f22_c f23_r0 f23_r1 f23_r2 f23_r3 f23_r4 f23_r5 f23_r6 f23_r7 f23_r8 f23_r9 f23_l10 f23_i10 f23_r11 f23_c f24_r0 f24_r1 f24_r2 f24_r3 f24_r4 f24_r5 f24_r6 f24_r7 f24_r8 f24_l9 f24_i9 f24_r10 f24_c f25_r0 f25_r1 f25_r2 f25_c f26_r0 f26_r1 f26_c f27_r0 f27_r1 f27_c f28_r0 f28_r1 f28_c f29_r0 f29_r1 f29_c f32_r0 f32_r1 f32_r2 f32_r3 f32_c f34_r0 f34_r1 f34_r2 f34_r3 f34_r4 f34_c f35_r0 f35_r1 f35_r2 f35_r3 f35_r4 f35_r5 f35_c f36_r0 f36_r1 f36_r2 f36_r3 f36_r4 f36_r5 f36_r6 f36_r7 f36_r8 f36_l9 f36_i9 f36_r10 f36_c f37_r0 f37_r1 f37_r2 f37_r3 f37_r4 f37_r5 f37_r6 f37_r7 f37_r8 f37_l9 f37_i9 f37_r10 f37_c f38_r0 f38_r1 f38_c f39_r0 f39_r1 f39_c f40_r0 f40_r1 f40_r2 f40_c f41_r0 f41_r1 f41_r2 f41_r3 f41_r4 f41_r5 f41_r6 f41_l7 f41_i7 f41_r8 f41_c f42_r0 f42_r1 f42_r2 f42_r3 f42_r4 f42_r5 f42_r6 f42_l7 f42_i7 f42_r8 f42_c f43_r0 f43_r1 f43_r2 f43_r3 f43_r4 f43_r5 f43_r6 f43_r7 f43_r8 f43_r9 f43_l10 f43_i10 f43_r11 f43_l12 f43_i12 f43_r13 f43_c f44_r0 f44_r1 f44_c f50_r0 f50_r1 f50_r2 f50_r3 f50_r4 f50_r5 f50_r6 f50_r7 f50_r8 f50_l9 f50_i9 f50_r10 f50_c f51_r0 f51_r1 f51_r2 f51_r3 f51_r4 f51_r5 f51_r6 f51_r7 f51_r8 f51_r9 f51_r10 f51_l11 f51_i11 f51_r12 f51_r13 f51_r14 f51_r15 f51_r16 f51_r17 f51_r18 f51_r19 f51_r20 f51_l21 f51_i21 f51_r22 f51_r23 f51_r24 f51_l25 f51_i25 f51_r26 f51_c f52_r0 f52_r1 f52_r2 f52_r3 f52_c f54_r0 f54_r1 f54_r2 f54_r3 f54_r4 f54_r5 f54_c f55_r0 f55_r1 f55_r2 f55_r3 f55_r4 f55_r5 f55_c f57_r0 f57_r1 f57_c f58_r0 f58_r1 f58_r2 f58_r3 f58_r4 f58_r5 f58_r6 f58_r7 f58_r8 f58_r9 f58_c f59_r0 f59_r1 f59_c f60_r0 f60_r1 f60_r2 f60_r3 f60_r4 f60_r5 f60_r6 f60_r7 f60_r8 f60_c f62_r0 f62_r1 f62_r2 f62_r3 f62_r4 f62_r5 f62_r6 f62_r7 f62_r8 f62_r9 f62_r10 f62_r11 f62_r12 f62_r13 f62_r14 f62_c f63_r0 f63_r1 f63_r2 f63_r3 f63_r4 f63_c f64_r0 f64_r1 f64_c f65_r0 f65_r1 f65_c f67_r0 f67_r1 f67_c f68_r0 f68_r1 f68_r2 f68_r3 f68_r4 f68_r5 f68_r6 f68_r7 f68_c f78_r0 f78_r1 f78_c f79_r0 f79_r1 f79_r2 f79_r3 f79_r4 f79_r5 f79_r6 f79_r7 f79_l8 f79_i8 f79_r9 f79_c f80_r0 f80_r1 f80_r2 f80_r3 f80_r4 f80_r5 f80_r6 f80_r7 f80_r8 f80_r9 f80_r10 f80_r11 f80_r12 f80_l13 f80_i13 f80_r14 f80_r15 f80_r16 f80_r17 f80_r18 f80_r19 f80_r20 f80_r21 f80_r22 f80_r23 f80_l24 f80_i24 f80_r25 f80_r26 f80_r27 f80_r28 f80_r29 f80_r30 f80_r31 f80_r32 f80_r33 f80_r34 f80_r35 f80_r36 f80_r37 f80_r38 f80_r39 f80_l40 f80_i40 f80_l41 f80_i41 f80_r42 f80_c f81_r0 f81_r1 f81_r2 f81_r3 f81_c f82_r0 f82_r1 f82_c f92_r0 f92_r1 f92_r2 f92_r3 f92_r4 f92_r5 f92_r6 f92_l7 f92_i7 f92_r8 f92_c

end Go.Proofs.Yteifkcgokjmcjaa.W
