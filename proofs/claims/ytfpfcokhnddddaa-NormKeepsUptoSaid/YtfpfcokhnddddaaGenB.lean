/- Part of a program logic over data: rules of the walk, each proved. -/
import Derived.Test.YtfpfcokhnddddaaReBulk
set_option linter.unusedVariables false
set_option linter.unusedSimpArgs false
set_option linter.unusedSectionVars false
set_option maxRecDepth 100000
namespace Go.Proofs.Ytfpfcokhnddddaa.W
open Go Go.Proofs Go.Proofs.Ytfpfcokhnddddaa.AWP

/-! quill/quilllaw08.NormWords -/
def f4_r0 : List LOp := [
  ⟨some 4, .assign (.const (.bool false)), none⟩]
def f4_r1 : List LOp := [
  ⟨some 7, .move (.tmp 0), none⟩,
  ⟨some 8, .call { callee := .builtin .len, args := #[.tmp 7], argTypes := #[9] }, none⟩,
  ⟨some 9, .binOp .gtr 3 (.tmp 8) (.const (.int .i64 100)) 3, none⟩]
def f4_r2 : List LOp := [
  ⟨some 10, .call { callee := .value (.func 7), args := #[], argTypes := #[] }, none⟩,
  ⟨some 4, .assign (.tmp 10), none⟩]
def f4_r3 : List LOp := [
  ⟨some 11, .move (.tmp 1), none⟩,
  ⟨some 12, .convert 5 3 (.tmp 11), none⟩,
  ⟨some 13, .move (.tmp 0), none⟩,
  ⟨some 14, .call { callee := .builtin .len, args := #[.tmp 13], argTypes := #[9] }, none⟩,
  ⟨some 15, .binOp .add 3 (.tmp 14) (.const (.int .i64 1)) 3, none⟩,
  ⟨some 16, .binOp .rem 3 (.tmp 12) (.tmp 15) 3, none⟩,
  ⟨some 5, .assign (.tmp 16), none⟩]
def f4_r4 : List LOp := [
  ⟨some 17, .move (.tmp 0), none⟩,
  ⟨some 18, .call { callee := .value (.func 13), args := #[.tmp 17], argTypes := #[9] }, none⟩,
  ⟨some 6, .alloc 27, none⟩,
  ⟨none, .store 27 (.tmp 6) (.tmp 18), none⟩]
def f4_r5 : List LOp := [
  ⟨some 19, .load 27 (.tmp 6), none⟩,
  ⟨some 20, .buildSlice 25 1 #[(0, .tmp 19)], none⟩,
  ⟨some 21, .call { callee := .value (.func 12), args := #[.tmp 20], argTypes := #[25] }, none⟩,
  ⟨some 22, .move (.tmp 21), none⟩,
  ⟨some 23, .move (.tmp 0), some (3, true)⟩,
  ⟨some 24, .move (.tmp 5), some (3, true)⟩,
  ⟨some 25, .slice 9 (.tmp 23) none (some (.tmp 24)) none, some (3, true)⟩,
  ⟨some 26, .call { callee := .value (.func 13), args := #[.tmp 25], argTypes := #[9] }, some (3, true)⟩,
  ⟨some 27, .move (.tmp 0), some (3, true)⟩,
  ⟨some 28, .move (.tmp 5), some (3, true)⟩,
  ⟨some 29, .slice 9 (.tmp 27) (some (.tmp 28)) none none, some (3, true)⟩,
  ⟨some 30, .call { callee := .value (.func 13), args := #[.tmp 29], argTypes := #[9] }, some (3, true)⟩,
  ⟨some 31, .buildSlice 25 2 #[(0, .tmp 26), (1, .tmp 30)], some (3, true)⟩,
  ⟨some 32, .call { callee := .value (.func 14), args := #[.tmp 31], argTypes := #[25] }, some (3, true)⟩,
  ⟨some 33, .call { callee := .value (.func 11), args := #[.tmp 32], argTypes := #[27] }, some (3, true)⟩,
  ⟨some 34, .load 27 (.tmp 6), some (3, true)⟩,
  ⟨some 35, .call { callee := .value (.func 10), args := #[.tmp 33, .tmp 34], argTypes := #[27, 27] }, some (3, true)⟩,
  ⟨some 36, .pick (.tmp 22) (.tmp 35) (.const (.bool false)), none⟩,
  ⟨some 37, .move (.tmp 36), none⟩,
  ⟨some 38, .call { callee := .value (.func 7), args := #[], argTypes := #[] }, some (18, true)⟩,
  ⟨some 39, .pick (.tmp 37) (.tmp 38) (.const (.bool false)), none⟩,
  ⟨some 4, .assign (.tmp 39), none⟩]
def f4_c : LC := (.seq (.reg f4_r0 [] none) (.seq (.seq (.reg f4_r1 [] none) (.cond (.tmp 9) (.seq (.reg f4_r2 [] none) .ret) .skip)) (.seq (.reg f4_r3 [] none) (.seq (.reg f4_r4 [] none) (.seq (.reg f4_r5 [] (some 21)) .ret)))))
theorem f4_lc : Try.f4.body.map lc = some f4_c.st := by kernel_rfl
theorem f4_res : Try.f4.results.toList = [.tmp 4] := by kernel_rfl
theorem f4_nt : Try.f4.ntmps = 40 := by kernel_rfl
theorem f4_nm : (Try.f4.name == "runtime.NumGoroutine") = false := by kernel_rfl

/-! quill/quilllaw08.NormKeeps -/
def f5_r0 : List LOp := [
  ⟨some 1, .box 27 (.tmp 0), none⟩,
  ⟨some 2, .assign (.const (.bool false)), none⟩]
def f5_r1 : List LOp := [
  ⟨some 4, .load 27 (.tmp 1), none⟩,
  ⟨some 5, .call { callee := .value (.func 6), args := #[.tmp 4, .const (.int .i64 200)], argTypes := #[27, 3] }, none⟩,
  ⟨some 6, .move (.tmp 5), none⟩,
  ⟨some 7, .load 27 (.tmp 1), some (2, false)⟩,
  ⟨some 8, .call { callee := .value (.func 9), args := #[.tmp 7], argTypes := #[27] }, some (2, false)⟩,
  ⟨some 9, .unOp .not 4 (.tmp 8), some (2, false)⟩,
  ⟨some 10, .pick (.tmp 6) (.const (.bool true)) (.tmp 9), none⟩]
def f5_r2 : List LOp := [
  ⟨some 11, .call { callee := .value (.func 7), args := #[], argTypes := #[] }, none⟩,
  ⟨some 2, .assign (.tmp 11), none⟩]
def f5_r3 : List LOp := [
  ⟨some 12, .load 27 (.tmp 1), none⟩,
  ⟨some 13, .call { callee := .value (.func 11), args := #[.tmp 12], argTypes := #[27] }, none⟩,
  ⟨some 3, .alloc 27, none⟩,
  ⟨none, .store 27 (.tmp 3) (.tmp 13), none⟩]
def f5_r4 : List LOp := [
  ⟨some 14, .load 27 (.tmp 3), none⟩,
  ⟨some 15, .buildSlice 25 1 #[(0, .tmp 14)], none⟩,
  ⟨some 16, .call { callee := .value (.func 12), args := #[.tmp 15], argTypes := #[25] }, none⟩,
  ⟨some 17, .unOp .not 4 (.tmp 16), none⟩,
  ⟨some 18, .move (.tmp 17), none⟩,
  ⟨some 19, .load 27 (.tmp 3), some (4, false)⟩,
  ⟨some 20, .call { callee := .value (.func 11), args := #[.tmp 19], argTypes := #[27] }, some (4, false)⟩,
  ⟨some 21, .load 27 (.tmp 3), some (4, false)⟩,
  ⟨some 22, .call { callee := .value (.func 10), args := #[.tmp 20, .tmp 21], argTypes := #[27, 27] }, some (4, false)⟩,
  ⟨some 23, .unOp .not 4 (.tmp 22), some (4, false)⟩,
  ⟨some 24, .pick (.tmp 18) (.const (.bool true)) (.tmp 23), none⟩,
  ⟨some 25, .move (.tmp 24), none⟩,
  ⟨some 26, .load 27 (.tmp 3), some (11, false)⟩,
  ⟨some 27, .buildSlice 25 1 #[(0, .tmp 26)], some (11, false)⟩,
  ⟨some 28, .call { callee := .value (.func 15), args := #[.tmp 27], argTypes := #[25] }, some (11, false)⟩,
  ⟨some 29, .load 27 (.tmp 1), some (11, false)⟩,
  ⟨some 30, .buildSlice 25 1 #[(0, .tmp 29)], some (11, false)⟩,
  ⟨some 31, .call { callee := .value (.func 15), args := #[.tmp 30], argTypes := #[25] }, some (11, false)⟩,
  ⟨some 32, .binOp .gtr 3 (.tmp 28) (.tmp 31) 3, some (11, false)⟩,
  ⟨some 33, .pick (.tmp 25) (.const (.bool true)) (.tmp 32), none⟩]
def f5_r5 : List LOp := [
  ⟨some 2, .assign (.const (.bool false)), none⟩]
def f5_r6 : List LOp := [
  ⟨some 34, .load 27 (.tmp 3), none⟩,
  ⟨some 35, .buildSlice 25 1 #[(0, .tmp 34)], none⟩,
  ⟨some 36, .call { callee := .value (.func 16), args := #[.tmp 35], argTypes := #[25] }, none⟩,
  ⟨some 37, .load 27 (.tmp 1), none⟩,
  ⟨some 38, .call { callee := .value (.func 17), args := #[.tmp 37], argTypes := #[27] }, none⟩,
  ⟨some 39, .binOp .eql 4 (.tmp 36) (.tmp 38) 4, none⟩,
  ⟨some 40, .move (.tmp 39), none⟩,
  ⟨some 41, .load 27 (.tmp 3), some (6, true)⟩,
  ⟨some 42, .buildSlice 25 1 #[(0, .tmp 41)], some (6, true)⟩,
  ⟨some 43, .call { callee := .value (.func 18), args := #[.tmp 42], argTypes := #[25] }, some (6, true)⟩,
  ⟨some 44, .load 27 (.tmp 1), some (6, true)⟩,
  ⟨some 45, .call { callee := .value (.func 19), args := #[.tmp 44], argTypes := #[27] }, some (6, true)⟩,
  ⟨some 46, .binOp .eql 4 (.tmp 43) (.tmp 45) 4, some (6, true)⟩,
  ⟨some 47, .pick (.tmp 40) (.tmp 46) (.const (.bool false)), none⟩,
  ⟨some 48, .move (.tmp 47), none⟩,
  ⟨some 49, .load 27 (.tmp 3), some (14, true)⟩,
  ⟨some 50, .call { callee := .value (.func 20), args := #[.tmp 49], argTypes := #[27] }, some (14, true)⟩,
  ⟨some 51, .load 27 (.tmp 1), some (14, true)⟩,
  ⟨some 52, .call { callee := .value (.func 21), args := #[.tmp 51], argTypes := #[27] }, some (14, true)⟩,
  ⟨some 53, .binOp .eql 24 (.tmp 50) (.tmp 52) 24, some (14, true)⟩,
  ⟨some 54, .pick (.tmp 48) (.tmp 53) (.const (.bool false)), none⟩,
  ⟨some 55, .move (.tmp 54), none⟩,
  ⟨some 56, .fieldAddr 27 (.tmp 3) 0, some (21, true)⟩,
  ⟨some 57, .load 5 (.tmp 56), some (21, true)⟩,
  ⟨some 58, .binOp .eql 5 (.tmp 57) (.const (.int .u8 1)) 5, some (21, true)⟩,
  ⟨some 59, .load 27 (.tmp 1), some (21, true)⟩,
  ⟨some 60, .call { callee := .value (.func 19), args := #[.tmp 59], argTypes := #[27] }, some (21, true)⟩,
  ⟨some 61, .binOp .eql 4 (.tmp 58) (.tmp 60) 4, some (21, true)⟩,
  ⟨some 62, .pick (.tmp 55) (.tmp 61) (.const (.bool false)), none⟩,
  ⟨some 63, .move (.tmp 62), none⟩,
  ⟨some 64, .call { callee := .value (.func 7), args := #[], argTypes := #[] }, some (29, true)⟩,
  ⟨some 65, .pick (.tmp 63) (.tmp 64) (.const (.bool false)), none⟩,
  ⟨some 2, .assign (.tmp 65), none⟩]
def f5_c : LC := (.seq (.reg f5_r0 [] none) (.seq (.seq (.reg f5_r1 [] none) (.cond (.tmp 10) (.seq (.reg f5_r2 [] none) .ret) .skip)) (.seq (.reg f5_r3 [] none) (.seq (.seq (.reg f5_r4 [] (some 17)) (.cond (.tmp 33) (.seq (.reg f5_r5 [] none) .ret) .skip)) (.seq (.reg f5_r6 [] (some 32)) .ret)))))
theorem f5_lc : Try.f5.body.map lc = some f5_c.st := by kernel_rfl
theorem f5_res : Try.f5.results.toList = [.tmp 2] := by kernel_rfl
theorem f5_nt : Try.f5.ntmps = 66 := by kernel_rfl
theorem f5_nm : (Try.f5.name == "runtime.NumGoroutine") = false := by kernel_rfl

/-! quill/null.Null -/
def f16_r0 : List LOp := [
  ⟨some 2, .assign (.const (.bool false)), none⟩]
def f16_r1 : List LOp := [
  ⟨some 3, .move (.tmp 0), none⟩,
  ⟨some 4, .call { callee := .value (.func 28), args := #[.tmp 3, .func 34], argTypes := #[25, 31] }, none⟩,
  ⟨some 5, .unOp .not 4 (.tmp 4), none⟩,
  ⟨some 2, .assign (.tmp 5), none⟩]
def f16_c : LC := (.seq (.reg f16_r0 [] none) (.seq (.reg f16_r1 [] none) .ret))
theorem f16_lc : Try.f16.body.map lc = some f16_c.st := by kernel_rfl
theorem f16_res : Try.f16.results.toList = [.tmp 2] := by kernel_rfl
theorem f16_nt : Try.f16.ntmps = 6 := by kernel_rfl
theorem f16_nm : (Try.f16.name == "runtime.NumGoroutine") = false := by kernel_rfl

/-! quill/quillref07.Null -/
def f17_r0 : List LOp := [
  ⟨some 1, .box 27 (.tmp 0), none⟩,
  ⟨some 2, .assign (.const (.bool false)), none⟩]
def f17_r1 : List LOp := [
  ⟨some 3, .load 27 (.tmp 1), none⟩,
  ⟨some 4, .call { callee := .value (.func 9), args := #[.tmp 3], argTypes := #[27] }, none⟩,
  ⟨some 5, .move (.tmp 4), none⟩,
  ⟨some 6, .load 27 (.tmp 1), some (2, true)⟩,
  ⟨some 7, .call { callee := .value (.func 36), args := #[.tmp 6], argTypes := #[27] }, some (2, true)⟩,
  ⟨some 8, .pick (.tmp 5) (.tmp 7) (.const (.bool false)), none⟩,
  ⟨some 2, .assign (.tmp 8), none⟩]
def f17_c : LC := (.seq (.reg f17_r0 [] none) (.seq (.reg f17_r1 [] none) .ret))
theorem f17_lc : Try.f17.body.map lc = some f17_c.st := by kernel_rfl
theorem f17_res : Try.f17.results.toList = [.tmp 2] := by kernel_rfl
theorem f17_nt : Try.f17.ntmps = 9 := by kernel_rfl
theorem f17_nm : (Try.f17.name == "runtime.NumGoroutine") = false := by kernel_rfl

/-! quill/null.Void -/
def f18_r0 : List LOp := [
  ⟨some 2, .assign (.const (.bool false)), none⟩]
def f18_r1 : List LOp := [
  ⟨some 3, .move (.tmp 0), none⟩,
  ⟨some 4, .call { callee := .value (.func 28), args := #[.tmp 3, .func 37], argTypes := #[25, 31] }, none⟩,
  ⟨some 2, .assign (.tmp 4), none⟩]
def f18_c : LC := (.seq (.reg f18_r0 [] none) (.seq (.reg f18_r1 [] none) .ret))
theorem f18_lc : Try.f18.body.map lc = some f18_c.st := by kernel_rfl
theorem f18_res : Try.f18.results.toList = [.tmp 2] := by kernel_rfl
theorem f18_nt : Try.f18.ntmps = 5 := by kernel_rfl
theorem f18_nm : (Try.f18.name == "runtime.NumGoroutine") = false := by kernel_rfl

/-! quill/quillref07.Void -/
def f19_r0 : List LOp := [
  ⟨some 1, .box 27 (.tmp 0), none⟩,
  ⟨some 2, .assign (.const (.bool false)), none⟩]
def f19_r1 : List LOp := [
  ⟨some 3, .load 27 (.tmp 1), none⟩,
  ⟨some 4, .call { callee := .value (.func 9), args := #[.tmp 3], argTypes := #[27] }, none⟩,
  ⟨some 5, .move (.tmp 4), none⟩,
  ⟨some 6, .load 27 (.tmp 1), some (2, true)⟩,
  ⟨some 7, .call { callee := .value (.func 39), args := #[.tmp 6], argTypes := #[27] }, some (2, true)⟩,
  ⟨some 8, .unOp .not 4 (.tmp 7), some (2, true)⟩,
  ⟨some 9, .pick (.tmp 5) (.tmp 8) (.const (.bool false)), none⟩,
  ⟨some 2, .assign (.tmp 9), none⟩]
def f19_c : LC := (.seq (.reg f19_r0 [] none) (.seq (.reg f19_r1 [] none) .ret))
theorem f19_lc : Try.f19.body.map lc = some f19_c.st := by kernel_rfl
theorem f19_res : Try.f19.results.toList = [.tmp 2] := by kernel_rfl
theorem f19_nt : Try.f19.ntmps = 10 := by kernel_rfl
theorem f19_nm : (Try.f19.name == "runtime.NumGoroutine") = false := by kernel_rfl

/-! quill/null.First -/
def f20_r0 : List LOp := [
  ⟨some 1, .box 27 (.tmp 0), none⟩,
  ⟨some 2, .alloc 24, none⟩]
def f20_r1 : List LOp := [
  ⟨some 3, .load 27 (.tmp 1), none⟩,
  ⟨some 4, .buildSlice 25 1 #[(0, .tmp 3)], none⟩,
  ⟨some 5, .call { callee := .value (.func 26), args := #[.tmp 4], argTypes := #[25] }, none⟩,
  ⟨some 6, .unOp .not 4 (.tmp 5), none⟩]
def f20_r2 : List LOp := [
  ⟨some 7, .build 24 #[], none⟩,
  ⟨none, .store 24 (.tmp 2) (.tmp 7), none⟩]
def f20_r3 : List LOp := [
  ⟨some 8, .load 27 (.tmp 1), none⟩,
  ⟨some 9, .call { callee := .value (.func 40), args := #[.tmp 8], argTypes := #[27] }, none⟩,
  ⟨none, .store 24 (.tmp 2) (.tmp 9), none⟩]
def f20_c : LC := (.seq (.reg f20_r0 [] none) (.seq (.seq (.reg f20_r1 [] none) (.cond (.tmp 6) (.seq (.reg f20_r2 [] none) .ret) .skip)) (.seq (.reg f20_r3 [] none) .ret)))
theorem f20_lc : Try.f20.body.map lc = some f20_c.st := by kernel_rfl
theorem f20_res : Try.f20.results.toList = [.cell 2 24] := by kernel_rfl
theorem f20_nt : Try.f20.ntmps = 10 := by kernel_rfl
theorem f20_nm : (Try.f20.name == "runtime.NumGoroutine") = false := by kernel_rfl

/-! quill/quillref07.First -/
def f21_r0 : List LOp := [
  ⟨some 1, .box 27 (.tmp 0), none⟩,
  ⟨some 2, .alloc 24, none⟩]
def f21_r1 : List LOp := [
  ⟨some 3, .load 27 (.tmp 1), none⟩,
  ⟨some 4, .call { callee := .value (.func 9), args := #[.tmp 3], argTypes := #[27] }, none⟩,
  ⟨some 5, .unOp .not 4 (.tmp 4), none⟩]
def f21_r2 : List LOp := [
  ⟨some 6, .build 24 #[], none⟩,
  ⟨none, .store 24 (.tmp 2) (.tmp 6), none⟩]
def f21_r3 : List LOp := [
  ⟨some 7, .load 27 (.tmp 1), none⟩,
  ⟨some 8, .call { callee := .value (.func 41), args := #[.tmp 7], argTypes := #[27] }, none⟩,
  ⟨none, .store 24 (.tmp 2) (.tmp 8), none⟩]
def f21_c : LC := (.seq (.reg f21_r0 [] none) (.seq (.seq (.reg f21_r1 [] none) (.cond (.tmp 5) (.seq (.reg f21_r2 [] none) .ret) .skip)) (.seq (.reg f21_r3 [] none) .ret)))
theorem f21_lc : Try.f21.body.map lc = some f21_c.st := by kernel_rfl
theorem f21_res : Try.f21.results.toList = [.cell 2 24] := by kernel_rfl
theorem f21_nt : Try.f21.ntmps = 9 := by kernel_rfl
theorem f21_nm : (Try.f21.name == "runtime.NumGoroutine") = false := by kernel_rfl

/-! quill/null.Null$1 -/
def f34_r0 : List LOp := [
  ⟨some 1, .box 27 (.tmp 0), none⟩,
  ⟨some 2, .assign (.const (.bool false)), none⟩]
def f34_r1 : List LOp := [
  ⟨some 3, .load 27 (.tmp 1), none⟩,
  ⟨some 4, .buildSlice 25 1 #[(0, .tmp 3)], none⟩,
  ⟨some 5, .call { callee := .value (.func 26), args := #[.tmp 4], argTypes := #[25] }, none⟩,
  ⟨some 6, .unOp .not 4 (.tmp 5), none⟩,
  ⟨some 7, .move (.tmp 6), none⟩,
  ⟨some 8, .load 27 (.tmp 1), some (4, false)⟩,
  ⟨some 9, .call { callee := .value (.func 35), args := #[.tmp 8], argTypes := #[27] }, some (4, false)⟩,
  ⟨some 10, .unOp .not 4 (.tmp 9), some (4, false)⟩,
  ⟨some 11, .pick (.tmp 7) (.const (.bool true)) (.tmp 10), none⟩,
  ⟨some 2, .assign (.tmp 11), none⟩]
def f34_c : LC := (.seq (.reg f34_r0 [] none) (.seq (.reg f34_r1 [] none) .ret))
theorem f34_lc : Try.f34.body.map lc = some f34_c.st := by kernel_rfl
theorem f34_res : Try.f34.results.toList = [.tmp 2] := by kernel_rfl
theorem f34_nt : Try.f34.ntmps = 12 := by kernel_rfl
theorem f34_nm : (Try.f34.name == "runtime.NumGoroutine") = false := by kernel_rfl

/-! quill/null.null -/
def f35_r0 : List LOp := [
  ⟨some 1, .box 27 (.tmp 0), none⟩,
  ⟨some 2, .assign (.const (.bool false)), none⟩]
def f35_r1 : List LOp := [
  ⟨some 3, .fieldAddr 27 (.tmp 1) 0, none⟩,
  ⟨some 4, .load 5 (.tmp 3), none⟩]
def f35_r2 : List LOp := [
  ⟨some 6, .binOp .eql 5 (.tmp 4) (.const (.int .u8 2)) 5, none⟩,
  ⟨some 5, .assign (.tmp 6), none⟩]
def f35_r3 : List LOp := [
  ⟨some 7, .binOp .eql 5 (.tmp 4) (.const (.int .u8 6)) 5, none⟩,
  ⟨some 5, .assign (.tmp 7), none⟩]
def f35_r4 : List LOp := [
  ⟨some 2, .assign (.const (.bool true)), none⟩]
def f35_r5 : List LOp := [
  ⟨some 9, .binOp .eql 5 (.tmp 4) (.const (.int .u8 4)) 5, none⟩,
  ⟨some 8, .assign (.tmp 9), none⟩]
def f35_r6 : List LOp := [
  ⟨some 10, .fieldAddr 27 (.tmp 1) 2, none⟩,
  ⟨some 11, .load 25 (.tmp 10), none⟩,
  ⟨some 12, .indexAddr 25 (.tmp 11) (.const (.int .i64 0)), none⟩,
  ⟨some 13, .load 27 (.tmp 12), none⟩,
  ⟨some 14, .call { callee := .value (.func 35), args := #[.tmp 13], argTypes := #[27] }, none⟩,
  ⟨some 15, .move (.tmp 14), none⟩,
  ⟨some 16, .fieldAddr 27 (.tmp 1) 2, some (5, true)⟩,
  ⟨some 17, .load 25 (.tmp 16), some (5, true)⟩,
  ⟨some 18, .indexAddr 25 (.tmp 17) (.const (.int .i64 1)), some (5, true)⟩,
  ⟨some 19, .load 27 (.tmp 18), some (5, true)⟩,
  ⟨some 20, .call { callee := .value (.func 35), args := #[.tmp 19], argTypes := #[27] }, some (5, true)⟩,
  ⟨some 21, .pick (.tmp 15) (.tmp 20) (.const (.bool false)), none⟩,
  ⟨some 2, .assign (.tmp 21), none⟩]
def f35_r7 : List LOp := [
  ⟨some 23, .binOp .eql 5 (.tmp 4) (.const (.int .u8 5)) 5, none⟩,
  ⟨some 22, .assign (.tmp 23), none⟩]
def f35_r8 : List LOp := [
  ⟨some 24, .fieldAddr 27 (.tmp 1) 2, none⟩,
  ⟨some 25, .load 25 (.tmp 24), none⟩,
  ⟨some 26, .indexAddr 25 (.tmp 25) (.const (.int .i64 0)), none⟩,
  ⟨some 27, .load 27 (.tmp 26), none⟩,
  ⟨some 28, .call { callee := .value (.func 35), args := #[.tmp 27], argTypes := #[27] }, none⟩,
  ⟨some 29, .move (.tmp 28), none⟩,
  ⟨some 30, .fieldAddr 27 (.tmp 1) 2, some (5, false)⟩,
  ⟨some 31, .load 25 (.tmp 30), some (5, false)⟩,
  ⟨some 32, .indexAddr 25 (.tmp 31) (.const (.int .i64 1)), some (5, false)⟩,
  ⟨some 33, .load 27 (.tmp 32), some (5, false)⟩,
  ⟨some 34, .call { callee := .value (.func 35), args := #[.tmp 33], argTypes := #[27] }, some (5, false)⟩,
  ⟨some 35, .pick (.tmp 29) (.const (.bool true)) (.tmp 34), none⟩,
  ⟨some 2, .assign (.tmp 35), none⟩]
def f35_r9 : List LOp := [
  ⟨some 2, .assign (.const (.bool false)), none⟩]
def f35_c : LC := (.seq (.reg f35_r0 [] none) (.seq (.seq (.reg f35_r1 [] none) (.block 0 (.seq (.seq (.reg f35_r2 [] none) (.cond (.tmp 5) .skip (.reg f35_r3 [] none))) (.cond (.tmp 5) (.seq (.reg f35_r4 [] none) .ret) (.seq (.reg f35_r5 [] none) (.cond (.tmp 8) (.seq (.reg f35_r6 [] none) .ret) (.seq (.reg f35_r7 [] none) (.cond (.tmp 22) (.seq (.reg f35_r8 [] none) .ret) .skip)))))))) (.seq (.reg f35_r9 [] none) .ret)))
theorem f35_lc : Try.f35.body.map lc = some f35_c.st := by kernel_rfl
theorem f35_res : Try.f35.results.toList = [.tmp 2] := by kernel_rfl
theorem f35_nt : Try.f35.ntmps = 36 := by kernel_rfl
theorem f35_nm : (Try.f35.name == "runtime.NumGoroutine") = false := by kernel_rfl

/-! quill/quillref07.Of -/
def f36_r0 : List LOp := [
  ⟨some 1, .box 27 (.tmp 0), none⟩,
  ⟨some 2, .assign (.const (.bool false)), none⟩]
def f36_r1 : List LOp := [
  ⟨some 3, .fieldAddr 27 (.tmp 1) 0, none⟩,
  ⟨some 4, .load 5 (.tmp 3), none⟩,
  ⟨some 5, .binOp .eql 5 (.tmp 4) (.const (.int .u8 4)) 5, none⟩]
def f36_r2 : List LOp := [
  ⟨some 6, .fieldAddr 27 (.tmp 1) 2, none⟩,
  ⟨some 7, .load 25 (.tmp 6), none⟩,
  ⟨some 8, .indexAddr 25 (.tmp 7) (.const (.int .i64 0)), none⟩,
  ⟨some 9, .load 27 (.tmp 8), none⟩,
  ⟨some 10, .call { callee := .value (.func 36), args := #[.tmp 9], argTypes := #[27] }, none⟩,
  ⟨some 11, .move (.tmp 10), none⟩,
  ⟨some 12, .fieldAddr 27 (.tmp 1) 2, some (5, true)⟩,
  ⟨some 13, .load 25 (.tmp 12), some (5, true)⟩,
  ⟨some 14, .indexAddr 25 (.tmp 13) (.const (.int .i64 1)), some (5, true)⟩,
  ⟨some 15, .load 27 (.tmp 14), some (5, true)⟩,
  ⟨some 16, .call { callee := .value (.func 36), args := #[.tmp 15], argTypes := #[27] }, some (5, true)⟩,
  ⟨some 17, .pick (.tmp 11) (.tmp 16) (.const (.bool false)), none⟩,
  ⟨some 2, .assign (.tmp 17), none⟩]
def f36_r3 : List LOp := [
  ⟨some 18, .fieldAddr 27 (.tmp 1) 0, none⟩,
  ⟨some 19, .load 5 (.tmp 18), none⟩,
  ⟨some 20, .binOp .eql 5 (.tmp 19) (.const (.int .u8 5)) 5, none⟩]
def f36_r4 : List LOp := [
  ⟨some 21, .fieldAddr 27 (.tmp 1) 2, none⟩,
  ⟨some 22, .load 25 (.tmp 21), none⟩,
  ⟨some 23, .indexAddr 25 (.tmp 22) (.const (.int .i64 0)), none⟩,
  ⟨some 24, .load 27 (.tmp 23), none⟩,
  ⟨some 25, .call { callee := .value (.func 36), args := #[.tmp 24], argTypes := #[27] }, none⟩,
  ⟨some 26, .move (.tmp 25), none⟩,
  ⟨some 27, .fieldAddr 27 (.tmp 1) 2, some (5, false)⟩,
  ⟨some 28, .load 25 (.tmp 27), some (5, false)⟩,
  ⟨some 29, .indexAddr 25 (.tmp 28) (.const (.int .i64 1)), some (5, false)⟩,
  ⟨some 30, .load 27 (.tmp 29), some (5, false)⟩,
  ⟨some 31, .call { callee := .value (.func 36), args := #[.tmp 30], argTypes := #[27] }, some (5, false)⟩,
  ⟨some 32, .pick (.tmp 26) (.const (.bool true)) (.tmp 31), none⟩,
  ⟨some 2, .assign (.tmp 32), none⟩]
def f36_r5 : List LOp := [
  ⟨some 33, .fieldAddr 27 (.tmp 1) 0, none⟩,
  ⟨some 34, .load 5 (.tmp 33), none⟩,
  ⟨some 35, .binOp .eql 5 (.tmp 34) (.const (.int .u8 2)) 5, none⟩,
  ⟨some 36, .move (.tmp 35), none⟩,
  ⟨some 37, .fieldAddr 27 (.tmp 1) 0, some (3, false)⟩,
  ⟨some 38, .load 5 (.tmp 37), some (3, false)⟩,
  ⟨some 39, .binOp .eql 5 (.tmp 38) (.const (.int .u8 6)) 5, some (3, false)⟩,
  ⟨some 40, .pick (.tmp 36) (.const (.bool true)) (.tmp 39), none⟩,
  ⟨some 2, .assign (.tmp 40), none⟩]
def f36_c : LC := (.seq (.reg f36_r0 [] none) (.seq (.seq (.reg f36_r1 [] none) (.cond (.tmp 5) (.seq (.reg f36_r2 [] none) .ret) .skip)) (.seq (.seq (.reg f36_r3 [] none) (.cond (.tmp 20) (.seq (.reg f36_r4 [] none) .ret) .skip)) (.seq (.reg f36_r5 [] none) .ret))))
theorem f36_lc : Try.f36.body.map lc = some f36_c.st := by kernel_rfl
theorem f36_res : Try.f36.results.toList = [.tmp 2] := by kernel_rfl
theorem f36_nt : Try.f36.ntmps = 41 := by kernel_rfl
theorem f36_nm : (Try.f36.name == "runtime.NumGoroutine") = false := by kernel_rfl

/-! quill/null.Void$1 -/
def f37_r0 : List LOp := [
  ⟨some 1, .box 27 (.tmp 0), none⟩,
  ⟨some 2, .assign (.const (.bool false)), none⟩]
def f37_r1 : List LOp := [
  ⟨some 3, .load 27 (.tmp 1), none⟩,
  ⟨some 4, .buildSlice 25 1 #[(0, .tmp 3)], none⟩,
  ⟨some 5, .call { callee := .value (.func 26), args := #[.tmp 4], argTypes := #[25] }, none⟩,
  ⟨some 6, .move (.tmp 5), none⟩,
  ⟨some 7, .load 27 (.tmp 1), some (3, true)⟩,
  ⟨some 8, .call { callee := .value (.func 38), args := #[.tmp 7], argTypes := #[27] }, some (3, true)⟩,
  ⟨some 9, .pick (.tmp 6) (.tmp 8) (.const (.bool false)), none⟩,
  ⟨some 2, .assign (.tmp 9), none⟩]
def f37_c : LC := (.seq (.reg f37_r0 [] none) (.seq (.reg f37_r1 [] none) .ret))
theorem f37_lc : Try.f37.body.map lc = some f37_c.st := by kernel_rfl
theorem f37_res : Try.f37.results.toList = [.tmp 2] := by kernel_rfl
theorem f37_nt : Try.f37.ntmps = 10 := by kernel_rfl
theorem f37_nm : (Try.f37.name == "runtime.NumGoroutine") = false := by kernel_rfl

/-! quill/null.void -/
def f38_r0 : List LOp := [
  ⟨some 1, .box 27 (.tmp 0), none⟩,
  ⟨some 2, .assign (.const (.bool false)), none⟩]
def f38_r1 : List LOp := [
  ⟨some 3, .fieldAddr 27 (.tmp 1) 0, none⟩,
  ⟨some 4, .load 5 (.tmp 3), none⟩]
def f38_r2 : List LOp := [
  ⟨some 6, .binOp .eql 5 (.tmp 4) (.const (.int .u8 1)) 5, none⟩,
  ⟨some 5, .assign (.tmp 6), none⟩]
def f38_r3 : List LOp := [
  ⟨some 2, .assign (.const (.bool true)), none⟩]
def f38_r4 : List LOp := [
  ⟨some 8, .binOp .eql 5 (.tmp 4) (.const (.int .u8 4)) 5, none⟩,
  ⟨some 7, .assign (.tmp 8), none⟩]
def f38_r5 : List LOp := [
  ⟨some 9, .fieldAddr 27 (.tmp 1) 2, none⟩,
  ⟨some 10, .load 25 (.tmp 9), none⟩,
  ⟨some 11, .indexAddr 25 (.tmp 10) (.const (.int .i64 0)), none⟩,
  ⟨some 12, .load 27 (.tmp 11), none⟩,
  ⟨some 13, .call { callee := .value (.func 38), args := #[.tmp 12], argTypes := #[27] }, none⟩,
  ⟨some 14, .move (.tmp 13), none⟩,
  ⟨some 15, .fieldAddr 27 (.tmp 1) 2, some (5, false)⟩,
  ⟨some 16, .load 25 (.tmp 15), some (5, false)⟩,
  ⟨some 17, .indexAddr 25 (.tmp 16) (.const (.int .i64 1)), some (5, false)⟩,
  ⟨some 18, .load 27 (.tmp 17), some (5, false)⟩,
  ⟨some 19, .call { callee := .value (.func 38), args := #[.tmp 18], argTypes := #[27] }, some (5, false)⟩,
  ⟨some 20, .pick (.tmp 14) (.const (.bool true)) (.tmp 19), none⟩,
  ⟨some 2, .assign (.tmp 20), none⟩]
def f38_r6 : List LOp := [
  ⟨some 22, .binOp .eql 5 (.tmp 4) (.const (.int .u8 5)) 5, none⟩,
  ⟨some 21, .assign (.tmp 22), none⟩]
def f38_r7 : List LOp := [
  ⟨some 23, .fieldAddr 27 (.tmp 1) 2, none⟩,
  ⟨some 24, .load 25 (.tmp 23), none⟩,
  ⟨some 25, .indexAddr 25 (.tmp 24) (.const (.int .i64 0)), none⟩,
  ⟨some 26, .load 27 (.tmp 25), none⟩,
  ⟨some 27, .call { callee := .value (.func 38), args := #[.tmp 26], argTypes := #[27] }, none⟩,
  ⟨some 28, .move (.tmp 27), none⟩,
  ⟨some 29, .fieldAddr 27 (.tmp 1) 2, some (5, true)⟩,
  ⟨some 30, .load 25 (.tmp 29), some (5, true)⟩,
  ⟨some 31, .indexAddr 25 (.tmp 30) (.const (.int .i64 1)), some (5, true)⟩,
  ⟨some 32, .load 27 (.tmp 31), some (5, true)⟩,
  ⟨some 33, .call { callee := .value (.func 38), args := #[.tmp 32], argTypes := #[27] }, some (5, true)⟩,
  ⟨some 34, .pick (.tmp 28) (.tmp 33) (.const (.bool false)), none⟩,
  ⟨some 2, .assign (.tmp 34), none⟩]
def f38_r8 : List LOp := [
  ⟨some 2, .assign (.const (.bool false)), none⟩]
def f38_c : LC := (.seq (.reg f38_r0 [] none) (.seq (.seq (.reg f38_r1 [] none) (.block 0 (.seq (.reg f38_r2 [] none) (.cond (.tmp 5) (.seq (.reg f38_r3 [] none) .ret) (.seq (.reg f38_r4 [] none) (.cond (.tmp 7) (.seq (.reg f38_r5 [] none) .ret) (.seq (.reg f38_r6 [] none) (.cond (.tmp 21) (.seq (.reg f38_r7 [] none) .ret) .skip)))))))) (.seq (.reg f38_r8 [] none) .ret)))
theorem f38_lc : Try.f38.body.map lc = some f38_c.st := by kernel_rfl
theorem f38_res : Try.f38.results.toList = [.tmp 2] := by kernel_rfl
theorem f38_nt : Try.f38.ntmps = 35 := by kernel_rfl
theorem f38_nm : (Try.f38.name == "runtime.NumGoroutine") = false := by kernel_rfl

/-! quill/quillref07.fits -/
def f39_r0 : List LOp := [
  ⟨some 1, .box 27 (.tmp 0), none⟩,
  ⟨some 2, .assign (.const (.bool false)), none⟩]
def f39_r1 : List LOp := [
  ⟨some 3, .fieldAddr 27 (.tmp 1) 0, none⟩,
  ⟨some 4, .load 5 (.tmp 3), none⟩,
  ⟨some 5, .binOp .eql 5 (.tmp 4) (.const (.int .u8 4)) 5, none⟩]
def f39_r2 : List LOp := [
  ⟨some 6, .fieldAddr 27 (.tmp 1) 2, none⟩,
  ⟨some 7, .load 25 (.tmp 6), none⟩,
  ⟨some 8, .indexAddr 25 (.tmp 7) (.const (.int .i64 0)), none⟩,
  ⟨some 9, .load 27 (.tmp 8), none⟩,
  ⟨some 10, .call { callee := .value (.func 39), args := #[.tmp 9], argTypes := #[27] }, none⟩,
  ⟨some 11, .move (.tmp 10), none⟩,
  ⟨some 12, .fieldAddr 27 (.tmp 1) 2, some (5, true)⟩,
  ⟨some 13, .load 25 (.tmp 12), some (5, true)⟩,
  ⟨some 14, .indexAddr 25 (.tmp 13) (.const (.int .i64 1)), some (5, true)⟩,
  ⟨some 15, .load 27 (.tmp 14), some (5, true)⟩,
  ⟨some 16, .call { callee := .value (.func 39), args := #[.tmp 15], argTypes := #[27] }, some (5, true)⟩,
  ⟨some 17, .pick (.tmp 11) (.tmp 16) (.const (.bool false)), none⟩,
  ⟨some 2, .assign (.tmp 17), none⟩]
def f39_r3 : List LOp := [
  ⟨some 18, .fieldAddr 27 (.tmp 1) 0, none⟩,
  ⟨some 19, .load 5 (.tmp 18), none⟩,
  ⟨some 20, .binOp .eql 5 (.tmp 19) (.const (.int .u8 5)) 5, none⟩]
def f39_r4 : List LOp := [
  ⟨some 21, .fieldAddr 27 (.tmp 1) 2, none⟩,
  ⟨some 22, .load 25 (.tmp 21), none⟩,
  ⟨some 23, .indexAddr 25 (.tmp 22) (.const (.int .i64 0)), none⟩,
  ⟨some 24, .load 27 (.tmp 23), none⟩,
  ⟨some 25, .call { callee := .value (.func 39), args := #[.tmp 24], argTypes := #[27] }, none⟩,
  ⟨some 26, .move (.tmp 25), none⟩,
  ⟨some 27, .fieldAddr 27 (.tmp 1) 2, some (5, false)⟩,
  ⟨some 28, .load 25 (.tmp 27), some (5, false)⟩,
  ⟨some 29, .indexAddr 25 (.tmp 28) (.const (.int .i64 1)), some (5, false)⟩,
  ⟨some 30, .load 27 (.tmp 29), some (5, false)⟩,
  ⟨some 31, .call { callee := .value (.func 39), args := #[.tmp 30], argTypes := #[27] }, some (5, false)⟩,
  ⟨some 32, .pick (.tmp 26) (.const (.bool true)) (.tmp 31), none⟩,
  ⟨some 2, .assign (.tmp 32), none⟩]
def f39_r5 : List LOp := [
  ⟨some 33, .fieldAddr 27 (.tmp 1) 0, none⟩,
  ⟨some 34, .load 5 (.tmp 33), none⟩,
  ⟨some 35, .binOp .neq 5 (.tmp 34) (.const (.int .u8 1)) 5, none⟩,
  ⟨some 2, .assign (.tmp 35), none⟩]
def f39_c : LC := (.seq (.reg f39_r0 [] none) (.seq (.seq (.reg f39_r1 [] none) (.cond (.tmp 5) (.seq (.reg f39_r2 [] none) .ret) .skip)) (.seq (.seq (.reg f39_r3 [] none) (.cond (.tmp 20) (.seq (.reg f39_r4 [] none) .ret) .skip)) (.seq (.reg f39_r5 [] none) .ret))))
theorem f39_lc : Try.f39.body.map lc = some f39_c.st := by kernel_rfl
theorem f39_res : Try.f39.results.toList = [.tmp 2] := by kernel_rfl
theorem f39_nt : Try.f39.ntmps = 36 := by kernel_rfl
theorem f39_nm : (Try.f39.name == "runtime.NumGoroutine") = false := by kernel_rfl

/-! quill/null.first -/
def f40_r0 : List LOp := [
  ⟨some 1, .box 27 (.tmp 0), none⟩,
  ⟨some 2, .alloc 24, none⟩]
def f40_r1 : List LOp := [
  ⟨some 3, .fieldAddr 27 (.tmp 1) 0, none⟩,
  ⟨some 4, .load 5 (.tmp 3), none⟩]
def f40_r2 : List LOp := [
  ⟨some 6, .binOp .eql 5 (.tmp 4) (.const (.int .u8 3)) 5, none⟩,
  ⟨some 5, .assign (.tmp 6), none⟩]
def f40_r3 : List LOp := [
  ⟨some 7, .fieldAddr 27 (.tmp 1) 1, none⟩,
  ⟨some 8, .load 24 (.tmp 7), none⟩,
  ⟨none, .store 24 (.tmp 2) (.tmp 8), none⟩]
def f40_r4 : List LOp := [
  ⟨some 10, .binOp .eql 5 (.tmp 4) (.const (.int .u8 6)) 5, none⟩,
  ⟨some 9, .assign (.tmp 10), none⟩]
def f40_r5 : List LOp := [
  ⟨some 11, .fieldAddr 27 (.tmp 1) 2, none⟩,
  ⟨some 12, .load 25 (.tmp 11), none⟩,
  ⟨some 13, .indexAddr 25 (.tmp 12) (.const (.int .i64 0)), none⟩,
  ⟨some 14, .load 27 (.tmp 13), none⟩,
  ⟨some 15, .call { callee := .value (.func 40), args := #[.tmp 14], argTypes := #[27] }, none⟩,
  ⟨none, .store 24 (.tmp 2) (.tmp 15), none⟩]
def f40_r6 : List LOp := [
  ⟨some 17, .binOp .eql 5 (.tmp 4) (.const (.int .u8 5)) 5, none⟩,
  ⟨some 16, .assign (.tmp 17), none⟩]
def f40_r7 : List LOp := [
  ⟨some 18, .fieldAddr 27 (.tmp 1) 2, none⟩,
  ⟨some 19, .load 25 (.tmp 18), none⟩,
  ⟨some 20, .indexAddr 25 (.tmp 19) (.const (.int .i64 0)), none⟩,
  ⟨some 21, .load 27 (.tmp 20), none⟩,
  ⟨some 22, .call { callee := .value (.func 40), args := #[.tmp 21], argTypes := #[27] }, none⟩,
  ⟨some 23, .fieldAddr 27 (.tmp 1) 2, none⟩,
  ⟨some 24, .load 25 (.tmp 23), none⟩,
  ⟨some 25, .indexAddr 25 (.tmp 24) (.const (.int .i64 1)), none⟩,
  ⟨some 26, .load 27 (.tmp 25), none⟩,
  ⟨some 27, .call { callee := .value (.func 40), args := #[.tmp 26], argTypes := #[27] }, none⟩,
  ⟨some 28, .buildSlice 73 2 #[(0, .tmp 22), (1, .tmp 27)], none⟩,
  ⟨some 29, .call { callee := .value (.func 54), args := #[.tmp 28], argTypes := #[73] }, none⟩,
  ⟨none, .store 24 (.tmp 2) (.tmp 29), none⟩]
def f40_r8 : List LOp := [
  ⟨some 31, .binOp .eql 5 (.tmp 4) (.const (.int .u8 4)) 5, none⟩,
  ⟨some 30, .assign (.tmp 31), none⟩]
def f40_r9 : List LOp := [
  ⟨some 33, .load 27 (.tmp 1), none⟩,
  ⟨some 34, .call { callee := .value (.func 38), args := #[.tmp 33], argTypes := #[27] }, none⟩,
  ⟨some 32, .assign (.tmp 34), none⟩]
def f40_r10 : List LOp := [
  ⟨some 35, .build 24 #[], none⟩,
  ⟨none, .store 24 (.tmp 2) (.tmp 35), none⟩]
def f40_r11 : List LOp := [
  ⟨some 37, .fieldAddr 27 (.tmp 1) 2, none⟩,
  ⟨some 38, .load 25 (.tmp 37), none⟩,
  ⟨some 39, .indexAddr 25 (.tmp 38) (.const (.int .i64 0)), none⟩,
  ⟨some 40, .load 27 (.tmp 39), none⟩,
  ⟨some 41, .call { callee := .value (.func 35), args := #[.tmp 40], argTypes := #[27] }, none⟩,
  ⟨some 36, .assign (.tmp 41), none⟩]
def f40_r12 : List LOp := [
  ⟨some 42, .fieldAddr 27 (.tmp 1) 2, none⟩,
  ⟨some 43, .load 25 (.tmp 42), none⟩,
  ⟨some 44, .indexAddr 25 (.tmp 43) (.const (.int .i64 0)), none⟩,
  ⟨some 45, .load 27 (.tmp 44), none⟩,
  ⟨some 46, .call { callee := .value (.func 40), args := #[.tmp 45], argTypes := #[27] }, none⟩,
  ⟨some 47, .fieldAddr 27 (.tmp 1) 2, none⟩,
  ⟨some 48, .load 25 (.tmp 47), none⟩,
  ⟨some 49, .indexAddr 25 (.tmp 48) (.const (.int .i64 1)), none⟩,
  ⟨some 50, .load 27 (.tmp 49), none⟩,
  ⟨some 51, .call { callee := .value (.func 40), args := #[.tmp 50], argTypes := #[27] }, none⟩,
  ⟨some 52, .buildSlice 73 2 #[(0, .tmp 46), (1, .tmp 51)], none⟩,
  ⟨some 53, .call { callee := .value (.func 54), args := #[.tmp 52], argTypes := #[73] }, none⟩,
  ⟨none, .store 24 (.tmp 2) (.tmp 53), none⟩]
def f40_r13 : List LOp := [
  ⟨some 54, .fieldAddr 27 (.tmp 1) 2, none⟩,
  ⟨some 55, .load 25 (.tmp 54), none⟩,
  ⟨some 56, .indexAddr 25 (.tmp 55) (.const (.int .i64 0)), none⟩,
  ⟨some 57, .load 27 (.tmp 56), none⟩,
  ⟨some 58, .call { callee := .value (.func 40), args := #[.tmp 57], argTypes := #[27] }, none⟩,
  ⟨none, .store 24 (.tmp 2) (.tmp 58), none⟩]
def f40_r14 : List LOp := [
  ⟨some 59, .build 24 #[], none⟩,
  ⟨none, .store 24 (.tmp 2) (.tmp 59), none⟩]
def f40_c : LC := (.seq (.reg f40_r0 [] none) (.seq (.seq (.reg f40_r1 [] none) (.block 0 (.seq (.reg f40_r2 [] none) (.cond (.tmp 5) (.seq (.reg f40_r3 [] none) .ret) (.seq (.reg f40_r4 [] none) (.cond (.tmp 9) (.seq (.reg f40_r5 [] none) .ret) (.seq (.reg f40_r6 [] none) (.cond (.tmp 16) (.seq (.reg f40_r7 [] (some 9)) .ret) (.seq (.reg f40_r8 [] none) (.cond (.tmp 30) (.seq (.block 1 (.seq (.reg f40_r9 [] none) (.cond (.tmp 32) (.seq (.reg f40_r10 [] none) .ret) (.seq (.reg f40_r11 [] none) (.cond (.tmp 36) (.seq (.reg f40_r12 [] (some 9)) .ret) .skip))))) (.seq (.reg f40_r13 [] none) .ret)) .skip)))))))))) (.seq (.reg f40_r14 [] none) .ret)))
theorem f40_lc : Try.f40.body.map lc = some f40_c.st := by kernel_rfl
theorem f40_res : Try.f40.results.toList = [.cell 2 24] := by kernel_rfl
theorem f40_nt : Try.f40.ntmps = 60 := by kernel_rfl
theorem f40_nm : (Try.f40.name == "runtime.NumGoroutine") = false := by kernel_rfl

/-! quill/quillref07.begins -/
def f41_r0 : List LOp := [
  ⟨some 1, .box 27 (.tmp 0), none⟩,
  ⟨some 2, .alloc 24, none⟩]
def f41_r1 : List LOp := [
  ⟨some 4, .fieldAddr 27 (.tmp 1) 0, none⟩,
  ⟨some 5, .load 5 (.tmp 4), none⟩,
  ⟨some 6, .binOp .eql 5 (.tmp 5) (.const (.int .u8 3)) 5, none⟩]
def f41_r2 : List LOp := [
  ⟨some 7, .fieldAddr 27 (.tmp 1) 1, none⟩,
  ⟨some 8, .load 24 (.tmp 7), none⟩,
  ⟨none, .store 24 (.tmp 2) (.tmp 8), none⟩]
def f41_r3 : List LOp := [
  ⟨some 9, .load 27 (.tmp 1), none⟩,
  ⟨some 10, .call { callee := .value (.func 39), args := #[.tmp 9], argTypes := #[27] }, none⟩,
  ⟨some 11, .unOp .not 4 (.tmp 10), none⟩,
  ⟨some 12, .move (.tmp 11), none⟩,
  ⟨some 13, .fieldAddr 27 (.tmp 1) 2, some (3, false)⟩,
  ⟨some 14, .load 25 (.tmp 13), some (3, false)⟩,
  ⟨some 15, .call { callee := .builtin .len, args := #[.tmp 14], argTypes := #[25] }, some (3, false)⟩,
  ⟨some 16, .binOp .eql 3 (.tmp 15) (.const (.int .i64 0)) 3, some (3, false)⟩,
  ⟨some 17, .pick (.tmp 12) (.const (.bool true)) (.tmp 16), none⟩]
def f41_r4 : List LOp := [
  ⟨some 18, .build 24 #[], none⟩,
  ⟨none, .store 24 (.tmp 2) (.tmp 18), none⟩]
def f41_r5 : List LOp := [
  ⟨some 19, .fieldAddr 27 (.tmp 1) 2, none⟩,
  ⟨some 20, .load 25 (.tmp 19), none⟩,
  ⟨some 21, .indexAddr 25 (.tmp 20) (.const (.int .i64 0)), none⟩,
  ⟨some 22, .load 27 (.tmp 21), none⟩,
  ⟨some 23, .call { callee := .value (.func 41), args := #[.tmp 22], argTypes := #[27] }, none⟩,
  ⟨some 3, .alloc 24, none⟩,
  ⟨none, .store 24 (.tmp 3) (.tmp 23), none⟩]
def f41_r6 : List LOp := [
  ⟨some 24, .fieldAddr 27 (.tmp 1) 0, none⟩,
  ⟨some 25, .load 5 (.tmp 24), none⟩,
  ⟨some 26, .binOp .eql 5 (.tmp 25) (.const (.int .u8 5)) 5, none⟩,
  ⟨some 27, .move (.tmp 26), none⟩,
  ⟨some 28, .fieldAddr 27 (.tmp 1) 0, some (3, false)⟩,
  ⟨some 29, .load 5 (.tmp 28), some (3, false)⟩,
  ⟨some 30, .binOp .eql 5 (.tmp 29) (.const (.int .u8 4)) 5, some (3, false)⟩,
  ⟨some 31, .move (.tmp 30), some (3, false)⟩,
  ⟨some 32, .fieldAddr 27 (.tmp 1) 2, some (7, true)⟩,
  ⟨some 33, .load 25 (.tmp 32), some (7, true)⟩,
  ⟨some 34, .indexAddr 25 (.tmp 33) (.const (.int .i64 0)), some (7, true)⟩,
  ⟨some 35, .load 27 (.tmp 34), some (7, true)⟩,
  ⟨some 36, .call { callee := .value (.func 36), args := #[.tmp 35], argTypes := #[27] }, some (7, true)⟩,
  ⟨some 37, .pick (.tmp 31) (.tmp 36) (.const (.bool false)), some (3, false)⟩,
  ⟨some 38, .pick (.tmp 27) (.const (.bool true)) (.tmp 37), none⟩]
def f41_r7 : List LOp := [
  ⟨some 39, .load 24 (.tmp 3), none⟩,
  ⟨some 40, .fieldAddr 27 (.tmp 1) 2, none⟩,
  ⟨some 41, .load 25 (.tmp 40), none⟩,
  ⟨some 42, .indexAddr 25 (.tmp 41) (.const (.int .i64 1)), none⟩,
  ⟨some 43, .load 27 (.tmp 42), none⟩,
  ⟨some 44, .call { callee := .value (.func 41), args := #[.tmp 43], argTypes := #[27] }, none⟩,
  ⟨some 45, .call { callee := .value (.func 55), args := #[.tmp 39, .tmp 44], argTypes := #[24, 24] }, none⟩,
  ⟨none, .store 24 (.tmp 3) (.tmp 45), none⟩]
def f41_r8 : List LOp := [
  ⟨some 46, .load 24 (.tmp 3), none⟩,
  ⟨none, .store 24 (.tmp 2) (.tmp 46), none⟩]
def f41_c : LC := (.seq (.reg f41_r0 [] none) (.seq (.seq (.reg f41_r1 [] none) (.cond (.tmp 6) (.seq (.reg f41_r2 [] none) .ret) .skip)) (.seq (.seq (.reg f41_r3 [] none) (.cond (.tmp 17) (.seq (.reg f41_r4 [] none) .ret) .skip)) (.seq (.reg f41_r5 [] none) (.seq (.seq (.reg f41_r6 [] none) (.cond (.tmp 38) (.reg f41_r7 [] (some 6)) .skip)) (.seq (.reg f41_r8 [] none) .ret))))))
theorem f41_lc : Try.f41.body.map lc = some f41_c.st := by kernel_rfl
theorem f41_res : Try.f41.results.toList = [.cell 2 24] := by kernel_rfl
theorem f41_nt : Try.f41.ntmps = 47 := by kernel_rfl
theorem f41_nm : (Try.f41.name == "runtime.NumGoroutine") = false := by kernel_rfl

attribute [go_sem] f4_r0 f4_r1 f4_r2 f4_r3 f4_r4 f4_r5 f4_c f5_r0 f5_r1 f5_r2 f5_r3 f5_r4 f5_r5 f5_r6 f5_c f16_r0 f16_r1 f16_c f17_r0 f17_r1 f17_c f18_r0 f18_r1 f18_c f19_r0 f19_r1 f19_c f20_r0 f20_r1 f20_r2 f20_r3 f20_c f21_r0 f21_r1 f21_r2 f21_r3 f21_c f34_r0 f34_r1 f34_c f35_r0 f35_r1 f35_r2 f35_r3 f35_r4 f35_r5 f35_r6 f35_r7 f35_r8 f35_r9 f35_c f36_r0 f36_r1 f36_r2 f36_r3 f36_r4 f36_r5 f36_c f37_r0 f37_r1 f37_c f38_r0 f38_r1 f38_r2 f38_r3 f38_r4 f38_r5 f38_r6 f38_r7 f38_r8 f38_c f39_r0 f39_r1 f39_r2 f39_r3 f39_r4 f39_r5 f39_c f40_r0 f40_r1 f40_r2 f40_r3 f40_r4 f40_r5 f40_r6 f40_r7 f40_r8 f40_r9 f40_r10 f40_r11 f40_r12 f40_r13 f40_r14 f40_c f41_r0 f41_r1 f41_r2 f41_r3 f41_r4 f41_r5 f41_r6 f41_r7 f41_r8 f41_c

end Go.Proofs.Ytfpfcokhnddddaa.W
