/- Part of a program logic over data: rules of the walk, each proved. -/
import Derived.Test.YtlejbkfefpfolaaDoorGen
set_option linter.unusedVariables false
set_option linter.unusedSimpArgs false
set_option linter.unusedSectionVars false
set_option maxRecDepth 100000
namespace Go.Proofs.YtlejbkfefpfolaaDoor.W
open Go Go.Proofs Go.Proofs.YtlejbkfefpfolaaDoor.AWP
/-! gosem.cut.init -/
/-! quill/quilllaw06.ReadBack -/
/-! quill/quilllaw10.MatchForms -/
/-! quill/quilllaw09.DerivParts -/
def f5_r0 : List LOp := [
⟨some 3, .box 27 (.tmp 0), none⟩,
⟨some 6, .assign (.const (.bool false)), none⟩]
def f5_r1 : List LOp := [
⟨some 13, .load 27 (.tmp 3), none⟩,
⟨some 14, .call ⟨.value (.func 6), #[.tmp 13, .const (.int .i64 40)], #[27, 3]⟩, none⟩,
⟨some 15, .move (.tmp 14), none⟩,
⟨some 16, .move (.tmp 1), some (2, false)⟩,
⟨some 17, .call ⟨.builtin .len, #[.tmp 16], #[9]⟩, some (2, false)⟩,
⟨some 18, .binOp .gtr 3 (.tmp 17) (.const (.int .i64 6)) 3, some (2, false)⟩,
⟨some 19, .pick (.tmp 15) (.const (.bool true)) (.tmp 18), none⟩,
⟨some 20, .move (.tmp 19), none⟩,
⟨some 21, .move (.tmp 2), some (7, false)⟩,
⟨some 22, .call ⟨.builtin .len, #[.tmp 21], #[9]⟩, some (7, false)⟩,
⟨some 23, .binOp .gtr 3 (.tmp 22) (.const (.int .i64 6)) 3, some (7, false)⟩,
⟨some 24, .pick (.tmp 20) (.const (.bool true)) (.tmp 23), none⟩]
def f5_r2 : List LOp := [
⟨some 25, .call ⟨.value (.func 17), #[], #[]⟩, none⟩,
⟨some 6, .assign (.tmp 25), none⟩]
def f5_r3 : List LOp := [
⟨some 27, .load 27 (.tmp 3), none⟩,
⟨some 28, .move (.tmp 1), none⟩,
⟨some 29, .call ⟨.value (.func 18), #[.tmp 27, .tmp 28], #[27, 9]⟩, none⟩,
⟨some 26, .move (.tmp 29), none⟩,
⟨some 30, .extract (.tmp 26) 0, none⟩,
⟨some 31, .extract (.tmp 26) 1, none⟩,
⟨some 7, .alloc 27, none⟩,
⟨none, .store 27 (.tmp 7) (.tmp 30), none⟩,
⟨some 8, .assign (.tmp 31), none⟩]
def f5_r4 : List LOp := [
⟨some 33, .load 27 (.tmp 7), none⟩,
⟨some 34, .move (.tmp 2), none⟩,
⟨some 35, .call ⟨.value (.func 18), #[.tmp 33, .tmp 34], #[27, 9]⟩, none⟩,
⟨some 32, .move (.tmp 35), none⟩,
⟨some 36, .extract (.tmp 32) 0, none⟩,
⟨some 37, .extract (.tmp 32) 1, none⟩,
⟨some 9, .alloc 27, none⟩,
⟨none, .store 27 (.tmp 9) (.tmp 36), none⟩,
⟨some 10, .assign (.tmp 37), none⟩]
def f5_r5 : List LOp := [
⟨some 39, .load 27 (.tmp 3), none⟩,
⟨some 40, .move (.tmp 1), none⟩,
⟨some 41, .move (.tmp 2), none⟩,
⟨some 42, .binOp .add 9 (.tmp 40) (.tmp 41) 9, none⟩,
⟨some 43, .call ⟨.value (.func 18), #[.tmp 39, .tmp 42], #[27, 9]⟩, none⟩,
⟨some 38, .move (.tmp 43), none⟩,
⟨some 44, .extract (.tmp 38) 0, none⟩,
⟨some 45, .extract (.tmp 38) 1, none⟩,
⟨some 11, .alloc 27, none⟩,
⟨none, .store 27 (.tmp 11) (.tmp 44), none⟩,
⟨some 12, .assign (.tmp 45), none⟩]
def f5_r6 : List LOp := [
⟨some 46, .move (.tmp 8), none⟩,
⟨some 47, .binOp .neq 31 (.tmp 46) (.const (.int .i64 0)) 31, none⟩]
def f5_r7 : List LOp := [
⟨some 48, .move (.tmp 12), none⟩,
⟨some 49, .move (.tmp 8), none⟩,
⟨some 50, .binOp .eql 31 (.tmp 48) (.tmp 49) 31, none⟩,
⟨some 51, .move (.tmp 50), none⟩,
⟨some 52, .load 27 (.tmp 11), some (3, true)⟩,
⟨some 53, .build 27 #[], some (3, true)⟩,
⟨some 54, .call ⟨.value (.func 11), #[.tmp 52, .tmp 53], #[27, 27]⟩, some (3, true)⟩,
⟨some 55, .pick (.tmp 51) (.tmp 54) (.const (.bool false)), none⟩,
⟨some 56, .move (.tmp 55), none⟩,
⟨some 57, .call ⟨.value (.func 17), #[], #[]⟩, some (8, true)⟩,
⟨some 58, .pick (.tmp 56) (.tmp 57) (.const (.bool false)), none⟩,
⟨some 6, .assign (.tmp 58), none⟩]
def f5_r8 : List LOp := [
⟨some 59, .move (.tmp 10), none⟩,
⟨some 60, .move (.tmp 12), none⟩,
⟨some 61, .binOp .eql 31 (.tmp 59) (.tmp 60) 31, none⟩,
⟨some 62, .move (.tmp 61), none⟩,
⟨some 63, .load 27 (.tmp 9), some (3, true)⟩,
⟨some 64, .load 27 (.tmp 11), some (3, true)⟩,
⟨some 65, .call ⟨.value (.func 11), #[.tmp 63, .tmp 64], #[27, 27]⟩, some (3, true)⟩,
⟨some 66, .pick (.tmp 62) (.tmp 65) (.const (.bool false)), none⟩,
⟨some 67, .move (.tmp 66), none⟩,
⟨some 68, .call ⟨.value (.func 17), #[], #[]⟩, some (8, true)⟩,
⟨some 69, .pick (.tmp 67) (.tmp 68) (.const (.bool false)), none⟩,
⟨some 6, .assign (.tmp 69), none⟩]
def f5_c : LC := (.seq (.reg f5_r0 [] none) (.seq (.seq (.reg f5_r1 [] none) (.cond (.tmp 24) (.seq (.reg f5_r2 [] none) .ret) .skip)) (.seq (.reg f5_r3 [] none) (.seq (.reg f5_r4 [] none) (.seq (.reg f5_r5 [] none) (.seq (.seq (.reg f5_r6 [] none) (.cond (.tmp 47) (.seq (.reg f5_r7 [] none) .ret) .skip)) (.seq (.reg f5_r8 [] none) .ret)))))))
theorem f5_lc : Tryd.f5.body.map lc = some f5_c.st := by kernel_rfl
theorem f5_res : Tryd.f5.results.toList = [.tmp 6] := by kernel_rfl
theorem f5_nt : Tryd.f5.ntmps = 70 := by kernel_rfl
theorem f5_nm : (Tryd.f5.name == "runtime.NumGoroutine") = false := by kernel_rfl
/-! quill/quilllaw06.awake -/
/-! quill/quillref03.Same -/
def f11_r0 : List LOp := [
⟨some 2, .box 27 (.tmp 0), none⟩,
⟨some 3, .box 27 (.tmp 1), none⟩,
⟨some 4, .assign (.const (.bool false)), none⟩]
def f11_r1 : List LOp := [
⟨some 6, .fieldAddr 27 (.tmp 2) 0, none⟩,
⟨some 7, .load 5 (.tmp 6), none⟩,
⟨some 8, .fieldAddr 27 (.tmp 3) 0, none⟩,
⟨some 9, .load 5 (.tmp 8), none⟩,
⟨some 10, .binOp .neq 5 (.tmp 7) (.tmp 9) 5, none⟩,
⟨some 11, .move (.tmp 10), none⟩,
⟨some 12, .fieldAddr 27 (.tmp 2) 1, some (5, false)⟩,
⟨some 13, .load 24 (.tmp 12), some (5, false)⟩,
⟨some 14, .fieldAddr 27 (.tmp 3) 1, some (5, false)⟩,
⟨some 15, .load 24 (.tmp 14), some (5, false)⟩,
⟨some 16, .binOp .neq 24 (.tmp 13) (.tmp 15) 24, some (5, false)⟩,
⟨some 17, .pick (.tmp 11) (.const (.bool true)) (.tmp 16), none⟩,
⟨some 18, .move (.tmp 17), none⟩,
⟨some 19, .fieldAddr 27 (.tmp 2) 2, some (12, false)⟩,
⟨some 20, .load 25 (.tmp 19), some (12, false)⟩,
⟨some 21, .call ⟨.builtin .len, #[.tmp 20], #[25]⟩, some (12, false)⟩,
⟨some 22, .fieldAddr 27 (.tmp 3) 2, some (12, false)⟩,
⟨some 23, .load 25 (.tmp 22), some (12, false)⟩,
⟨some 24, .call ⟨.builtin .len, #[.tmp 23], #[25]⟩, some (12, false)⟩,
⟨some 25, .binOp .neq 3 (.tmp 21) (.tmp 24) 3, some (12, false)⟩,
⟨some 26, .pick (.tmp 18) (.const (.bool true)) (.tmp 25), none⟩]
def f11_r2 : List LOp := [
⟨some 4, .assign (.const (.bool false)), none⟩]
def f11_r3 : List LOp := [
⟨some 27, .fieldAddr 27 (.tmp 2) 2, none⟩,
⟨some 28, .load 25 (.tmp 27), none⟩,
⟨some 29, .call ⟨.builtin .len, #[.tmp 28], #[25]⟩, none⟩,
⟨some 30, .move (.const (.int .i64 0)), none⟩]
def f11_r4 : List LOp := [
⟨some 31, .binOp .lss 3 (.tmp 30) (.tmp 29) 3, none⟩]
def f11_r5 : List LOp := [
⟨some 32, .move (.tmp 30), none⟩,
⟨some 5, .assign (.tmp 32), none⟩]
def f11_r6 : List LOp := [
⟨some 33, .fieldAddr 27 (.tmp 2) 2, none⟩,
⟨some 34, .load 25 (.tmp 33), none⟩,
⟨some 35, .move (.tmp 5), none⟩,
⟨some 36, .indexAddr 25 (.tmp 34) (.tmp 35), none⟩,
⟨some 37, .load 27 (.tmp 36), none⟩,
⟨some 38, .fieldAddr 27 (.tmp 3) 2, none⟩,
⟨some 39, .load 25 (.tmp 38), none⟩,
⟨some 40, .move (.tmp 5), none⟩,
⟨some 41, .indexAddr 25 (.tmp 39) (.tmp 40), none⟩,
⟨some 42, .load 27 (.tmp 41), none⟩,
⟨some 43, .call ⟨.value (.func 11), #[.tmp 37, .tmp 42], #[27, 27]⟩, none⟩,
⟨some 44, .unOp .not 4 (.tmp 43), none⟩]
def f11_r7 : List LOp := [
⟨some 4, .assign (.const (.bool false)), none⟩]
def f11_r8 : List LOp := [
⟨some 45, .binOp .add 3 (.tmp 30) (.const (.int .i64 1)) 3, none⟩,
⟨some 30, .move (.tmp 45), none⟩]
def f11_l9 : LC := (.seq (.reg f11_r4 [] none) (.seq (.cond (.tmp 31) .skip (.exit 0)) (.seq (.block 1 (.seq (.reg f11_r5 [] none) (.seq (.reg f11_r6 [] (some 10)) (.cond (.tmp 44) (.seq (.reg f11_r7 [] none) .ret) .skip)))) (.reg f11_r8 [] none))))
def f11_i9 (t2 t3 t29 t30 : D) : List D := [.any, .any, t2, t3, .any, .any, .any, .any, .any, .any, .any, .any, .any, .any, .any, .any, .any, .any, .any, .any, .any, .any, .any, .any, .any, .any, .any, .any, .any, t29, t30, .any, .any, .any, .any, .any, .any, .any, .any, .any, .any, .any, .any, .any, .any, .any]
def f11_r10 : List LOp := [
⟨some 4, .assign (.const (.bool true)), none⟩]
def f11_c : LC := (.seq (.reg f11_r0 [] none) (.seq (.seq (.reg f11_r1 [] none) (.cond (.tmp 26) (.seq (.reg f11_r2 [] none) .ret) .skip)) (.seq (.seq (.reg f11_r3 [] none) (.block 0 (.loop f11_l9))) (.seq (.reg f11_r10 [] none) .ret))))
theorem f11_lc : Tryd.f11.body.map lc = some f11_c.st := by kernel_rfl
theorem f11_res : Tryd.f11.results.toList = [.tmp 4] := by kernel_rfl
theorem f11_nt : Tryd.f11.ntmps = 46 := by kernel_rfl
theorem f11_nm : (Tryd.f11.name == "runtime.NumGoroutine") = false := by kernel_rfl
/-! quill/quilllaw10.awake -/
/-! quill/match.Ends -/
/-! quill/quillref10.Ints -/
/-! quill/norm.Norm -/
def f16_r0 : List LOp := [
⟨some 1, .box 27 (.tmp 0), none⟩,
⟨some 2, .alloc 27, none⟩]
def f16_r1 : List LOp := [
⟨some 3, .load 27 (.tmp 1), none⟩,
⟨some 4, .buildSlice 25 1 #[(0, .tmp 3)], none⟩,
⟨some 5, .call ⟨.value (.func 23), #[.tmp 4], #[25]⟩, none⟩,
⟨some 6, .unOp .not 4 (.tmp 5), none⟩]
def f16_r2 : List LOp := [
⟨some 7, .build 27 #[], none⟩,
⟨none, .store 27 (.tmp 2) (.tmp 7), none⟩]
def f16_r3 : List LOp := [
⟨some 8, .load 27 (.tmp 1), none⟩,
⟨some 9, .call ⟨.value (.func 30), #[.tmp 8], #[27]⟩, none⟩,
⟨none, .store 27 (.tmp 2) (.tmp 9), none⟩]
def f16_c : LC := (.seq (.reg f16_r0 [] none) (.seq (.seq (.reg f16_r1 [] none) (.cond (.tmp 6) (.seq (.reg f16_r2 [] none) .ret) .skip)) (.seq (.reg f16_r3 [] none) .ret)))
theorem f16_lc : Tryd.f16.body.map lc = some f16_c.st := by kernel_rfl
theorem f16_res : Tryd.f16.results.toList = [.cell 2 27] := by kernel_rfl
theorem f16_nt : Tryd.f16.ntmps = 10 := by kernel_rfl
theorem f16_nm : (Tryd.f16.name == "runtime.NumGoroutine") = false := by kernel_rfl
/-! quill/quilllaw09.awake -/
def f17_r0 : List LOp := [
⟨some 0, .assign (.const (.bool false)), none⟩]
def f17_r1 : List LOp := [
⟨some 7, .call ⟨.value (.func 9), #[.const (.string { data := #[40, 97, 98, 41, 42] })], #[9]⟩, none⟩,
⟨some 6, .move (.tmp 7), none⟩,
⟨some 8, .extract (.tmp 6) 0, none⟩,
⟨some 9, .extract (.tmp 6) 1, none⟩,
⟨some 10, .extract (.tmp 6) 2, none⟩,
⟨some 1, .alloc 27, none⟩,
⟨none, .store 27 (.tmp 1) (.tmp 8), none⟩,
⟨some 2, .assign (.tmp 9), none⟩,
⟨some 3, .assign (.tmp 10), none⟩]
def f17_r2 : List LOp := [
⟨some 12, .load 27 (.tmp 1), none⟩,
⟨some 13, .call ⟨.value (.func 18), #[.tmp 12, .const (.string { data := #[97, 98] })], #[27, 9]⟩, none⟩,
⟨some 11, .move (.tmp 13), none⟩,
⟨some 14, .extract (.tmp 11) 0, none⟩,
⟨some 15, .extract (.tmp 11) 1, none⟩,
⟨some 4, .alloc 27, none⟩,
⟨none, .store 27 (.tmp 4) (.tmp 14), none⟩,
⟨some 5, .assign (.tmp 15), none⟩]
def f17_r3 : List LOp := [
⟨some 16, .move (.tmp 3), none⟩,
⟨some 17, .binOp .eql 31 (.tmp 16) (.const (.int .i64 0)) 31, none⟩,
⟨some 18, .move (.tmp 17), none⟩,
⟨some 19, .move (.tmp 5), some (2, true)⟩,
⟨some 20, .binOp .eql 31 (.tmp 19) (.const (.int .i64 0)) 31, some (2, true)⟩,
⟨some 21, .pick (.tmp 18) (.tmp 20) (.const (.bool false)), none⟩,
⟨some 22, .move (.tmp 21), none⟩,
⟨some 23, .load 27 (.tmp 4), some (6, true)⟩,
⟨some 24, .call ⟨.value (.func 10), #[.tmp 23], #[27]⟩, some (6, true)⟩,
⟨some 25, .binOp .eql 9 (.tmp 24) (.const (.string { data := #[40, 97, 98, 41, 42] })) 9, some (6, true)⟩,
⟨some 26, .pick (.tmp 22) (.tmp 25) (.const (.bool false)), none⟩,
⟨some 0, .assign (.tmp 26), none⟩]
def f17_c : LC := (.seq (.reg f17_r0 [] none) (.seq (.reg f17_r1 [] none) (.seq (.reg f17_r2 [] none) (.seq (.reg f17_r3 [] none) .ret))))
theorem f17_lc : Tryd.f17.body.map lc = some f17_c.st := by kernel_rfl
theorem f17_res : Tryd.f17.results.toList = [.tmp 0] := by kernel_rfl
theorem f17_nt : Tryd.f17.ntmps = 27 := by kernel_rfl
theorem f17_nm : (Tryd.f17.name == "runtime.NumGoroutine") = false := by kernel_rfl
/-! quill/deriv.Word -/
def f18_r0 : List LOp := [
⟨some 2, .box 27 (.tmp 0), none⟩,
⟨some 4, .alloc 27, none⟩,
⟨some 5, .assign (.const (.int .i64 0)), none⟩]
def f18_r1 : List LOp := [
⟨some 9, .load 27 (.tmp 2), none⟩,
⟨some 10, .move (.tmp 1), none⟩,
⟨some 11, .call ⟨.value (.func 31), #[.tmp 9, .tmp 10], #[27, 9]⟩, none⟩,
⟨some 8, .move (.tmp 11), none⟩,
⟨some 12, .extract (.tmp 8) 0, none⟩,
⟨some 13, .extract (.tmp 8) 1, none⟩,
⟨some 6, .assign (.tmp 12), none⟩,
⟨some 7, .assign (.tmp 13), none⟩]
def f18_r2 : List LOp := [
⟨some 14, .move (.tmp 7), none⟩,
⟨some 15, .binOp .neq 31 (.tmp 14) (.const (.int .i64 0)) 31, none⟩]
def f18_r3 : List LOp := [
⟨some 16, .build 27 #[], none⟩,
⟨some 17, .move (.tmp 7), none⟩,
⟨none, .store 27 (.tmp 4) (.tmp 16), none⟩,
⟨some 5, .assign (.tmp 17), none⟩]
def f18_r4 : List LOp := [
⟨some 18, .move (.tmp 6), none⟩,
⟨some 19, .move (.tmp 6), none⟩,
⟨some 20, .call ⟨.builtin .len, #[.tmp 19], #[25]⟩, none⟩,
⟨some 21, .binOp .sub 3 (.tmp 20) (.const (.int .i64 1)) 3, none⟩,
⟨some 22, .indexAddr 25 (.tmp 18) (.tmp 21), none⟩,
⟨some 23, .load 27 (.tmp 22), none⟩,
⟨none, .store 27 (.tmp 4) (.tmp 23), none⟩,
⟨some 5, .assign (.const (.int .i64 0)), none⟩]
def f18_c : LC := (.seq (.reg f18_r0 [] none) (.seq (.reg f18_r1 [] none) (.seq (.seq (.reg f18_r2 [] none) (.cond (.tmp 15) (.seq (.reg f18_r3 [] none) .ret) .skip)) (.seq (.reg f18_r4 [] none) .ret))))
theorem f18_lc : Tryd.f18.body.map lc = some f18_c.st := by kernel_rfl
theorem f18_res : Tryd.f18.results.toList = [.cell 4 27, .tmp 5] := by kernel_rfl
theorem f18_nt : Tryd.f18.ntmps = 24 := by kernel_rfl
theorem f18_nm : (Tryd.f18.name == "runtime.NumGoroutine") = false := by kernel_rfl
/-! quill/read.Form -/
/-! quill/match.ends -/
/-! (quill/match.places).only -/
/-! quill/norm.norm -/
def f30_r0 : List LOp := [
⟨some 1, .box 27 (.tmp 0), none⟩,
⟨some 2, .alloc 27, none⟩]
def f30_r1 : List LOp := [
⟨some 3, .fieldAddr 27 (.tmp 1) 0, none⟩,
⟨some 4, .load 5 (.tmp 3), none⟩]
def f30_r2 : List LOp := [
⟨some 6, .binOp .eql 5 (.tmp 4) (.const (.int .u8 4)) 5, none⟩,
⟨some 5, .assign (.tmp 6), none⟩]
def f30_r3 : List LOp := [
⟨some 7, .fieldAddr 27 (.tmp 1) 2, none⟩,
⟨some 8, .load 25 (.tmp 7), none⟩,
⟨some 9, .indexAddr 25 (.tmp 8) (.const (.int .i64 0)), none⟩,
⟨some 10, .load 27 (.tmp 9), none⟩,
⟨some 11, .call ⟨.value (.func 30), #[.tmp 10], #[27]⟩, none⟩,
⟨some 12, .fieldAddr 27 (.tmp 1) 2, none⟩,
⟨some 13, .load 25 (.tmp 12), none⟩,
⟨some 14, .indexAddr 25 (.tmp 13) (.const (.int .i64 1)), none⟩,
⟨some 15, .load 27 (.tmp 14), none⟩,
⟨some 16, .call ⟨.value (.func 30), #[.tmp 15], #[27]⟩, none⟩,
⟨some 17, .call ⟨.value (.func 49), #[.tmp 11, .tmp 16], #[27, 27]⟩, none⟩,
⟨none, .store 27 (.tmp 2) (.tmp 17), none⟩]
def f30_r4 : List LOp := [
⟨some 19, .binOp .eql 5 (.tmp 4) (.const (.int .u8 5)) 5, none⟩,
⟨some 18, .assign (.tmp 19), none⟩]
def f30_r5 : List LOp := [
⟨some 20, .fieldAddr 27 (.tmp 1) 2, none⟩,
⟨some 21, .load 25 (.tmp 20), none⟩,
⟨some 22, .indexAddr 25 (.tmp 21) (.const (.int .i64 0)), none⟩,
⟨some 23, .load 27 (.tmp 22), none⟩,
⟨some 24, .call ⟨.value (.func 30), #[.tmp 23], #[27]⟩, none⟩,
⟨some 25, .fieldAddr 27 (.tmp 1) 2, none⟩,
⟨some 26, .load 25 (.tmp 25), none⟩,
⟨some 27, .indexAddr 25 (.tmp 26) (.const (.int .i64 1)), none⟩,
⟨some 28, .load 27 (.tmp 27), none⟩,
⟨some 29, .call ⟨.value (.func 30), #[.tmp 28], #[27]⟩, none⟩,
⟨some 30, .buildSlice 25 2 #[(0, .tmp 24), (1, .tmp 29)], none⟩,
⟨some 31, .call ⟨.value (.func 50), #[.tmp 30], #[25]⟩, none⟩,
⟨none, .store 27 (.tmp 2) (.tmp 31), none⟩]
def f30_r6 : List LOp := [
⟨some 33, .binOp .eql 5 (.tmp 4) (.const (.int .u8 6)) 5, none⟩,
⟨some 32, .assign (.tmp 33), none⟩]
def f30_r7 : List LOp := [
⟨some 34, .fieldAddr 27 (.tmp 1) 2, none⟩,
⟨some 35, .load 25 (.tmp 34), none⟩,
⟨some 36, .indexAddr 25 (.tmp 35) (.const (.int .i64 0)), none⟩,
⟨some 37, .load 27 (.tmp 36), none⟩,
⟨some 38, .call ⟨.value (.func 30), #[.tmp 37], #[27]⟩, none⟩,
⟨some 39, .call ⟨.value (.func 51), #[.tmp 38], #[27]⟩, none⟩,
⟨none, .store 27 (.tmp 2) (.tmp 39), none⟩]
def f30_r8 : List LOp := [
⟨some 40, .load 27 (.tmp 1), none⟩,
⟨none, .store 27 (.tmp 2) (.tmp 40), none⟩]
def f30_c : LC := (.seq (.reg f30_r0 [] none) (.seq (.seq (.reg f30_r1 [] none) (.block 0 (.seq (.reg f30_r2 [] none) (.cond (.tmp 5) (.seq (.reg f30_r3 [] (some 9)) .ret) (.seq (.reg f30_r4 [] none) (.cond (.tmp 18) (.seq (.reg f30_r5 [] (some 9)) .ret) (.seq (.reg f30_r6 [] none) (.cond (.tmp 32) (.seq (.reg f30_r7 [] none) .ret) .skip)))))))) (.seq (.reg f30_r8 [] none) .ret)))
theorem f30_lc : Tryd.f30.body.map lc = some f30_c.st := by kernel_rfl
theorem f30_res : Tryd.f30.results.toList = [.cell 2 27] := by kernel_rfl
theorem f30_nt : Tryd.f30.ntmps = 41 := by kernel_rfl
theorem f30_nm : (Tryd.f30.name == "runtime.NumGoroutine") = false := by kernel_rfl
/-! quill/deriv.Walk -/
def f31_r0 : List LOp := [
⟨some 2, .box 27 (.tmp 0), none⟩,
⟨some 4, .assign (.const (.slice none 0 0)), none⟩,
⟨some 5, .assign (.const (.int .i64 0)), none⟩]
def f31_r1 : List LOp := [
⟨some 10, .load 27 (.tmp 2), none⟩,
⟨some 11, .buildSlice 25 1 #[(0, .tmp 10)], none⟩,
⟨some 12, .call ⟨.value (.func 23), #[.tmp 11], #[25]⟩, none⟩,
⟨some 13, .unOp .not 4 (.tmp 12), none⟩]
def f31_r2 : List LOp := [
⟨some 4, .assign (.const (.slice none 0 0)), none⟩,
⟨some 5, .assign (.const (.int .i64 1)), none⟩]
def f31_r3 : List LOp := [
⟨some 14, .load 27 (.tmp 2), none⟩,
⟨some 15, .call ⟨.value (.func 16), #[.tmp 14], #[27]⟩, none⟩,
⟨some 16, .buildSlice 25 1 #[(0, .tmp 15)], none⟩,
⟨some 6, .assign (.tmp 16), none⟩]
def f31_r4 : List LOp := [
⟨some 17, .move (.tmp 1), none⟩,
⟨some 18, .call ⟨.builtin .len, #[.tmp 17], #[9]⟩, none⟩,
⟨some 19, .move (.const (.int .i64 0)), none⟩]
def f31_r5 : List LOp := [
⟨some 20, .binOp .lss 3 (.tmp 19) (.tmp 18) 3, none⟩]
def f31_r6 : List LOp := [
⟨some 21, .move (.tmp 19), none⟩,
⟨some 7, .assign (.tmp 21), none⟩]
def f31_r7 : List LOp := [
⟨some 23, .move (.tmp 6), none⟩,
⟨some 24, .move (.tmp 7), none⟩,
⟨some 25, .indexAddr 25 (.tmp 23) (.tmp 24), none⟩,
⟨some 26, .load 27 (.tmp 25), none⟩,
⟨some 27, .move (.tmp 1), none⟩,
⟨some 28, .move (.tmp 7), none⟩,
⟨some 29, .index 9 (.tmp 27) (.tmp 28), none⟩,
⟨some 30, .call ⟨.value (.func 52), #[.tmp 26, .tmp 29], #[27, 5]⟩, none⟩,
⟨some 22, .move (.tmp 30), none⟩,
⟨some 31, .extract (.tmp 22) 0, none⟩,
⟨some 32, .extract (.tmp 22) 1, none⟩,
⟨some 8, .alloc 27, none⟩,
⟨none, .store 27 (.tmp 8) (.tmp 31), none⟩,
⟨some 9, .assign (.tmp 32), none⟩]
def f31_r8 : List LOp := [
⟨some 33, .move (.tmp 9), none⟩,
⟨some 34, .binOp .neq 31 (.tmp 33) (.const (.int .i64 0)) 31, none⟩]
def f31_r9 : List LOp := [
⟨some 35, .move (.tmp 9), none⟩,
⟨some 4, .assign (.const (.slice none 0 0)), none⟩,
⟨some 5, .assign (.tmp 35), none⟩]
def f31_r10 : List LOp := [
⟨some 36, .move (.tmp 6), none⟩,
⟨some 37, .load 27 (.tmp 8), none⟩,
⟨some 38, .buildSlice 25 1 #[(0, .tmp 37)], none⟩,
⟨some 39, .call ⟨.builtin .append, #[.tmp 36, .tmp 38], #[25, 25]⟩, none⟩,
⟨some 6, .assign (.tmp 39), none⟩]
def f31_r11 : List LOp := [
⟨some 40, .binOp .add 3 (.tmp 19) (.const (.int .i64 1)) 3, none⟩,
⟨some 19, .move (.tmp 40), none⟩]
def f31_l12 : LC := (.seq (.reg f31_r5 [] none) (.seq (.cond (.tmp 20) .skip (.exit 0)) (.seq (.block 1 (.seq (.reg f31_r6 [] none) (.seq (.rega f31_r7 [] 13) (.seq (.seq (.reg f31_r8 [] none) (.cond (.tmp 34) (.seq (.reg f31_r9 [] none) .ret) .skip)) (.reg f31_r10 [] none))))) (.reg f31_r11 [] none))))
def f31_i12 (t1 t6 t18 t19 : D) : List D := [.any, t1, .any, .any, .any, .any, t6, .any, .any, .any, .any, .any, .any, .any, .any, .any, .any, .any, t18, t19, .any, .any, .any, .any, .any, .any, .any, .any, .any, .any, .any, .any, .any, .any, .any, .any, .any, .any, .any, .any, .any, .any]
def f31_r13 : List LOp := [
⟨some 41, .move (.tmp 6), none⟩,
⟨some 4, .assign (.tmp 41), none⟩,
⟨some 5, .assign (.const (.int .i64 0)), none⟩]
def f31_c : LC := (.seq (.reg f31_r0 [] none) (.seq (.seq (.reg f31_r1 [] none) (.cond (.tmp 13) (.seq (.reg f31_r2 [] none) .ret) .skip)) (.seq (.reg f31_r3 [2] none) (.seq (.seq (.reg f31_r4 [] none) (.block 0 (.loop f31_l12))) (.seq (.reg f31_r13 [] none) .ret)))))
theorem f31_lc : Tryd.f31.body.map lc = some f31_c.st := by kernel_rfl
theorem f31_res : Tryd.f31.results.toList = [.tmp 4, .tmp 5] := by kernel_rfl
theorem f31_nt : Tryd.f31.ntmps = 42 := by kernel_rfl
theorem f31_nm : (Tryd.f31.name == "runtime.NumGoroutine") = false := by kernel_rfl
/-! slices.ContainsFunc[[]string,string] -/
/-! quill/read.Form$1 -/
/-! quill/set.Has -/
def f47_r0 : List LOp := [
⟨some 2, .box 24 (.tmp 0), none⟩,
⟨some 4, .assign (.const (.bool false)), none⟩]
def f47_r1 : List LOp := [
⟨some 5, .move (.tmp 1), none⟩,
⟨some 6, .binOp .quo 5 (.tmp 5) (.const (.int .u8 64)) 5, none⟩,
⟨some 7, .indexAddr 24 (.tmp 2) (.tmp 6), none⟩,
⟨some 8, .load 22 (.tmp 7), none⟩,
⟨some 9, .move (.tmp 1), none⟩,
⟨some 10, .binOp .rem 5 (.tmp 9) (.const (.int .u8 64)) 5, none⟩,
⟨some 11, .binOp .shr 22 (.tmp 8) (.tmp 10) 5, none⟩,
⟨some 12, .binOp .and 22 (.tmp 11) (.const (.int .u64 1)) 22, none⟩,
⟨some 13, .binOp .eql 22 (.tmp 12) (.const (.int .u64 1)) 22, none⟩,
⟨some 4, .assign (.tmp 13), none⟩]
def f47_c : LC := (.seq (.reg f47_r0 [] none) (.seq (.reg f47_r1 [] none) .ret))
theorem f47_lc : Tryd.f47.body.map lc = some f47_c.st := by kernel_rfl
theorem f47_res : Tryd.f47.results.toList = [.tmp 4] := by kernel_rfl
theorem f47_nt : Tryd.f47.ntmps = 14 := by kernel_rfl
theorem f47_nm : (Tryd.f47.name == "runtime.NumGoroutine") = false := by kernel_rfl
/-! (quill/match.places).join -/
def f48_r0 : List LOp := [
⟨some 4, .assign (.const (.bool false)), none⟩]
def f48_r1 : List LOp := [
⟨some 5, .assign (.const (.bool false)), none⟩]
def f48_r2 : List LOp := [
⟨some 8, .move (.tmp 1), none⟩,
⟨some 9, .call ⟨.builtin .len, #[.tmp 8], #[64]⟩, none⟩,
⟨some 10, .move (.const (.int .i64 0)), none⟩]
def f48_r3 : List LOp := [
⟨some 11, .binOp .lss 3 (.tmp 10) (.tmp 9) 3, none⟩]
def f48_r4 : List LOp := [
⟨some 12, .move (.tmp 10), none⟩,
⟨some 13, .indexAddr 64 (.tmp 8) (.tmp 10), none⟩,
⟨some 14, .load 4 (.tmp 13), none⟩,
⟨some 6, .assign (.tmp 12), none⟩,
⟨some 7, .assign (.tmp 14), none⟩]
def f48_r5 : List LOp := [
⟨some 15, .move (.tmp 5), none⟩,
⟨some 16, .move (.tmp 15), none⟩,
⟨some 17, .move (.tmp 7), some (1, false)⟩,
⟨some 18, .move (.tmp 17), some (1, false)⟩,
⟨some 19, .move (.tmp 0), some (3, true)⟩,
⟨some 20, .move (.tmp 6), some (3, true)⟩,
⟨some 21, .indexAddr 64 (.tmp 19) (.tmp 20), some (3, true)⟩,
⟨some 22, .load 4 (.tmp 21), some (3, true)⟩,
⟨some 23, .unOp .not 4 (.tmp 22), some (3, true)⟩,
⟨some 24, .pick (.tmp 18) (.tmp 23) (.const (.bool false)), some (1, false)⟩,
⟨some 25, .pick (.tmp 16) (.const (.bool true)) (.tmp 24), none⟩,
⟨some 5, .assign (.tmp 25), none⟩]
def f48_r6 : List LOp := [
⟨some 26, .move (.tmp 0), none⟩,
⟨some 27, .move (.tmp 6), none⟩,
⟨some 28, .move (.tmp 0), none⟩,
⟨some 29, .move (.tmp 6), none⟩,
⟨some 30, .indexAddr 64 (.tmp 28) (.tmp 29), none⟩,
⟨some 31, .load 4 (.tmp 30), none⟩,
⟨some 32, .move (.tmp 31), none⟩,
⟨some 33, .move (.tmp 7), some (6, false)⟩,
⟨some 34, .pick (.tmp 32) (.const (.bool true)) (.tmp 33), none⟩,
⟨some 35, .indexAddr 64 (.tmp 26) (.tmp 27), none⟩,
⟨none, .store 4 (.tmp 35) (.tmp 34), none⟩]
def f48_r7 : List LOp := [
⟨some 36, .binOp .add 3 (.tmp 10) (.const (.int .i64 1)) 3, none⟩,
⟨some 10, .move (.tmp 36), none⟩]
def f48_l8 : LC := (.seq (.reg f48_r3 [] none) (.seq (.cond (.tmp 11) .skip (.exit 0)) (.seq (.block 1 (.seq (.reg f48_r4 [] none) (.seq (.reg f48_r5 [] none) (.reg f48_r6 [] none)))) (.reg f48_r7 [] none))))
def f48_i8 (t0 t5 t8 t9 t10 : D) : List D := [t0, .any, .any, .any, .any, t5, .any, .any, t8, t9, t10, .any, .any, .any, .any, .any, .any, .any, .any, .any, .any, .any, .any, .any, .any, .any, .any, .any, .any, .any, .any, .any, .any, .any, .any, .any, .any, .any]
def f48_r9 : List LOp := [
⟨some 37, .move (.tmp 5), none⟩,
⟨some 4, .assign (.tmp 37), none⟩]
def f48_c : LC := (.seq (.reg f48_r0 [] none) (.seq (.reg f48_r1 [] none) (.seq (.seq (.reg f48_r2 [] none) (.block 0 (.loop f48_l8))) (.seq (.reg f48_r9 [] none) .ret))))
theorem f48_lc : Tryd.f48.body.map lc = some f48_c.st := by kernel_rfl
theorem f48_res : Tryd.f48.results.toList = [.tmp 4] := by kernel_rfl
theorem f48_nt : Tryd.f48.ntmps = 38 := by kernel_rfl
theorem f48_nm : (Tryd.f48.name == "runtime.NumGoroutine") = false := by kernel_rfl
/-! quill/norm.seq -/
def f49_r0 : List LOp := [
⟨some 2, .box 27 (.tmp 0), none⟩,
⟨some 3, .box 27 (.tmp 1), none⟩,
⟨some 4, .alloc 27, none⟩]
def f49_r1 : List LOp := [
⟨some 6, .fieldAddr 27 (.tmp 2) 0, none⟩,
⟨some 7, .load 5 (.tmp 6), none⟩,
⟨some 8, .binOp .eql 5 (.tmp 7) (.const (.int .u8 1)) 5, none⟩,
⟨some 9, .move (.tmp 8), none⟩,
⟨some 10, .fieldAddr 27 (.tmp 3) 0, some (3, false)⟩,
⟨some 11, .load 5 (.tmp 10), some (3, false)⟩,
⟨some 12, .binOp .eql 5 (.tmp 11) (.const (.int .u8 1)) 5, some (3, false)⟩,
⟨some 13, .pick (.tmp 9) (.const (.bool true)) (.tmp 12), none⟩,
⟨some 5, .assign (.tmp 13), none⟩]
def f49_r2 : List LOp := [
⟨some 14, .call ⟨.value (.func 56), #[.const (.slice none 0 0)], #[25]⟩, none⟩,
⟨none, .store 27 (.tmp 4) (.tmp 14), none⟩]
def f49_r3 : List LOp := [
⟨some 16, .fieldAddr 27 (.tmp 2) 0, none⟩,
⟨some 17, .load 5 (.tmp 16), none⟩,
⟨some 18, .binOp .eql 5 (.tmp 17) (.const (.int .u8 2)) 5, none⟩,
⟨some 15, .assign (.tmp 18), none⟩]
def f49_r4 : List LOp := [
⟨some 19, .load 27 (.tmp 3), none⟩,
⟨none, .store 27 (.tmp 4) (.tmp 19), none⟩]
def f49_r5 : List LOp := [
⟨some 21, .fieldAddr 27 (.tmp 3) 0, none⟩,
⟨some 22, .load 5 (.tmp 21), none⟩,
⟨some 23, .binOp .eql 5 (.tmp 22) (.const (.int .u8 2)) 5, none⟩,
⟨some 20, .assign (.tmp 23), none⟩]
def f49_r6 : List LOp := [
⟨some 24, .load 27 (.tmp 2), none⟩,
⟨none, .store 27 (.tmp 4) (.tmp 24), none⟩]
def f49_r7 : List LOp := [
⟨some 26, .fieldAddr 27 (.tmp 2) 0, none⟩,
⟨some 27, .load 5 (.tmp 26), none⟩,
⟨some 28, .binOp .eql 5 (.tmp 27) (.const (.int .u8 4)) 5, none⟩,
⟨some 25, .assign (.tmp 28), none⟩]
def f49_r8 : List LOp := [
⟨some 29, .fieldAddr 27 (.tmp 2) 2, none⟩,
⟨some 30, .load 25 (.tmp 29), none⟩,
⟨some 31, .indexAddr 25 (.tmp 30) (.const (.int .i64 0)), none⟩,
⟨some 32, .load 27 (.tmp 31), none⟩,
⟨some 33, .fieldAddr 27 (.tmp 2) 2, none⟩,
⟨some 34, .load 25 (.tmp 33), none⟩,
⟨some 35, .indexAddr 25 (.tmp 34) (.const (.int .i64 1)), none⟩,
⟨some 36, .load 27 (.tmp 35), none⟩,
⟨some 37, .load 27 (.tmp 3), none⟩,
⟨some 38, .call ⟨.value (.func 49), #[.tmp 36, .tmp 37], #[27, 27]⟩, none⟩,
⟨some 39, .call ⟨.value (.func 49), #[.tmp 32, .tmp 38], #[27, 27]⟩, none⟩,
⟨none, .store 27 (.tmp 4) (.tmp 39), none⟩]
def f49_r9 : List LOp := [
⟨some 40, .load 27 (.tmp 2), none⟩,
⟨some 41, .load 27 (.tmp 3), none⟩,
⟨some 42, .buildSlice 25 2 #[(0, .tmp 40), (1, .tmp 41)], none⟩,
⟨some 43, .call ⟨.value (.func 67), #[.tmp 42], #[25]⟩, none⟩,
⟨none, .store 27 (.tmp 4) (.tmp 43), none⟩]
def f49_c : LC := (.seq (.reg f49_r0 [] none) (.seq (.block 0 (.seq (.reg f49_r1 [] none) (.cond (.tmp 5) (.seq (.reg f49_r2 [] none) .ret) (.seq (.reg f49_r3 [] none) (.cond (.tmp 15) (.seq (.reg f49_r4 [] none) .ret) (.seq (.reg f49_r5 [] none) (.cond (.tmp 20) (.seq (.reg f49_r6 [] none) .ret) (.seq (.reg f49_r7 [] none) (.cond (.tmp 25) (.seq (.reg f49_r8 [] (some 10)) .ret) .skip))))))))) (.seq (.reg f49_r9 [] none) .ret)))
theorem f49_lc : Tryd.f49.body.map lc = some f49_c.st := by kernel_rfl
theorem f49_res : Tryd.f49.results.toList = [.cell 4 27] := by kernel_rfl
theorem f49_nt : Tryd.f49.ntmps = 44 := by kernel_rfl
theorem f49_nm : (Tryd.f49.name == "runtime.NumGoroutine") = false := by kernel_rfl
/-! quill/norm.alt -/
def f50_r0 : List LOp := [
⟨some 2, .alloc 27, none⟩]
def f50_r1 : List LOp := [
⟨some 3, .alloc 24, none⟩]
def f50_r2 : List LOp := [
⟨some 5, .move (.tmp 0), none⟩,
⟨some 6, .call ⟨.value (.func 69), #[.tmp 5], #[25]⟩, none⟩,
⟨some 7, .makeFunc (.func 70) #[] #[.tmp 3], none⟩,
⟨some 8, .call ⟨.value (.func 68), #[.tmp 6, .tmp 7], #[25, 30]⟩, none⟩,
⟨some 4, .assign (.tmp 8), none⟩]
def f50_r3 : List LOp := [
⟨some 9, .load 24 (.tmp 3), none⟩,
⟨some 10, .build 24 #[], none⟩,
⟨some 11, .binOp .neq 24 (.tmp 9) (.tmp 10) 24, none⟩]
def f50_r4 : List LOp := [
⟨some 12, .move (.tmp 4), none⟩,
⟨some 13, .load 24 (.tmp 3), none⟩,
⟨some 14, .call ⟨.value (.func 72), #[.tmp 13], #[24]⟩, none⟩,
⟨some 15, .buildSlice 25 1 #[(0, .tmp 14)], none⟩,
⟨some 16, .call ⟨.builtin .append, #[.tmp 12, .tmp 15], #[25, 25]⟩, none⟩,
⟨some 4, .assign (.tmp 16), none⟩]
def f50_r5 : List LOp := [
⟨some 17, .move (.tmp 4), none⟩,
⟨some 18, .call ⟨.value (.func 74), #[.tmp 17], #[25]⟩, none⟩,
⟨some 19, .call ⟨.value (.func 73), #[.tmp 18], #[25]⟩, none⟩,
⟨some 20, .call ⟨.value (.func 56), #[.tmp 19], #[25]⟩, none⟩,
⟨none, .store 27 (.tmp 2) (.tmp 20), none⟩]
def f50_c : LC := (.seq (.reg f50_r0 [] none) (.seq (.reg f50_r1 [] none) (.seq (.reg f50_r2 [] none) (.seq (.seq (.reg f50_r3 [] none) (.cond (.tmp 11) (.reg f50_r4 [] none) .skip)) (.seq (.reg f50_r5 [] none) .ret)))))
theorem f50_lc : Tryd.f50.body.map lc = some f50_c.st := by kernel_rfl
theorem f50_res : Tryd.f50.results.toList = [.cell 2 27] := by kernel_rfl
theorem f50_nt : Tryd.f50.ntmps = 21 := by kernel_rfl
theorem f50_nm : (Tryd.f50.name == "runtime.NumGoroutine") = false := by kernel_rfl
/-! quill/norm.star -/
def f51_r0 : List LOp := [
⟨some 1, .box 27 (.tmp 0), none⟩,
⟨some 2, .alloc 27, none⟩]
def f51_r1 : List LOp := [
⟨some 3, .fieldAddr 27 (.tmp 1) 0, none⟩,
⟨some 4, .load 5 (.tmp 3), none⟩]
def f51_r2 : List LOp := [
⟨some 6, .binOp .eql 5 (.tmp 4) (.const (.int .u8 1)) 5, none⟩,
⟨some 5, .assign (.tmp 6), none⟩]
def f51_r3 : List LOp := [
⟨some 7, .binOp .eql 5 (.tmp 4) (.const (.int .u8 2)) 5, none⟩,
⟨some 5, .assign (.tmp 7), none⟩]
def f51_r4 : List LOp := [
⟨some 8, .call ⟨.value (.func 67), #[.const (.slice none 0 0)], #[25]⟩, none⟩,
⟨none, .store 27 (.tmp 2) (.tmp 8), none⟩]
def f51_r5 : List LOp := [
⟨some 10, .binOp .eql 5 (.tmp 4) (.const (.int .u8 6)) 5, none⟩,
⟨some 9, .assign (.tmp 10), none⟩]
def f51_r6 : List LOp := [
⟨some 11, .load 27 (.tmp 1), none⟩,
⟨none, .store 27 (.tmp 2) (.tmp 11), none⟩]
def f51_r7 : List LOp := [
⟨some 12, .load 27 (.tmp 1), none⟩,
⟨some 13, .call ⟨.value (.func 75), #[.tmp 12], #[27]⟩, none⟩,
⟨none, .store 27 (.tmp 2) (.tmp 13), none⟩]
def f51_c : LC := (.seq (.reg f51_r0 [] none) (.seq (.seq (.reg f51_r1 [] none) (.block 0 (.seq (.seq (.reg f51_r2 [] none) (.cond (.tmp 5) .skip (.reg f51_r3 [] none))) (.cond (.tmp 5) (.seq (.reg f51_r4 [] none) .ret) (.seq (.reg f51_r5 [] none) (.cond (.tmp 9) (.seq (.reg f51_r6 [] none) .ret) .skip)))))) (.seq (.reg f51_r7 [] none) .ret)))
theorem f51_lc : Tryd.f51.body.map lc = some f51_c.st := by kernel_rfl
theorem f51_res : Tryd.f51.results.toList = [.cell 2 27] := by kernel_rfl
theorem f51_nt : Tryd.f51.ntmps = 14 := by kernel_rfl
theorem f51_nm : (Tryd.f51.name == "runtime.NumGoroutine") = false := by kernel_rfl
/-! quill/deriv.Step -/
def f52_r0 : List LOp := [
⟨some 2, .box 27 (.tmp 0), none⟩,
⟨some 4, .alloc 27, none⟩,
⟨some 5, .assign (.const (.int .i64 0)), none⟩]
def f52_r1 : List LOp := [
⟨some 9, .load 27 (.tmp 2), none⟩,
⟨some 10, .call ⟨.value (.func 16), #[.tmp 9], #[27]⟩, none⟩,
⟨some 11, .move (.tmp 1), none⟩,
⟨some 12, .call ⟨.value (.func 76), #[.tmp 10, .tmp 11], #[27, 5]⟩, none⟩,
⟨some 8, .move (.tmp 12), none⟩,
⟨some 13, .extract (.tmp 8) 0, none⟩,
⟨some 14, .extract (.tmp 8) 1, none⟩,
⟨some 6, .alloc 27, none⟩,
⟨none, .store 27 (.tmp 6) (.tmp 13), none⟩,
⟨some 7, .assign (.tmp 14), none⟩]
def f52_r2 : List LOp := [
⟨some 15, .move (.tmp 7), none⟩,
⟨some 16, .binOp .neq 31 (.tmp 15) (.const (.int .i64 0)) 31, none⟩]
def f52_r3 : List LOp := [
⟨some 17, .build 27 #[], none⟩,
⟨some 18, .move (.tmp 7), none⟩,
⟨none, .store 27 (.tmp 4) (.tmp 17), none⟩,
⟨some 5, .assign (.tmp 18), none⟩]
def f52_r4 : List LOp := [
⟨some 19, .load 27 (.tmp 6), none⟩,
⟨some 20, .call ⟨.value (.func 16), #[.tmp 19], #[27]⟩, none⟩,
⟨none, .store 27 (.tmp 4) (.tmp 20), none⟩,
⟨some 5, .assign (.const (.int .i64 0)), none⟩]
def f52_c : LC := (.seq (.reg f52_r0 [] none) (.seq (.reg f52_r1 [] none) (.seq (.seq (.reg f52_r2 [] none) (.cond (.tmp 16) (.seq (.reg f52_r3 [] none) .ret) .skip)) (.seq (.reg f52_r4 [] none) .ret))))
theorem f52_lc : Tryd.f52.body.map lc = some f52_c.st := by kernel_rfl
theorem f52_res : Tryd.f52.results.toList = [.cell 4 27, .tmp 5] := by kernel_rfl
theorem f52_nt : Tryd.f52.ntmps = 21 := by kernel_rfl
theorem f52_nm : (Tryd.f52.name == "runtime.NumGoroutine") = false := by kernel_rfl
/-! slices.IndexFunc[[]string,string] -/
/-! slices.DeleteFunc[[]quill/api.Re,quill/api.Re] -/
def f68_r0 : List LOp := [
⟨some 4, .assign (.const (.slice none 0 0)), none⟩]
def f68_r1 : List LOp := [
⟨some 8, .move (.tmp 0), none⟩,
⟨some 9, .move (.tmp 1), none⟩,
⟨some 10, .call ⟨.value (.func 57), #[.tmp 8, .tmp 9], #[25, 30]⟩, none⟩,
⟨some 5, .assign (.tmp 10), none⟩]
def f68_r2 : List LOp := [
⟨some 11, .move (.tmp 5), none⟩,
⟨some 12, .binOp .eql 3 (.tmp 11) (.const (.int .i64 (-1))) 3, none⟩]
def f68_r3 : List LOp := [
⟨some 13, .move (.tmp 0), none⟩,
⟨some 4, .assign (.tmp 13), none⟩]
def f68_r4 : List LOp := [
⟨some 14, .move (.tmp 5), none⟩,
⟨some 15, .binOp .add 3 (.tmp 14) (.const (.int .i64 1)) 3, none⟩,
⟨some 6, .assign (.tmp 15), none⟩]
def f68_r5 : List LOp := [
⟨some 16, .move (.tmp 6), none⟩,
⟨some 17, .move (.tmp 0), none⟩,
⟨some 18, .call ⟨.builtin .len, #[.tmp 17], #[25]⟩, none⟩,
⟨some 19, .binOp .lss 3 (.tmp 16) (.tmp 18) 3, none⟩]
def f68_r6 : List LOp := [
⟨some 22, .move (.tmp 0), none⟩,
⟨some 23, .move (.tmp 6), none⟩,
⟨some 24, .indexAddr 25 (.tmp 22) (.tmp 23), none⟩,
⟨some 25, .load 27 (.tmp 24), none⟩,
⟨some 7, .alloc 27, none⟩,
⟨none, .store 27 (.tmp 7) (.tmp 25), none⟩]
def f68_r7 : List LOp := [
⟨some 26, .move (.tmp 1), none⟩,
⟨some 27, .load 27 (.tmp 7), none⟩,
⟨some 28, .call ⟨.value (.tmp 26), #[.tmp 27], #[27]⟩, none⟩,
⟨some 29, .unOp .not 4 (.tmp 28), none⟩]
def f68_r8 : List LOp := [
⟨some 30, .move (.tmp 0), none⟩,
⟨some 31, .move (.tmp 5), none⟩,
⟨some 32, .load 27 (.tmp 7), none⟩,
⟨some 33, .indexAddr 25 (.tmp 30) (.tmp 31), none⟩,
⟨none, .store 27 (.tmp 33) (.tmp 32), none⟩]
def f68_r9 : List LOp := [
⟨some 34, .move (.tmp 5), none⟩,
⟨some 35, .binOp .add 3 (.tmp 34) (.const (.int .i64 1)) 3, none⟩,
⟨some 5, .assign (.tmp 35), none⟩]
def f68_r10 : List LOp := [
⟨some 20, .move (.tmp 6), none⟩,
⟨some 21, .binOp .add 3 (.tmp 20) (.const (.int .i64 1)) 3, none⟩,
⟨some 6, .assign (.tmp 21), none⟩]
def f68_l11 : LC := (.seq (.seq (.reg f68_r5 [] none) (.cond (.tmp 19) .skip (.exit 0))) (.seq (.block 1 (.seq (.reg f68_r6 [] none) (.seq (.reg f68_r7 [] none) (.cond (.tmp 29) (.seq (.reg f68_r8 [] none) (.reg f68_r9 [] none)) .skip)))) (.reg f68_r10 [] none)))
def f68_i11 (t0 t1 t5 t6 : D) : List D := [t0, t1, .any, .any, .any, t5, t6, .any, .any, .any, .any, .any, .any, .any, .any, .any, .any, .any, .any, .any, .any, .any, .any, .any, .any, .any, .any, .any, .any, .any, .any, .any, .any, .any, .any, .any, .any, .any, .any, .any, .any, .any]
def f68_r12 : List LOp := [
⟨some 36, .move (.tmp 0), none⟩,
⟨some 37, .move (.tmp 5), none⟩,
⟨some 38, .slice 25 (.tmp 36) (some (.tmp 37)) none none, none⟩,
⟨none, .call ⟨.builtin .clear, #[.tmp 38], #[25]⟩, none⟩]
def f68_r13 : List LOp := [
⟨some 39, .move (.tmp 0), none⟩,
⟨some 40, .move (.tmp 5), none⟩,
⟨some 41, .slice 25 (.tmp 39) none (some (.tmp 40)) none, none⟩,
⟨some 4, .assign (.tmp 41), none⟩]
def f68_c : LC := (.seq (.reg f68_r0 [] none) (.seq (.reg f68_r1 [] none) (.seq (.seq (.reg f68_r2 [] none) (.cond (.tmp 12) (.seq (.reg f68_r3 [] none) .ret) .skip)) (.seq (.seq (.reg f68_r4 [] none) (.block 0 (.loop f68_l11))) (.seq (.reg f68_r12 [] none) (.seq (.reg f68_r13 [] none) .ret))))))
theorem f68_lc : Tryd.f68.body.map lc = some f68_c.st := by kernel_rfl
theorem f68_res : Tryd.f68.results.toList = [.tmp 4] := by kernel_rfl
theorem f68_nt : Tryd.f68.ntmps = 42 := by kernel_rfl
theorem f68_nm : (Tryd.f68.name == "runtime.NumGoroutine") = false := by kernel_rfl
/-! quill/norm.flat -/
def f69_r0 : List LOp := [
⟨some 2, .assign (.const (.slice none 0 0)), none⟩]
def f69_r1 : List LOp := [
⟨some 3, .assign (.const (.slice none 0 0)), none⟩]
def f69_r2 : List LOp := [
⟨some 6, .move (.tmp 0), none⟩,
⟨some 7, .call ⟨.builtin .len, #[.tmp 6], #[25]⟩, none⟩,
⟨some 8, .move (.const (.int .i64 0)), none⟩]
def f69_r3 : List LOp := [
⟨some 9, .binOp .lss 3 (.tmp 8) (.tmp 7) 3, none⟩]
def f69_r4 : List LOp := [
⟨some 10, .indexAddr 25 (.tmp 6) (.tmp 8), none⟩,
⟨some 11, .load 27 (.tmp 10), none⟩,
⟨some 5, .alloc 27, none⟩,
⟨none, .store 27 (.tmp 5) (.tmp 11), none⟩]
def f69_r5 : List LOp := [
⟨some 12, .fieldAddr 27 (.tmp 5) 0, none⟩,
⟨some 13, .load 5 (.tmp 12), none⟩]
def f69_r6 : List LOp := [
⟨some 19, .binOp .eql 5 (.tmp 13) (.const (.int .u8 1)) 5, none⟩,
⟨some 18, .assign (.tmp 19), none⟩]
def f69_r7 : List LOp := [
⟨some 21, .binOp .eql 5 (.tmp 13) (.const (.int .u8 5)) 5, none⟩,
⟨some 20, .assign (.tmp 21), none⟩]
def f69_r8 : List LOp := [
⟨some 22, .move (.tmp 3), none⟩,
⟨some 23, .fieldAddr 27 (.tmp 5) 2, none⟩,
⟨some 24, .load 25 (.tmp 23), none⟩,
⟨some 25, .call ⟨.value (.func 69), #[.tmp 24], #[25]⟩, none⟩,
⟨some 26, .call ⟨.builtin .append, #[.tmp 22, .tmp 25], #[25, 25]⟩, none⟩,
⟨some 3, .assign (.tmp 26), none⟩]
def f69_r9 : List LOp := [
⟨some 14, .move (.tmp 3), none⟩,
⟨some 15, .load 27 (.tmp 5), none⟩,
⟨some 16, .buildSlice 25 1 #[(0, .tmp 15)], none⟩,
⟨some 17, .call ⟨.builtin .append, #[.tmp 14, .tmp 16], #[25, 25]⟩, none⟩,
⟨some 3, .assign (.tmp 17), none⟩]
def f69_r10 : List LOp := [
⟨some 27, .binOp .add 3 (.tmp 8) (.const (.int .i64 1)) 3, none⟩,
⟨some 8, .move (.tmp 27), none⟩]
def f69_l11 : LC := (.seq (.reg f69_r3 [] none) (.seq (.cond (.tmp 9) .skip (.exit 0)) (.seq (.block 1 (.seq (.reg f69_r4 [] none) (.seq (.reg f69_r5 [] none) (.block 2 (.seq (.reg f69_r6 [] none) (.cond (.tmp 18) .skip (.seq (.reg f69_r7 [] none) (.cond (.tmp 20) (.reg f69_r8 [] none) (.reg f69_r9 [] none))))))))) (.reg f69_r10 [] none))))
def f69_i11 (t3 t6 t7 t8 : D) : List D := [.any, .any, .any, t3, .any, .any, t6, t7, t8, .any, .any, .any, .any, .any, .any, .any, .any, .any, .any, .any, .any, .any, .any, .any, .any, .any, .any, .any, .any]
def f69_r12 : List LOp := [
⟨some 28, .move (.tmp 3), none⟩,
⟨some 2, .assign (.tmp 28), none⟩]
def f69_c : LC := (.seq (.reg f69_r0 [] none) (.seq (.reg f69_r1 [] none) (.seq (.seq (.reg f69_r2 [] none) (.block 0 (.loop f69_l11))) (.seq (.reg f69_r12 [] none) .ret))))
theorem f69_lc : Tryd.f69.body.map lc = some f69_c.st := by kernel_rfl
theorem f69_res : Tryd.f69.results.toList = [.tmp 2] := by kernel_rfl
theorem f69_nt : Tryd.f69.ntmps = 29 := by kernel_rfl
theorem f69_nm : (Tryd.f69.name == "runtime.NumGoroutine") = false := by kernel_rfl
/-! quill/norm.alt$1 -/
def f70_r0 : List LOp := [
⟨some 2, .box 27 (.tmp 0), none⟩,
⟨some 3, .assign (.const (.bool false)), none⟩]
def f70_r1 : List LOp := [
⟨some 4, .fieldAddr 27 (.tmp 2) 0, none⟩,
⟨some 5, .load 5 (.tmp 4), none⟩,
⟨some 6, .binOp .eql 5 (.tmp 5) (.const (.int .u8 3)) 5, none⟩]
def f70_r2 : List LOp := [
⟨some 7, .load 24 (.tmp 1), none⟩,
⟨some 8, .fieldAddr 27 (.tmp 2) 1, none⟩,
⟨some 9, .load 24 (.tmp 8), none⟩,
⟨some 10, .buildSlice 111 2 #[(0, .tmp 7), (1, .tmp 9)], none⟩,
⟨some 11, .call ⟨.value (.func 71), #[.tmp 10], #[111]⟩, none⟩,
⟨none, .store 24 (.tmp 1) (.tmp 11), none⟩]
def f70_r3 : List LOp := [
⟨some 12, .fieldAddr 27 (.tmp 2) 0, none⟩,
⟨some 13, .load 5 (.tmp 12), none⟩,
⟨some 14, .binOp .eql 5 (.tmp 13) (.const (.int .u8 3)) 5, none⟩,
⟨some 3, .assign (.tmp 14), none⟩]
def f70_c : LC := (.seq (.reg f70_r0 [] none) (.seq (.seq (.reg f70_r1 [] none) (.cond (.tmp 6) (.reg f70_r2 [] none) .skip)) (.seq (.reg f70_r3 [] none) .ret)))
theorem f70_lc : Tryd.f70.body.map lc = some f70_c.st := by kernel_rfl
theorem f70_res : Tryd.f70.results.toList = [.tmp 3] := by kernel_rfl
theorem f70_nt : Tryd.f70.ntmps = 15 := by kernel_rfl
theorem f70_nm : (Tryd.f70.name == "runtime.NumGoroutine") = false := by kernel_rfl
/-! quill/order.Once -/
def f73_r0 : List LOp := [
⟨some 2, .assign (.const (.slice none 0 0)), none⟩]
def f73_r1 : List LOp := [
⟨some 3, .assign (.const (.slice none 0 0)), none⟩]
def f73_r2 : List LOp := [
⟨some 6, .move (.tmp 0), none⟩,
⟨some 7, .call ⟨.builtin .len, #[.tmp 6], #[25]⟩, none⟩,
⟨some 8, .move (.const (.int .i64 0)), none⟩]
def f73_r3 : List LOp := [
⟨some 9, .binOp .lss 3 (.tmp 8) (.tmp 7) 3, none⟩]
def f73_r4 : List LOp := [
⟨some 10, .indexAddr 25 (.tmp 6) (.tmp 8), none⟩,
⟨some 11, .load 27 (.tmp 10), none⟩,
⟨some 5, .alloc 27, none⟩,
⟨none, .store 27 (.tmp 5) (.tmp 11), none⟩]
def f73_r5 : List LOp := [
⟨some 12, .move (.tmp 3), none⟩,
⟨some 13, .makeFunc (.func 85) #[] #[.tmp 5], none⟩,
⟨some 14, .call ⟨.value (.func 36), #[.tmp 12, .tmp 13], #[25, 30]⟩, none⟩,
⟨some 15, .unOp .not 4 (.tmp 14), none⟩]
def f73_r6 : List LOp := [
⟨some 16, .move (.tmp 3), none⟩,
⟨some 17, .load 27 (.tmp 5), none⟩,
⟨some 18, .buildSlice 25 1 #[(0, .tmp 17)], none⟩,
⟨some 19, .call ⟨.builtin .append, #[.tmp 16, .tmp 18], #[25, 25]⟩, none⟩,
⟨some 3, .assign (.tmp 19), none⟩]
def f73_r7 : List LOp := [
⟨some 20, .binOp .add 3 (.tmp 8) (.const (.int .i64 1)) 3, none⟩,
⟨some 8, .move (.tmp 20), none⟩]
def f73_l8 : LC := (.seq (.reg f73_r3 [] none) (.seq (.cond (.tmp 9) .skip (.exit 0)) (.seq (.block 1 (.seq (.reg f73_r4 [] none) (.seq (.reg f73_r5 [] none) (.cond (.tmp 15) (.reg f73_r6 [] none) .skip)))) (.reg f73_r7 [] none))))
def f73_i8 (t3 t6 t7 t8 : D) : List D := [.any, .any, .any, t3, .any, .any, t6, t7, t8, .any, .any, .any, .any, .any, .any, .any, .any, .any, .any, .any, .any, .any]
def f73_r9 : List LOp := [
⟨some 21, .move (.tmp 3), none⟩,
⟨some 2, .assign (.tmp 21), none⟩]
def f73_c : LC := (.seq (.reg f73_r0 [] none) (.seq (.reg f73_r1 [] none) (.seq (.seq (.reg f73_r2 [] none) (.block 0 (.loop f73_l8))) (.seq (.reg f73_r9 [] none) .ret))))
theorem f73_lc : Tryd.f73.body.map lc = some f73_c.st := by kernel_rfl
theorem f73_res : Tryd.f73.results.toList = [.tmp 2] := by kernel_rfl
theorem f73_nt : Tryd.f73.ntmps = 22 := by kernel_rfl
theorem f73_nm : (Tryd.f73.name == "runtime.NumGoroutine") = false := by kernel_rfl
/-! quill/order.Sort -/
def f74_r0 : List LOp := [
⟨some 2, .assign (.const (.slice none 0 0)), none⟩]
def f74_r1 : List LOp := [
⟨some 3, .move (.tmp 0), none⟩,
⟨some 4, .call ⟨.value (.func 88), #[.tmp 3], #[25]⟩, none⟩,
⟨some 5, .call ⟨.value (.func 87), #[.tmp 4, .func 86], #[115, 112]⟩, none⟩,
⟨some 2, .assign (.tmp 5), none⟩]
def f74_c : LC := (.seq (.reg f74_r0 [] none) (.seq (.reg f74_r1 [] none) .ret))
theorem f74_lc : Tryd.f74.body.map lc = some f74_c.st := by kernel_rfl
theorem f74_res : Tryd.f74.results.toList = [.tmp 2] := by kernel_rfl
theorem f74_nt : Tryd.f74.ntmps = 6 := by kernel_rfl
theorem f74_nm : (Tryd.f74.name == "runtime.NumGoroutine") = false := by kernel_rfl
/-! quill/deriv.Plain -/
def f76_r0 : List LOp := [
⟨some 2, .box 27 (.tmp 0), none⟩,
⟨some 4, .alloc 27, none⟩,
⟨some 5, .assign (.const (.int .i64 0)), none⟩]
def f76_r1 : List LOp := [
⟨some 7, .load 27 (.tmp 2), none⟩,
⟨some 8, .buildSlice 25 1 #[(0, .tmp 7)], none⟩,
⟨some 9, .call ⟨.value (.func 23), #[.tmp 8], #[25]⟩, none⟩,
⟨some 10, .unOp .not 4 (.tmp 9), none⟩]
def f76_r2 : List LOp := [
⟨some 11, .build 27 #[], none⟩,
⟨none, .store 27 (.tmp 4) (.tmp 11), none⟩,
⟨some 5, .assign (.const (.int .i64 1)), none⟩]
def f76_r3 : List LOp := [
⟨some 12, .load 27 (.tmp 2), none⟩,
⟨some 13, .move (.tmp 1), none⟩,
⟨some 14, .call ⟨.value (.func 89), #[.tmp 12, .tmp 13], #[27, 5]⟩, none⟩,
⟨some 6, .alloc 27, none⟩,
⟨none, .store 27 (.tmp 6) (.tmp 14), none⟩]
def f76_r4 : List LOp := [
⟨some 15, .load 27 (.tmp 6), none⟩,
⟨some 16, .buildSlice 25 1 #[(0, .tmp 15)], none⟩,
⟨some 17, .call ⟨.value (.func 23), #[.tmp 16], #[25]⟩, none⟩,
⟨some 18, .unOp .not 4 (.tmp 17), none⟩]
def f76_r5 : List LOp := [
⟨some 19, .build 27 #[], none⟩,
⟨none, .store 27 (.tmp 4) (.tmp 19), none⟩,
⟨some 5, .assign (.const (.int .i64 4)), none⟩]
def f76_r6 : List LOp := [
⟨some 20, .load 27 (.tmp 6), none⟩,
⟨none, .store 27 (.tmp 4) (.tmp 20), none⟩,
⟨some 5, .assign (.const (.int .i64 0)), none⟩]
def f76_c : LC := (.seq (.reg f76_r0 [] none) (.seq (.seq (.reg f76_r1 [] none) (.cond (.tmp 10) (.seq (.reg f76_r2 [] none) .ret) .skip)) (.seq (.reg f76_r3 [] none) (.seq (.seq (.reg f76_r4 [] none) (.cond (.tmp 18) (.seq (.reg f76_r5 [] none) .ret) .skip)) (.seq (.reg f76_r6 [] none) .ret)))))
theorem f76_lc : Tryd.f76.body.map lc = some f76_c.st := by kernel_rfl
theorem f76_res : Tryd.f76.results.toList = [.cell 4 27, .tmp 5] := by kernel_rfl
theorem f76_nt : Tryd.f76.ntmps = 21 := by kernel_rfl
theorem f76_nm : (Tryd.f76.name == "runtime.NumGoroutine") = false := by kernel_rfl
/-! quill/order.Once$1 -/
def f85_r0 : List LOp := [
⟨some 2, .box 27 (.tmp 0), none⟩,
⟨some 3, .assign (.const (.bool false)), none⟩]
def f85_r1 : List LOp := [
⟨some 4, .load 27 (.tmp 2), none⟩,
⟨some 5, .load 27 (.tmp 1), none⟩,
⟨some 6, .call ⟨.value (.func 86), #[.tmp 4, .tmp 5], #[27, 27]⟩, none⟩,
⟨some 7, .binOp .eql 3 (.tmp 6) (.const (.int .i64 0)) 3, none⟩,
⟨some 3, .assign (.tmp 7), none⟩]
def f85_c : LC := (.seq (.reg f85_r0 [] none) (.seq (.reg f85_r1 [] none) .ret))
theorem f85_lc : Tryd.f85.body.map lc = some f85_c.st := by kernel_rfl
theorem f85_res : Tryd.f85.results.toList = [.tmp 3] := by kernel_rfl
theorem f85_nt : Tryd.f85.ntmps = 8 := by kernel_rfl
theorem f85_nm : (Tryd.f85.name == "runtime.NumGoroutine") = false := by kernel_rfl
/-! quill/order.Two -/
def f86_r0 : List LOp := [
⟨some 2, .box 27 (.tmp 0), none⟩,
⟨some 3, .box 27 (.tmp 1), none⟩,
⟨some 4, .assign (.const (.int .i64 0)), none⟩]
def f86_r1 : List LOp := [
⟨some 5, .fieldAddr 27 (.tmp 2) 0, none⟩,
⟨some 6, .load 5 (.tmp 5), none⟩,
⟨some 7, .fieldAddr 27 (.tmp 3) 0, none⟩,
⟨some 8, .load 5 (.tmp 7), none⟩,
⟨some 9, .call ⟨.value (.func 95), #[.tmp 6, .tmp 8], #[5, 5]⟩, none⟩,
⟨some 10, .fieldAddr 27 (.tmp 2) 1, none⟩,
⟨some 11, .load 24 (.tmp 10), none⟩,
⟨some 12, .fieldAddr 27 (.tmp 3) 1, none⟩,
⟨some 13, .load 24 (.tmp 12), none⟩,
⟨some 14, .call ⟨.value (.func 96), #[.tmp 11, .tmp 13], #[24, 24]⟩, none⟩,
⟨some 15, .fieldAddr 27 (.tmp 2) 2, none⟩,
⟨some 16, .load 25 (.tmp 15), none⟩,
⟨some 17, .fieldAddr 27 (.tmp 3) 2, none⟩,
⟨some 18, .load 25 (.tmp 17), none⟩,
⟨some 19, .call ⟨.value (.func 97), #[.tmp 16, .tmp 18, .func 86], #[25, 25, 112]⟩, none⟩,
⟨some 20, .buildSlice 37 3 #[(0, .tmp 9), (1, .tmp 14), (2, .tmp 19)], none⟩,
⟨some 21, .call ⟨.value (.func 94), #[.tmp 20], #[37]⟩, none⟩,
⟨some 4, .assign (.tmp 21), none⟩]
def f86_c : LC := (.seq (.reg f86_r0 [] none) (.seq (.reg f86_r1 [] (some 14)) .ret))
theorem f86_lc : Tryd.f86.body.map lc = some f86_c.st := by kernel_rfl
theorem f86_res : Tryd.f86.results.toList = [.tmp 4] := by kernel_rfl
theorem f86_nt : Tryd.f86.ntmps = 22 := by kernel_rfl
theorem f86_nm : (Tryd.f86.name == "runtime.NumGoroutine") = false := by kernel_rfl
/-! slices.SortedStableFunc[quill/api.Re] -/
def f87_r0 : List LOp := [
⟨some 4, .assign (.const (.slice none 0 0)), none⟩]
def f87_r1 : List LOp := [
⟨some 6, .move (.tmp 0), none⟩,
⟨some 7, .call ⟨.value (.func 98), #[.tmp 6], #[115]⟩, none⟩,
⟨some 5, .assign (.tmp 7), none⟩]
def f87_r2 : List LOp := [
⟨some 8, .move (.tmp 5), none⟩,
⟨some 9, .move (.tmp 1), none⟩,
⟨some 10, .call ⟨.value (.func 99), #[.tmp 8, .tmp 9], #[25, 112]⟩, none⟩]
def f87_r3 : List LOp := [
⟨some 11, .move (.tmp 5), none⟩,
⟨some 4, .assign (.tmp 11), none⟩]
def f87_c : LC := (.seq (.reg f87_r0 [] none) (.seq (.reg f87_r1 [] none) (.seq (.reg f87_r2 [] none) (.seq (.reg f87_r3 [] none) .ret))))
theorem f87_lc : Tryd.f87.body.map lc = some f87_c.st := by kernel_rfl
theorem f87_res : Tryd.f87.results.toList = [.tmp 4] := by kernel_rfl
theorem f87_nt : Tryd.f87.ntmps = 12 := by kernel_rfl
theorem f87_nm : (Tryd.f87.name == "runtime.NumGoroutine") = false := by kernel_rfl
/-! slices.Values[[]quill/api.Re,quill/api.Re] -/
def f88_r0 : List LOp := [
⟨some 1, .box 25 (.tmp 0), none⟩,
⟨some 2, .assign (.const .nilFunc), none⟩]
def f88_r1 : List LOp := [
⟨some 3, .makeFunc (.func 100) #[] #[.tmp 1], none⟩,
⟨some 2, .assign (.tmp 3), none⟩]
def f88_c : LC := (.seq (.reg f88_r0 [] none) (.seq (.reg f88_r1 [] none) .ret))
theorem f88_lc : Tryd.f88.body.map lc = some f88_c.st := by kernel_rfl
theorem f88_res : Tryd.f88.results.toList = [.tmp 2] := by kernel_rfl
theorem f88_nt : Tryd.f88.ntmps = 4 := by kernel_rfl
theorem f88_nm : (Tryd.f88.name == "runtime.NumGoroutine") = false := by kernel_rfl
/-! quill/deriv.plain -/
def f89_r0 : List LOp := [
⟨some 2, .box 27 (.tmp 0), none⟩,
⟨some 4, .alloc 27, none⟩]
def f89_r1 : List LOp := [
⟨some 8, .fieldAddr 27 (.tmp 2) 0, none⟩,
⟨some 9, .load 5 (.tmp 8), none⟩]
def f89_r2 : List LOp := [
⟨some 11, .binOp .eql 5 (.tmp 9) (.const (.int .u8 3)) 5, none⟩,
⟨some 10, .assign (.tmp 11), none⟩]
def f89_r3 : List LOp := [
⟨some 12, .fieldAddr 27 (.tmp 2) 1, none⟩,
⟨some 13, .load 24 (.tmp 12), none⟩,
⟨some 14, .move (.tmp 1), none⟩,
⟨some 15, .call ⟨.value (.func 47), #[.tmp 13, .tmp 14], #[24, 5]⟩, none⟩]
def f89_r4 : List LOp := [
⟨some 16, .call ⟨.value (.func 67), #[.const (.slice none 0 0)], #[25]⟩, none⟩,
⟨none, .store 27 (.tmp 4) (.tmp 16), none⟩]
def f89_r5 : List LOp := [
⟨some 18, .binOp .eql 5 (.tmp 9) (.const (.int .u8 4)) 5, none⟩,
⟨some 17, .assign (.tmp 18), none⟩]
def f89_r6 : List LOp := [
⟨some 19, .fieldAddr 27 (.tmp 2) 2, none⟩,
⟨some 20, .load 25 (.tmp 19), none⟩,
⟨some 21, .indexAddr 25 (.tmp 20) (.const (.int .i64 0)), none⟩,
⟨some 22, .load 27 (.tmp 21), none⟩,
⟨some 23, .fieldAddr 27 (.tmp 2) 2, none⟩,
⟨some 24, .load 25 (.tmp 23), none⟩,
⟨some 25, .indexAddr 25 (.tmp 24) (.const (.int .i64 1)), none⟩,
⟨some 26, .load 27 (.tmp 25), none⟩,
⟨some 5, .alloc 27, none⟩,
⟨some 6, .alloc 27, none⟩,
⟨none, .store 27 (.tmp 5) (.tmp 22), none⟩,
⟨none, .store 27 (.tmp 6) (.tmp 26), none⟩]
def f89_r7 : List LOp := [
⟨some 27, .load 27 (.tmp 5), none⟩,
⟨some 28, .move (.tmp 1), none⟩,
⟨some 29, .call ⟨.value (.func 89), #[.tmp 27, .tmp 28], #[27, 5]⟩, none⟩,
⟨some 30, .load 27 (.tmp 6), none⟩,
⟨some 31, .buildSlice 25 2 #[(0, .tmp 29), (1, .tmp 30)], none⟩,
⟨some 32, .call ⟨.value (.func 67), #[.tmp 31], #[25]⟩, none⟩,
⟨some 7, .alloc 27, none⟩,
⟨none, .store 27 (.tmp 7) (.tmp 32), none⟩]
def f89_r8 : List LOp := [
⟨some 33, .load 27 (.tmp 5), none⟩,
⟨some 34, .buildSlice 25 1 #[(0, .tmp 33)], none⟩,
⟨some 35, .call ⟨.value (.func 101), #[.tmp 34], #[25]⟩, none⟩]
def f89_r9 : List LOp := [
⟨some 36, .load 27 (.tmp 7), none⟩,
⟨some 37, .load 27 (.tmp 6), none⟩,
⟨some 38, .move (.tmp 1), none⟩,
⟨some 39, .call ⟨.value (.func 89), #[.tmp 37, .tmp 38], #[27, 5]⟩, none⟩,
⟨some 40, .buildSlice 25 2 #[(0, .tmp 36), (1, .tmp 39)], none⟩,
⟨some 41, .call ⟨.value (.func 56), #[.tmp 40], #[25]⟩, none⟩,
⟨none, .store 27 (.tmp 4) (.tmp 41), none⟩]
def f89_r10 : List LOp := [
⟨some 42, .load 27 (.tmp 7), none⟩,
⟨none, .store 27 (.tmp 4) (.tmp 42), none⟩]
def f89_r11 : List LOp := [
⟨some 44, .binOp .eql 5 (.tmp 9) (.const (.int .u8 5)) 5, none⟩,
⟨some 43, .assign (.tmp 44), none⟩]
def f89_r12 : List LOp := [
⟨some 45, .fieldAddr 27 (.tmp 2) 2, none⟩,
⟨some 46, .load 25 (.tmp 45), none⟩,
⟨some 47, .indexAddr 25 (.tmp 46) (.const (.int .i64 0)), none⟩,
⟨some 48, .load 27 (.tmp 47), none⟩,
⟨some 49, .move (.tmp 1), none⟩,
⟨some 50, .call ⟨.value (.func 89), #[.tmp 48, .tmp 49], #[27, 5]⟩, none⟩,
⟨some 51, .fieldAddr 27 (.tmp 2) 2, none⟩,
⟨some 52, .load 25 (.tmp 51), none⟩,
⟨some 53, .indexAddr 25 (.tmp 52) (.const (.int .i64 1)), none⟩,
⟨some 54, .load 27 (.tmp 53), none⟩,
⟨some 55, .move (.tmp 1), none⟩,
⟨some 56, .call ⟨.value (.func 89), #[.tmp 54, .tmp 55], #[27, 5]⟩, none⟩,
⟨some 57, .buildSlice 25 2 #[(0, .tmp 50), (1, .tmp 56)], none⟩,
⟨some 58, .call ⟨.value (.func 56), #[.tmp 57], #[25]⟩, none⟩,
⟨none, .store 27 (.tmp 4) (.tmp 58), none⟩]
def f89_r13 : List LOp := [
⟨some 60, .binOp .eql 5 (.tmp 9) (.const (.int .u8 6)) 5, none⟩,
⟨some 59, .assign (.tmp 60), none⟩]
def f89_r14 : List LOp := [
⟨some 61, .fieldAddr 27 (.tmp 2) 2, none⟩,
⟨some 62, .load 25 (.tmp 61), none⟩,
⟨some 63, .indexAddr 25 (.tmp 62) (.const (.int .i64 0)), none⟩,
⟨some 64, .load 27 (.tmp 63), none⟩,
⟨some 65, .move (.tmp 1), none⟩,
⟨some 66, .call ⟨.value (.func 89), #[.tmp 64, .tmp 65], #[27, 5]⟩, none⟩,
⟨some 67, .load 27 (.tmp 2), none⟩,
⟨some 68, .buildSlice 25 2 #[(0, .tmp 66), (1, .tmp 67)], none⟩,
⟨some 69, .call ⟨.value (.func 67), #[.tmp 68], #[25]⟩, none⟩,
⟨none, .store 27 (.tmp 4) (.tmp 69), none⟩]
def f89_r15 : List LOp := [
⟨some 70, .call ⟨.value (.func 56), #[.const (.slice none 0 0)], #[25]⟩, none⟩,
⟨none, .store 27 (.tmp 4) (.tmp 70), none⟩]
def f89_c : LC := (.seq (.reg f89_r0 [] none) (.seq (.seq (.reg f89_r1 [] none) (.block 0 (.seq (.reg f89_r2 [] none) (.cond (.tmp 10) (.seq (.reg f89_r3 [] none) (.cond (.tmp 15) (.seq (.reg f89_r4 [] none) .ret) .skip)) (.seq (.reg f89_r5 [] none) (.cond (.tmp 17) (.seq (.rega f89_r6 [] 11) (.seq (.rega f89_r7 [] 7) (.seq (.seq (.reg f89_r8 [] none) (.cond (.tmp 35) (.seq (.reg f89_r9 [] (some 4)) .ret) .skip)) (.seq (.reg f89_r10 [] none) .ret)))) (.seq (.reg f89_r11 [] none) (.cond (.tmp 43) (.seq (.reg f89_r12 [] (some 11)) .ret) (.seq (.reg f89_r13 [] none) (.cond (.tmp 59) (.seq (.reg f89_r14 [] (some 7)) .ret) .skip)))))))))) (.seq (.reg f89_r15 [] none) .ret)))
theorem f89_lc : Tryd.f89.body.map lc = some f89_c.st := by kernel_rfl
theorem f89_res : Tryd.f89.results.toList = [.cell 4 27] := by kernel_rfl
theorem f89_nt : Tryd.f89.ntmps = 71 := by kernel_rfl
theorem f89_nm : (Tryd.f89.name == "runtime.NumGoroutine") = false := by kernel_rfl
/-! cmp.Or[int] -/
def f94_r0 : List LOp := [
⟨some 2, .assign (.const (.int .i64 0)), none⟩]
def f94_r1 : List LOp := [
⟨some 3, .assign (.const (.int .i64 0)), none⟩]
def f94_r2 : List LOp := [
⟨some 6, .move (.tmp 0), none⟩,
⟨some 7, .call ⟨.builtin .len, #[.tmp 6], #[37]⟩, none⟩,
⟨some 8, .move (.const (.int .i64 0)), none⟩]
def f94_r3 : List LOp := [
⟨some 9, .binOp .lss 3 (.tmp 8) (.tmp 7) 3, none⟩]
def f94_r4 : List LOp := [
⟨some 10, .indexAddr 37 (.tmp 6) (.tmp 8), none⟩,
⟨some 11, .load 3 (.tmp 10), none⟩,
⟨some 5, .assign (.tmp 11), none⟩]
def f94_r5 : List LOp := [
⟨some 12, .move (.tmp 5), none⟩,
⟨some 13, .move (.tmp 3), none⟩,
⟨some 14, .binOp .neq 3 (.tmp 12) (.tmp 13) 3, none⟩]
def f94_r6 : List LOp := [
⟨some 15, .move (.tmp 5), none⟩,
⟨some 2, .assign (.tmp 15), none⟩]
def f94_r7 : List LOp := [
⟨some 16, .binOp .add 3 (.tmp 8) (.const (.int .i64 1)) 3, none⟩,
⟨some 8, .move (.tmp 16), none⟩]
def f94_l8 : LC := (.seq (.reg f94_r3 [] none) (.seq (.cond (.tmp 9) .skip (.exit 0)) (.seq (.block 1 (.seq (.reg f94_r4 [] none) (.seq (.reg f94_r5 [] none) (.cond (.tmp 14) (.seq (.reg f94_r6 [] none) .ret) .skip)))) (.reg f94_r7 [] none))))
def f94_i8 (t3 t6 t7 t8 : D) : List D := [.any, .any, .any, t3, .any, .any, t6, t7, t8, .any, .any, .any, .any, .any, .any, .any, .any, .any]
def f94_r9 : List LOp := [
⟨some 17, .move (.tmp 3), none⟩,
⟨some 2, .assign (.tmp 17), none⟩]
def f94_c : LC := (.seq (.reg f94_r0 [] none) (.seq (.reg f94_r1 [] none) (.seq (.seq (.reg f94_r2 [] none) (.block 0 (.loop f94_l8))) (.seq (.reg f94_r9 [] none) .ret))))
theorem f94_lc : Tryd.f94.body.map lc = some f94_c.st := by kernel_rfl
theorem f94_res : Tryd.f94.results.toList = [.tmp 2] := by kernel_rfl
theorem f94_nt : Tryd.f94.ntmps = 18 := by kernel_rfl
theorem f94_nm : (Tryd.f94.name == "runtime.NumGoroutine") = false := by kernel_rfl
/-! cmp.Compare[uint8] -/
def f95_r0 : List LOp := [
⟨some 4, .assign (.const (.int .i64 0)), none⟩]
def f95_r1 : List LOp := [
⟨some 7, .move (.tmp 0), none⟩,
⟨some 8, .call ⟨.value (.func 109), #[.tmp 7], #[5]⟩, none⟩,
⟨some 5, .assign (.tmp 8), none⟩]
def f95_r2 : List LOp := [
⟨some 9, .move (.tmp 1), none⟩,
⟨some 10, .call ⟨.value (.func 109), #[.tmp 9], #[5]⟩, none⟩,
⟨some 6, .assign (.tmp 10), none⟩]
def f95_r3 : List LOp := [
⟨some 11, .move (.tmp 5), none⟩]
def f95_r4 : List LOp := [
⟨some 12, .move (.tmp 6), none⟩]
def f95_r5 : List LOp := [
⟨some 4, .assign (.const (.int .i64 0)), none⟩]
def f95_r6 : List LOp := [
⟨some 4, .assign (.const (.int .i64 (-1))), none⟩]
def f95_r7 : List LOp := [
⟨some 13, .move (.tmp 6), none⟩]
def f95_r8 : List LOp := [
⟨some 4, .assign (.const (.int .i64 1)), none⟩]
def f95_r9 : List LOp := [
⟨some 14, .move (.tmp 0), none⟩,
⟨some 15, .move (.tmp 1), none⟩,
⟨some 16, .binOp .lss 5 (.tmp 14) (.tmp 15) 5, none⟩]
def f95_r10 : List LOp := [
⟨some 4, .assign (.const (.int .i64 (-1))), none⟩]
def f95_r11 : List LOp := [
⟨some 17, .move (.tmp 0), none⟩,
⟨some 18, .move (.tmp 1), none⟩,
⟨some 19, .binOp .gtr 5 (.tmp 17) (.tmp 18) 5, none⟩]
def f95_r12 : List LOp := [
⟨some 4, .assign (.const (.int .i64 1)), none⟩]
def f95_r13 : List LOp := [
⟨some 4, .assign (.const (.int .i64 0)), none⟩]
def f95_c : LC := (.seq (.reg f95_r0 [] none) (.seq (.reg f95_r1 [] none) (.seq (.reg f95_r2 [] none) (.seq (.seq (.reg f95_r3 [] none) (.cond (.tmp 11) (.seq (.seq (.reg f95_r4 [] none) (.cond (.tmp 12) (.seq (.reg f95_r5 [] none) .ret) .skip)) (.seq (.reg f95_r6 [] none) .ret)) .skip)) (.seq (.seq (.reg f95_r7 [] none) (.cond (.tmp 13) (.seq (.reg f95_r8 [] none) .ret) .skip)) (.seq (.seq (.reg f95_r9 [] none) (.cond (.tmp 16) (.seq (.reg f95_r10 [] none) .ret) .skip)) (.seq (.seq (.reg f95_r11 [] none) (.cond (.tmp 19) (.seq (.reg f95_r12 [] none) .ret) .skip)) (.seq (.reg f95_r13 [] none) .ret))))))))
theorem f95_lc : Tryd.f95.body.map lc = some f95_c.st := by kernel_rfl
theorem f95_res : Tryd.f95.results.toList = [.tmp 4] := by kernel_rfl
theorem f95_nt : Tryd.f95.ntmps = 20 := by kernel_rfl
theorem f95_nm : (Tryd.f95.name == "runtime.NumGoroutine") = false := by kernel_rfl
/-! quill/set.Order -/
def f96_r0 : List LOp := [
⟨some 2, .box 24 (.tmp 0), none⟩,
⟨some 3, .box 24 (.tmp 1), none⟩,
⟨some 4, .assign (.const (.int .i64 0)), none⟩]
def f96_r1 : List LOp := [
⟨some 5, .slice 24 (.tmp 2) none none none, none⟩,
⟨some 6, .slice 24 (.tmp 3) none none none, none⟩,
⟨some 7, .call ⟨.value (.func 110), #[.tmp 5, .tmp 6, .func 111], #[136, 136, 137]⟩, none⟩,
⟨some 4, .assign (.tmp 7), none⟩]
def f96_c : LC := (.seq (.reg f96_r0 [] none) (.seq (.reg f96_r1 [] (some 2)) .ret))
theorem f96_lc : Tryd.f96.body.map lc = some f96_c.st := by kernel_rfl
theorem f96_res : Tryd.f96.results.toList = [.tmp 4] := by kernel_rfl
theorem f96_nt : Tryd.f96.ntmps = 8 := by kernel_rfl
theorem f96_nm : (Tryd.f96.name == "runtime.NumGoroutine") = false := by kernel_rfl
/-! slices.CompareFunc[[]quill/api.Re,[]quill/api.Re,quill/api.Re,quill/api.Re] -/
def f97_r0 : List LOp := [
⟨some 6, .assign (.const (.int .i64 0)), none⟩]
def f97_r1 : List LOp := [
⟨some 11, .move (.tmp 0), none⟩,
⟨some 12, .call ⟨.builtin .len, #[.tmp 11], #[25]⟩, none⟩,
⟨some 13, .move (.const (.int .i64 0)), none⟩]
def f97_r2 : List LOp := [
⟨some 14, .binOp .lss 3 (.tmp 13) (.tmp 12) 3, none⟩]
def f97_r3 : List LOp := [
⟨some 15, .move (.tmp 13), none⟩,
⟨some 16, .indexAddr 25 (.tmp 11) (.tmp 13), none⟩,
⟨some 17, .load 27 (.tmp 16), none⟩,
⟨some 8, .alloc 27, none⟩,
⟨some 7, .assign (.tmp 15), none⟩,
⟨none, .store 27 (.tmp 8) (.tmp 17), none⟩]
def f97_r4 : List LOp := [
⟨some 18, .move (.tmp 7), none⟩,
⟨some 19, .move (.tmp 1), none⟩,
⟨some 20, .call ⟨.builtin .len, #[.tmp 19], #[25]⟩, none⟩,
⟨some 21, .binOp .geq 3 (.tmp 18) (.tmp 20) 3, none⟩]
def f97_r5 : List LOp := [
⟨some 6, .assign (.const (.int .i64 1)), none⟩]
def f97_r6 : List LOp := [
⟨some 22, .move (.tmp 1), none⟩,
⟨some 23, .move (.tmp 7), none⟩,
⟨some 24, .indexAddr 25 (.tmp 22) (.tmp 23), none⟩,
⟨some 25, .load 27 (.tmp 24), none⟩,
⟨some 9, .alloc 27, none⟩,
⟨none, .store 27 (.tmp 9) (.tmp 25), none⟩]
def f97_r7 : List LOp := [
⟨some 26, .move (.tmp 2), none⟩,
⟨some 27, .load 27 (.tmp 8), none⟩,
⟨some 28, .load 27 (.tmp 9), none⟩,
⟨some 29, .call ⟨.value (.tmp 26), #[.tmp 27, .tmp 28], #[27, 27]⟩, none⟩,
⟨some 10, .assign (.tmp 29), none⟩]
def f97_r8 : List LOp := [
⟨some 30, .move (.tmp 10), none⟩,
⟨some 31, .binOp .neq 3 (.tmp 30) (.const (.int .i64 0)) 3, none⟩]
def f97_r9 : List LOp := [
⟨some 32, .move (.tmp 10), none⟩,
⟨some 6, .assign (.tmp 32), none⟩]
def f97_r10 : List LOp := [
⟨some 33, .binOp .add 3 (.tmp 13) (.const (.int .i64 1)) 3, none⟩,
⟨some 13, .move (.tmp 33), none⟩]
def f97_l11 : LC := (.seq (.reg f97_r2 [] none) (.seq (.cond (.tmp 14) .skip (.exit 0)) (.seq (.block 1 (.seq (.reg f97_r3 [] none) (.seq (.seq (.reg f97_r4 [] none) (.cond (.tmp 21) (.seq (.reg f97_r5 [] none) .ret) .skip)) (.seq (.reg f97_r6 [] none) (.seq (.reg f97_r7 [] none) (.seq (.reg f97_r8 [] none) (.cond (.tmp 31) (.seq (.reg f97_r9 [] none) .ret) .skip))))))) (.reg f97_r10 [] none))))
def f97_i11 (t0 t1 t2 t11 t12 t13 : D) : List D := [t0, t1, t2, .any, .any, .any, .any, .any, .any, .any, .any, t11, t12, t13, .any, .any, .any, .any, .any, .any, .any, .any, .any, .any, .any, .any, .any, .any, .any, .any, .any, .any, .any, .any, .any, .any, .any, .any, .any]
def f97_r12 : List LOp := [
⟨some 34, .move (.tmp 0), none⟩,
⟨some 35, .call ⟨.builtin .len, #[.tmp 34], #[25]⟩, none⟩,
⟨some 36, .move (.tmp 1), none⟩,
⟨some 37, .call ⟨.builtin .len, #[.tmp 36], #[25]⟩, none⟩,
⟨some 38, .binOp .lss 3 (.tmp 35) (.tmp 37) 3, none⟩]
def f97_r13 : List LOp := [
⟨some 6, .assign (.const (.int .i64 (-1))), none⟩]
def f97_r14 : List LOp := [
⟨some 6, .assign (.const (.int .i64 0)), none⟩]
def f97_c : LC := (.seq (.reg f97_r0 [] none) (.seq (.seq (.reg f97_r1 [] none) (.block 0 (.loop f97_l11))) (.seq (.seq (.reg f97_r12 [] none) (.cond (.tmp 38) (.seq (.reg f97_r13 [] none) .ret) .skip)) (.seq (.reg f97_r14 [] none) .ret))))
theorem f97_lc : Tryd.f97.body.map lc = some f97_c.st := by kernel_rfl
theorem f97_res : Tryd.f97.results.toList = [.tmp 6] := by kernel_rfl
theorem f97_nt : Tryd.f97.ntmps = 39 := by kernel_rfl
theorem f97_nm : (Tryd.f97.name == "runtime.NumGoroutine") = false := by kernel_rfl
/-! slices.Collect[quill/api.Re] -/
def f98_r0 : List LOp := [
⟨some 2, .assign (.const (.slice none 0 0)), none⟩]
def f98_r1 : List LOp := [
⟨some 3, .move (.tmp 0), none⟩,
⟨some 4, .call ⟨.value (.func 112), #[.const (.slice none 0 0), .tmp 3], #[25, 115]⟩, none⟩,
⟨some 2, .assign (.tmp 4), none⟩]
def f98_c : LC := (.seq (.reg f98_r0 [] none) (.seq (.reg f98_r1 [] none) .ret))
theorem f98_lc : Tryd.f98.body.map lc = some f98_c.st := by kernel_rfl
theorem f98_res : Tryd.f98.results.toList = [.tmp 2] := by kernel_rfl
theorem f98_nt : Tryd.f98.ntmps = 5 := by kernel_rfl
theorem f98_nm : (Tryd.f98.name == "runtime.NumGoroutine") = false := by kernel_rfl
/-! slices.SortStableFunc[[]quill/api.Re,quill/api.Re] -/
def f99_r0 : List LOp := [
⟨some 4, .move (.tmp 0), none⟩,
⟨some 5, .move (.tmp 0), none⟩,
⟨some 6, .call ⟨.builtin .len, #[.tmp 5], #[25]⟩, none⟩,
⟨some 7, .move (.tmp 1), none⟩,
⟨some 8, .call ⟨.value (.func 113), #[.tmp 4, .tmp 6, .tmp 7], #[25, 3, 112]⟩, none⟩]
def f99_c : LC := (.reg f99_r0 [] none)
theorem f99_lc : Tryd.f99.body.map lc = some f99_c.st := by kernel_rfl
theorem f99_res : Tryd.f99.results.toList = [] := by kernel_rfl
theorem f99_nt : Tryd.f99.ntmps = 9 := by kernel_rfl
theorem f99_nm : (Tryd.f99.name == "runtime.NumGoroutine") = false := by kernel_rfl
/-! slices.Values[[]quill/api.Re,quill/api.Re]$1 -/
def f100_r0 : List LOp := [
⟨some 5, .load 25 (.tmp 1), none⟩,
⟨some 6, .call ⟨.builtin .len, #[.tmp 5], #[25]⟩, none⟩,
⟨some 7, .move (.const (.int .i64 0)), none⟩]
def f100_r1 : List LOp := [
⟨some 8, .binOp .lss 3 (.tmp 7) (.tmp 6) 3, none⟩]
def f100_r2 : List LOp := [
⟨some 9, .indexAddr 25 (.tmp 5) (.tmp 7), none⟩,
⟨some 10, .load 27 (.tmp 9), none⟩,
⟨some 4, .alloc 27, none⟩,
⟨none, .store 27 (.tmp 4) (.tmp 10), none⟩]
def f100_r3 : List LOp := [
⟨some 11, .move (.tmp 0), none⟩,
⟨some 12, .load 27 (.tmp 4), none⟩,
⟨some 13, .call ⟨.value (.tmp 11), #[.tmp 12], #[27]⟩, none⟩,
⟨some 14, .unOp .not 4 (.tmp 13), none⟩]
def f100_r4 : List LOp := [
⟨some 15, .binOp .add 3 (.tmp 7) (.const (.int .i64 1)) 3, none⟩,
⟨some 7, .move (.tmp 15), none⟩]
def f100_l5 : LC := (.seq (.reg f100_r1 [] none) (.seq (.cond (.tmp 8) .skip (.exit 0)) (.seq (.block 1 (.seq (.reg f100_r2 [] none) (.seq (.reg f100_r3 [] none) (.cond (.tmp 14) .ret .skip)))) (.reg f100_r4 [] none))))
def f100_i5 (t0 t5 t6 t7 : D) : List D := [t0, .any, .any, .any, .any, t5, t6, t7, .any, .any, .any, .any, .any, .any, .any, .any]
def f100_c : LC := (.seq (.reg f100_r0 [] none) (.block 0 (.loop f100_l5)))
theorem f100_lc : Tryd.f100.body.map lc = some f100_c.st := by kernel_rfl
theorem f100_res : Tryd.f100.results.toList = [] := by kernel_rfl
theorem f100_nt : Tryd.f100.ntmps = 16 := by kernel_rfl
theorem f100_nm : (Tryd.f100.name == "runtime.NumGoroutine") = false := by kernel_rfl
/-! quill/null.Null -/
def f101_r0 : List LOp := [
⟨some 2, .assign (.const (.bool false)), none⟩]
def f101_r1 : List LOp := [
⟨some 3, .move (.tmp 0), none⟩,
⟨some 4, .call ⟨.value (.func 36), #[.tmp 3, .func 114], #[25, 30]⟩, none⟩,
⟨some 5, .unOp .not 4 (.tmp 4), none⟩,
⟨some 2, .assign (.tmp 5), none⟩]
def f101_c : LC := (.seq (.reg f101_r0 [] none) (.seq (.reg f101_r1 [] none) .ret))
theorem f101_lc : Tryd.f101.body.map lc = some f101_c.st := by kernel_rfl
theorem f101_res : Tryd.f101.results.toList = [.tmp 2] := by kernel_rfl
theorem f101_nt : Tryd.f101.ntmps = 6 := by kernel_rfl
theorem f101_nm : (Tryd.f101.name == "runtime.NumGoroutine") = false := by kernel_rfl
/-! cmp.isNaN[uint8] -/
def f109_r0 : List LOp := [
⟨some 2, .assign (.const (.bool false)), none⟩]
def f109_r1 : List LOp := [
⟨some 3, .move (.tmp 0), none⟩,
⟨some 4, .move (.tmp 0), none⟩,
⟨some 5, .binOp .neq 5 (.tmp 3) (.tmp 4) 5, none⟩,
⟨some 2, .assign (.tmp 5), none⟩]
def f109_c : LC := (.seq (.reg f109_r0 [] none) (.seq (.reg f109_r1 [] none) .ret))
theorem f109_lc : Tryd.f109.body.map lc = some f109_c.st := by kernel_rfl
theorem f109_res : Tryd.f109.results.toList = [.tmp 2] := by kernel_rfl
theorem f109_nt : Tryd.f109.ntmps = 6 := by kernel_rfl
theorem f109_nm : (Tryd.f109.name == "runtime.NumGoroutine") = false := by kernel_rfl
/-! slices.CompareFunc[[]uint64,[]uint64,uint64,uint64] -/
def f110_r0 : List LOp := [
⟨some 6, .assign (.const (.int .i64 0)), none⟩]
def f110_r1 : List LOp := [
⟨some 11, .move (.tmp 0), none⟩,
⟨some 12, .call ⟨.builtin .len, #[.tmp 11], #[136]⟩, none⟩,
⟨some 13, .move (.const (.int .i64 0)), none⟩]
def f110_r2 : List LOp := [
⟨some 14, .binOp .lss 3 (.tmp 13) (.tmp 12) 3, none⟩]
def f110_r3 : List LOp := [
⟨some 15, .move (.tmp 13), none⟩,
⟨some 16, .indexAddr 136 (.tmp 11) (.tmp 13), none⟩,
⟨some 17, .load 22 (.tmp 16), none⟩,
⟨some 7, .assign (.tmp 15), none⟩,
⟨some 8, .assign (.tmp 17), none⟩]
def f110_r4 : List LOp := [
⟨some 18, .move (.tmp 7), none⟩,
⟨some 19, .move (.tmp 1), none⟩,
⟨some 20, .call ⟨.builtin .len, #[.tmp 19], #[136]⟩, none⟩,
⟨some 21, .binOp .geq 3 (.tmp 18) (.tmp 20) 3, none⟩]
def f110_r5 : List LOp := [
⟨some 6, .assign (.const (.int .i64 1)), none⟩]
def f110_r6 : List LOp := [
⟨some 22, .move (.tmp 1), none⟩,
⟨some 23, .move (.tmp 7), none⟩,
⟨some 24, .indexAddr 136 (.tmp 22) (.tmp 23), none⟩,
⟨some 25, .load 22 (.tmp 24), none⟩,
⟨some 9, .assign (.tmp 25), none⟩]
def f110_r7 : List LOp := [
⟨some 26, .move (.tmp 2), none⟩,
⟨some 27, .move (.tmp 8), none⟩,
⟨some 28, .move (.tmp 9), none⟩,
⟨some 29, .call ⟨.value (.tmp 26), #[.tmp 27, .tmp 28], #[22, 22]⟩, none⟩,
⟨some 10, .assign (.tmp 29), none⟩]
def f110_r8 : List LOp := [
⟨some 30, .move (.tmp 10), none⟩,
⟨some 31, .binOp .neq 3 (.tmp 30) (.const (.int .i64 0)) 3, none⟩]
def f110_r9 : List LOp := [
⟨some 32, .move (.tmp 10), none⟩,
⟨some 6, .assign (.tmp 32), none⟩]
def f110_r10 : List LOp := [
⟨some 33, .binOp .add 3 (.tmp 13) (.const (.int .i64 1)) 3, none⟩,
⟨some 13, .move (.tmp 33), none⟩]
def f110_l11 : LC := (.seq (.reg f110_r2 [] none) (.seq (.cond (.tmp 14) .skip (.exit 0)) (.seq (.block 1 (.seq (.reg f110_r3 [] none) (.seq (.seq (.reg f110_r4 [] none) (.cond (.tmp 21) (.seq (.reg f110_r5 [] none) .ret) .skip)) (.seq (.reg f110_r6 [] none) (.seq (.reg f110_r7 [] none) (.seq (.reg f110_r8 [] none) (.cond (.tmp 31) (.seq (.reg f110_r9 [] none) .ret) .skip))))))) (.reg f110_r10 [] none))))
def f110_i11 (t0 t1 t2 t11 t12 t13 : D) : List D := [t0, t1, t2, .any, .any, .any, .any, .any, .any, .any, .any, t11, t12, t13, .any, .any, .any, .any, .any, .any, .any, .any, .any, .any, .any, .any, .any, .any, .any, .any, .any, .any, .any, .any, .any, .any, .any, .any, .any]
def f110_r12 : List LOp := [
⟨some 34, .move (.tmp 0), none⟩,
⟨some 35, .call ⟨.builtin .len, #[.tmp 34], #[136]⟩, none⟩,
⟨some 36, .move (.tmp 1), none⟩,
⟨some 37, .call ⟨.builtin .len, #[.tmp 36], #[136]⟩, none⟩,
⟨some 38, .binOp .lss 3 (.tmp 35) (.tmp 37) 3, none⟩]
def f110_r13 : List LOp := [
⟨some 6, .assign (.const (.int .i64 (-1))), none⟩]
def f110_r14 : List LOp := [
⟨some 6, .assign (.const (.int .i64 0)), none⟩]
def f110_c : LC := (.seq (.reg f110_r0 [] none) (.seq (.seq (.reg f110_r1 [] none) (.block 0 (.loop f110_l11))) (.seq (.seq (.reg f110_r12 [] none) (.cond (.tmp 38) (.seq (.reg f110_r13 [] none) .ret) .skip)) (.seq (.reg f110_r14 [] none) .ret))))
theorem f110_lc : Tryd.f110.body.map lc = some f110_c.st := by kernel_rfl
theorem f110_res : Tryd.f110.results.toList = [.tmp 6] := by kernel_rfl
theorem f110_nt : Tryd.f110.ntmps = 39 := by kernel_rfl
theorem f110_nm : (Tryd.f110.name == "runtime.NumGoroutine") = false := by kernel_rfl
/-! cmp.Compare[uint64] -/
def f111_r0 : List LOp := [
⟨some 4, .assign (.const (.int .i64 0)), none⟩]
def f111_r1 : List LOp := [
⟨some 7, .move (.tmp 0), none⟩,
⟨some 8, .call ⟨.value (.func 118), #[.tmp 7], #[22]⟩, none⟩,
⟨some 5, .assign (.tmp 8), none⟩]
def f111_r2 : List LOp := [
⟨some 9, .move (.tmp 1), none⟩,
⟨some 10, .call ⟨.value (.func 118), #[.tmp 9], #[22]⟩, none⟩,
⟨some 6, .assign (.tmp 10), none⟩]
def f111_r3 : List LOp := [
⟨some 11, .move (.tmp 5), none⟩]
def f111_r4 : List LOp := [
⟨some 12, .move (.tmp 6), none⟩]
def f111_r5 : List LOp := [
⟨some 4, .assign (.const (.int .i64 0)), none⟩]
def f111_r6 : List LOp := [
⟨some 4, .assign (.const (.int .i64 (-1))), none⟩]
def f111_r7 : List LOp := [
⟨some 13, .move (.tmp 6), none⟩]
def f111_r8 : List LOp := [
⟨some 4, .assign (.const (.int .i64 1)), none⟩]
def f111_r9 : List LOp := [
⟨some 14, .move (.tmp 0), none⟩,
⟨some 15, .move (.tmp 1), none⟩,
⟨some 16, .binOp .lss 22 (.tmp 14) (.tmp 15) 22, none⟩]
def f111_r10 : List LOp := [
⟨some 4, .assign (.const (.int .i64 (-1))), none⟩]
def f111_r11 : List LOp := [
⟨some 17, .move (.tmp 0), none⟩,
⟨some 18, .move (.tmp 1), none⟩,
⟨some 19, .binOp .gtr 22 (.tmp 17) (.tmp 18) 22, none⟩]
def f111_r12 : List LOp := [
⟨some 4, .assign (.const (.int .i64 1)), none⟩]
def f111_r13 : List LOp := [
⟨some 4, .assign (.const (.int .i64 0)), none⟩]
def f111_c : LC := (.seq (.reg f111_r0 [] none) (.seq (.reg f111_r1 [] none) (.seq (.reg f111_r2 [] none) (.seq (.seq (.reg f111_r3 [] none) (.cond (.tmp 11) (.seq (.seq (.reg f111_r4 [] none) (.cond (.tmp 12) (.seq (.reg f111_r5 [] none) .ret) .skip)) (.seq (.reg f111_r6 [] none) .ret)) .skip)) (.seq (.seq (.reg f111_r7 [] none) (.cond (.tmp 13) (.seq (.reg f111_r8 [] none) .ret) .skip)) (.seq (.seq (.reg f111_r9 [] none) (.cond (.tmp 16) (.seq (.reg f111_r10 [] none) .ret) .skip)) (.seq (.seq (.reg f111_r11 [] none) (.cond (.tmp 19) (.seq (.reg f111_r12 [] none) .ret) .skip)) (.seq (.reg f111_r13 [] none) .ret))))))))
theorem f111_lc : Tryd.f111.body.map lc = some f111_c.st := by kernel_rfl
theorem f111_res : Tryd.f111.results.toList = [.tmp 4] := by kernel_rfl
theorem f111_nt : Tryd.f111.ntmps = 20 := by kernel_rfl
theorem f111_nm : (Tryd.f111.name == "runtime.NumGoroutine") = false := by kernel_rfl
/-! slices.AppendSeq[[]quill/api.Re,quill/api.Re] -/
def f112_r0 : List LOp := [
⟨some 2, .box 25 (.tmp 0), none⟩,
⟨some 4, .assign (.const (.slice none 0 0)), none⟩]
def f112_r1 : List LOp := [
⟨some 6, .move (.tmp 1), none⟩]
def f112_r2 : List LOp := [
⟨some 5, .alloc 27, none⟩,
⟨none, .store 27 (.tmp 5) (.tmp 7), none⟩]
def f112_r3 : List LOp := [
⟨some 8, .load 25 (.tmp 2), none⟩,
⟨some 9, .load 27 (.tmp 5), none⟩,
⟨some 10, .call ⟨.builtin .len, #[.tmp 8], #[25]⟩, none⟩,
⟨some 11, .buildSlice 25 1 #[(0, .const (.agg #[.int .u8 0, .int .u64 0, .int .u64 0, .int .u64 0, .int .u64 0, .slice none 0 0]))], none⟩,
⟨some 12, .call ⟨.builtin .append, #[.tmp 8, .tmp 11], #[25, 25]⟩, none⟩,
⟨some 13, .indexAddr 25 (.tmp 12) (.tmp 10), none⟩,
⟨none, .store 27 (.tmp 13) (.tmp 9), none⟩,
⟨none, .store 25 (.tmp 2) (.tmp 12), none⟩]
def f112_a4 : LC := (.reg f112_r2 [] none)
def f112_b4 : LC := (.block 1 (.regt f112_r3 [] 4 (.op 4 (.both (.op 5 (.both (.op 6 (.op 7 .done)) (.op 7 (.op 6 .done)))) (.op 7 (.op 5 (.op 6 .done)))))))
def f112_r5 : List LOp := [
⟨some 14, .load 25 (.tmp 2), none⟩,
⟨some 4, .assign (.tmp 14), none⟩]
def f112_c : LC := (.seq (.reg f112_r0 [0] none) (.seq (.seq (.reg f112_r1 [] none) (.block 0 (.rfun (.tmp 6) [7] f112_a4 f112_b4))) (.seq (.reg f112_r5 [] none) .ret)))
theorem f112_lc : Tryd.f112.body.map lc = some f112_c.st := by kernel_rfl
theorem f112_res : Tryd.f112.results.toList = [.tmp 4] := by kernel_rfl
theorem f112_nt : Tryd.f112.ntmps = 15 := by kernel_rfl
theorem f112_nm : (Tryd.f112.name == "runtime.NumGoroutine") = false := by kernel_rfl
/-! slices.stableCmpFunc[quill/api.Re] -/
def f113_r0 : List LOp := [
⟨some 6, .assign (.const (.int .i64 20)), none⟩]
def f113_r1 : List LOp := [
⟨some 10, .move (.tmp 6), none⟩,
⟨some 7, .assign (.const (.int .i64 0)), none⟩,
⟨some 8, .assign (.tmp 10), none⟩]
def f113_r2 : List LOp := [
⟨some 11, .move (.tmp 8), none⟩,
⟨some 12, .move (.tmp 1), none⟩,
⟨some 13, .binOp .leq 3 (.tmp 11) (.tmp 12) 3, none⟩]
def f113_r3 : List LOp := [
⟨some 14, .move (.tmp 0), none⟩,
⟨some 15, .move (.tmp 7), none⟩,
⟨some 16, .move (.tmp 8), none⟩,
⟨some 17, .move (.tmp 2), none⟩,
⟨some 18, .call ⟨.value (.func 119), #[.tmp 14, .tmp 15, .tmp 16, .tmp 17], #[25, 3, 3, 112]⟩, none⟩]
def f113_r4 : List LOp := [
⟨some 19, .move (.tmp 8), none⟩,
⟨some 7, .assign (.tmp 19), none⟩]
def f113_r5 : List LOp := [
⟨some 20, .move (.tmp 8), none⟩,
⟨some 21, .move (.tmp 6), none⟩,
⟨some 22, .binOp .add 3 (.tmp 20) (.tmp 21) 3, none⟩,
⟨some 8, .assign (.tmp 22), none⟩]
def f113_l6 : LC := (.seq (.seq (.reg f113_r2 [] none) (.cond (.tmp 13) .skip (.exit 0))) (.block 1 (.seq (.reg f113_r3 [] none) (.seq (.reg f113_r4 [] none) (.reg f113_r5 [] none)))))
def f113_i6 (t0 t1 t2 t6 t7 t8 : D) : List D := [t0, t1, t2, .any, .any, .any, t6, t7, t8, .any, .any, .any, .any, .any, .any, .any, .any, .any, .any, .any, .any, .any, .any, .any, .any, .any, .any, .any, .any, .any, .any, .any, .any, .any, .any, .any, .any, .any, .any, .any, .any, .any, .any, .any, .any, .any, .any, .any, .any, .any, .any, .any, .any, .any, .any, .any, .any, .any, .any, .any, .any, .any, .any]
def f113_r7 : List LOp := [
⟨some 23, .move (.tmp 0), none⟩,
⟨some 24, .move (.tmp 7), none⟩,
⟨some 25, .move (.tmp 1), none⟩,
⟨some 26, .move (.tmp 2), none⟩,
⟨some 27, .call ⟨.value (.func 119), #[.tmp 23, .tmp 24, .tmp 25, .tmp 26], #[25, 3, 3, 112]⟩, none⟩]
def f113_r8 : List LOp := [
⟨some 28, .move (.tmp 6), none⟩,
⟨some 29, .move (.tmp 1), none⟩,
⟨some 30, .binOp .lss 3 (.tmp 28) (.tmp 29) 3, none⟩]
def f113_r9 : List LOp := [
⟨some 31, .move (.tmp 6), none⟩,
⟨some 32, .binOp .mul 3 (.const (.int .i64 2)) (.tmp 31) 3, none⟩,
⟨some 7, .assign (.const (.int .i64 0)), none⟩,
⟨some 8, .assign (.tmp 32), none⟩]
def f113_r10 : List LOp := [
⟨some 33, .move (.tmp 8), none⟩,
⟨some 34, .move (.tmp 1), none⟩,
⟨some 35, .binOp .leq 3 (.tmp 33) (.tmp 34) 3, none⟩]
def f113_r11 : List LOp := [
⟨some 36, .move (.tmp 0), none⟩,
⟨some 37, .move (.tmp 7), none⟩,
⟨some 38, .move (.tmp 7), none⟩,
⟨some 39, .move (.tmp 6), none⟩,
⟨some 40, .binOp .add 3 (.tmp 38) (.tmp 39) 3, none⟩,
⟨some 41, .move (.tmp 8), none⟩,
⟨some 42, .move (.tmp 2), none⟩,
⟨some 43, .call ⟨.value (.func 120), #[.tmp 36, .tmp 37, .tmp 40, .tmp 41, .tmp 42], #[25, 3, 3, 3, 112]⟩, none⟩]
def f113_r12 : List LOp := [
⟨some 44, .move (.tmp 8), none⟩,
⟨some 7, .assign (.tmp 44), none⟩]
def f113_r13 : List LOp := [
⟨some 45, .move (.tmp 8), none⟩,
⟨some 46, .move (.tmp 6), none⟩,
⟨some 47, .binOp .mul 3 (.const (.int .i64 2)) (.tmp 46) 3, none⟩,
⟨some 48, .binOp .add 3 (.tmp 45) (.tmp 47) 3, none⟩,
⟨some 8, .assign (.tmp 48), none⟩]
def f113_l14 : LC := (.seq (.seq (.reg f113_r10 [] none) (.cond (.tmp 35) .skip (.exit 4))) (.block 5 (.seq (.reg f113_r11 [] none) (.seq (.reg f113_r12 [] none) (.reg f113_r13 [] none)))))
def f113_i14 (t0 t1 t2 t6 t7 t8 : D) : List D := [t0, t1, t2, .any, .any, .any, t6, t7, t8, .any, .any, .any, .any, .any, .any, .any, .any, .any, .any, .any, .any, .any, .any, .any, .any, .any, .any, .any, .any, .any, .any, .any, .any, .any, .any, .any, .any, .any, .any, .any, .any, .any, .any, .any, .any, .any, .any, .any, .any, .any, .any, .any, .any, .any, .any, .any, .any, .any, .any, .any, .any, .any, .any]
def f113_r15 : List LOp := [
⟨some 49, .move (.tmp 7), none⟩,
⟨some 50, .move (.tmp 6), none⟩,
⟨some 51, .binOp .add 3 (.tmp 49) (.tmp 50) 3, none⟩,
⟨some 9, .assign (.tmp 51), none⟩]
def f113_r16 : List LOp := [
⟨some 52, .move (.tmp 9), none⟩,
⟨some 53, .move (.tmp 1), none⟩,
⟨some 54, .binOp .lss 3 (.tmp 52) (.tmp 53) 3, none⟩]
def f113_r17 : List LOp := [
⟨some 55, .move (.tmp 0), none⟩,
⟨some 56, .move (.tmp 7), none⟩,
⟨some 57, .move (.tmp 9), none⟩,
⟨some 58, .move (.tmp 1), none⟩,
⟨some 59, .move (.tmp 2), none⟩,
⟨some 60, .call ⟨.value (.func 120), #[.tmp 55, .tmp 56, .tmp 57, .tmp 58, .tmp 59], #[25, 3, 3, 3, 112]⟩, none⟩]
def f113_r18 : List LOp := [
⟨some 61, .move (.tmp 6), none⟩,
⟨some 62, .binOp .mul 3 (.tmp 61) (.const (.int .i64 2)) 3, none⟩,
⟨some 6, .assign (.tmp 62), none⟩]
def f113_l19 : LC := (.seq (.seq (.reg f113_r8 [] none) (.cond (.tmp 30) .skip (.exit 2))) (.block 3 (.seq (.reg f113_r9 [] none) (.seq (.block 4 (.loop f113_l14)) (.seq (.seq (.reg f113_r15 [] none) (.seq (.reg f113_r16 [] none) (.cond (.tmp 54) (.reg f113_r17 [] none) .skip))) (.reg f113_r18 [] none))))))
def f113_i19 (t0 t1 t2 t6 : D) : List D := [t0, t1, t2, .any, .any, .any, t6, .any, .any, .any, .any, .any, .any, .any, .any, .any, .any, .any, .any, .any, .any, .any, .any, .any, .any, .any, .any, .any, .any, .any, .any, .any, .any, .any, .any, .any, .any, .any, .any, .any, .any, .any, .any, .any, .any, .any, .any, .any, .any, .any, .any, .any, .any, .any, .any, .any, .any, .any, .any, .any, .any, .any, .any]
def f113_c : LC := (.seq (.reg f113_r0 [] none) (.seq (.reg f113_r1 [] none) (.seq (.block 0 (.loop f113_l6)) (.seq (.reg f113_r7 [] none) (.block 2 (.loop f113_l19))))))
theorem f113_lc : Tryd.f113.body.map lc = some f113_c.st := by kernel_rfl
theorem f113_res : Tryd.f113.results.toList = [] := by kernel_rfl
theorem f113_nt : Tryd.f113.ntmps = 63 := by kernel_rfl
theorem f113_nm : (Tryd.f113.name == "runtime.NumGoroutine") = false := by kernel_rfl
/-! quill/null.Null$1 -/
def f114_r0 : List LOp := [
⟨some 1, .box 27 (.tmp 0), none⟩,
⟨some 2, .assign (.const (.bool false)), none⟩]
def f114_r1 : List LOp := [
⟨some 3, .load 27 (.tmp 1), none⟩,
⟨some 4, .buildSlice 25 1 #[(0, .tmp 3)], none⟩,
⟨some 5, .call ⟨.value (.func 23), #[.tmp 4], #[25]⟩, none⟩,
⟨some 6, .unOp .not 4 (.tmp 5), none⟩,
⟨some 7, .move (.tmp 6), none⟩,
⟨some 8, .load 27 (.tmp 1), some (4, false)⟩,
⟨some 9, .call ⟨.value (.func 115), #[.tmp 8], #[27]⟩, some (4, false)⟩,
⟨some 10, .unOp .not 4 (.tmp 9), some (4, false)⟩,
⟨some 11, .pick (.tmp 7) (.const (.bool true)) (.tmp 10), none⟩,
⟨some 2, .assign (.tmp 11), none⟩]
def f114_c : LC := (.seq (.reg f114_r0 [] none) (.seq (.reg f114_r1 [] none) .ret))
theorem f114_lc : Tryd.f114.body.map lc = some f114_c.st := by kernel_rfl
theorem f114_res : Tryd.f114.results.toList = [.tmp 2] := by kernel_rfl
theorem f114_nt : Tryd.f114.ntmps = 12 := by kernel_rfl
theorem f114_nm : (Tryd.f114.name == "runtime.NumGoroutine") = false := by kernel_rfl
/-! quill/null.null -/
def f115_r0 : List LOp := [
⟨some 1, .box 27 (.tmp 0), none⟩,
⟨some 2, .assign (.const (.bool false)), none⟩]
def f115_r1 : List LOp := [
⟨some 3, .fieldAddr 27 (.tmp 1) 0, none⟩,
⟨some 4, .load 5 (.tmp 3), none⟩]
def f115_r2 : List LOp := [
⟨some 6, .binOp .eql 5 (.tmp 4) (.const (.int .u8 2)) 5, none⟩,
⟨some 5, .assign (.tmp 6), none⟩]
def f115_r3 : List LOp := [
⟨some 7, .binOp .eql 5 (.tmp 4) (.const (.int .u8 6)) 5, none⟩,
⟨some 5, .assign (.tmp 7), none⟩]
def f115_r4 : List LOp := [
⟨some 2, .assign (.const (.bool true)), none⟩]
def f115_r5 : List LOp := [
⟨some 9, .binOp .eql 5 (.tmp 4) (.const (.int .u8 4)) 5, none⟩,
⟨some 8, .assign (.tmp 9), none⟩]
def f115_r6 : List LOp := [
⟨some 10, .fieldAddr 27 (.tmp 1) 2, none⟩,
⟨some 11, .load 25 (.tmp 10), none⟩,
⟨some 12, .indexAddr 25 (.tmp 11) (.const (.int .i64 0)), none⟩,
⟨some 13, .load 27 (.tmp 12), none⟩,
⟨some 14, .call ⟨.value (.func 115), #[.tmp 13], #[27]⟩, none⟩,
⟨some 15, .move (.tmp 14), none⟩,
⟨some 16, .fieldAddr 27 (.tmp 1) 2, some (5, true)⟩,
⟨some 17, .load 25 (.tmp 16), some (5, true)⟩,
⟨some 18, .indexAddr 25 (.tmp 17) (.const (.int .i64 1)), some (5, true)⟩,
⟨some 19, .load 27 (.tmp 18), some (5, true)⟩,
⟨some 20, .call ⟨.value (.func 115), #[.tmp 19], #[27]⟩, some (5, true)⟩,
⟨some 21, .pick (.tmp 15) (.tmp 20) (.const (.bool false)), none⟩,
⟨some 2, .assign (.tmp 21), none⟩]
def f115_r7 : List LOp := [
⟨some 23, .binOp .eql 5 (.tmp 4) (.const (.int .u8 5)) 5, none⟩,
⟨some 22, .assign (.tmp 23), none⟩]
def f115_r8 : List LOp := [
⟨some 24, .fieldAddr 27 (.tmp 1) 2, none⟩,
⟨some 25, .load 25 (.tmp 24), none⟩,
⟨some 26, .indexAddr 25 (.tmp 25) (.const (.int .i64 0)), none⟩,
⟨some 27, .load 27 (.tmp 26), none⟩,
⟨some 28, .call ⟨.value (.func 115), #[.tmp 27], #[27]⟩, none⟩,
⟨some 29, .move (.tmp 28), none⟩,
⟨some 30, .fieldAddr 27 (.tmp 1) 2, some (5, false)⟩,
⟨some 31, .load 25 (.tmp 30), some (5, false)⟩,
⟨some 32, .indexAddr 25 (.tmp 31) (.const (.int .i64 1)), some (5, false)⟩,
⟨some 33, .load 27 (.tmp 32), some (5, false)⟩,
⟨some 34, .call ⟨.value (.func 115), #[.tmp 33], #[27]⟩, some (5, false)⟩,
⟨some 35, .pick (.tmp 29) (.const (.bool true)) (.tmp 34), none⟩,
⟨some 2, .assign (.tmp 35), none⟩]
def f115_r9 : List LOp := [
⟨some 2, .assign (.const (.bool false)), none⟩]
def f115_c : LC := (.seq (.reg f115_r0 [] none) (.seq (.seq (.reg f115_r1 [] none) (.block 0 (.seq (.seq (.reg f115_r2 [] none) (.cond (.tmp 5) .skip (.reg f115_r3 [] none))) (.cond (.tmp 5) (.seq (.reg f115_r4 [] none) .ret) (.seq (.reg f115_r5 [] none) (.cond (.tmp 8) (.seq (.reg f115_r6 [] none) .ret) (.seq (.reg f115_r7 [] none) (.cond (.tmp 22) (.seq (.reg f115_r8 [] none) .ret) .skip)))))))) (.seq (.reg f115_r9 [] none) .ret)))
theorem f115_lc : Tryd.f115.body.map lc = some f115_c.st := by kernel_rfl
theorem f115_res : Tryd.f115.results.toList = [.tmp 2] := by kernel_rfl
theorem f115_nt : Tryd.f115.ntmps = 36 := by kernel_rfl
theorem f115_nm : (Tryd.f115.name == "runtime.NumGoroutine") = false := by kernel_rfl
/-! cmp.isNaN[uint64] -/
def f118_r0 : List LOp := [
⟨some 2, .assign (.const (.bool false)), none⟩]
def f118_r1 : List LOp := [
⟨some 3, .move (.tmp 0), none⟩,
⟨some 4, .move (.tmp 0), none⟩,
⟨some 5, .binOp .neq 22 (.tmp 3) (.tmp 4) 22, none⟩,
⟨some 2, .assign (.tmp 5), none⟩]
def f118_c : LC := (.seq (.reg f118_r0 [] none) (.seq (.reg f118_r1 [] none) .ret))
theorem f118_lc : Tryd.f118.body.map lc = some f118_c.st := by kernel_rfl
theorem f118_res : Tryd.f118.results.toList = [.tmp 2] := by kernel_rfl
theorem f118_nt : Tryd.f118.ntmps = 6 := by kernel_rfl
theorem f118_nm : (Tryd.f118.name == "runtime.NumGoroutine") = false := by kernel_rfl
/-! slices.insertionSortCmpFunc[quill/api.Re] -/
def f119_r0 : List LOp := [
⟨some 10, .move (.tmp 1), none⟩,
⟨some 11, .binOp .add 3 (.tmp 10) (.const (.int .i64 1)) 3, none⟩,
⟨some 8, .assign (.tmp 11), none⟩]
def f119_r1 : List LOp := [
⟨some 12, .move (.tmp 8), none⟩,
⟨some 13, .move (.tmp 2), none⟩,
⟨some 14, .binOp .lss 3 (.tmp 12) (.tmp 13) 3, none⟩]
def f119_r2 : List LOp := [
⟨some 17, .move (.tmp 8), none⟩,
⟨some 9, .assign (.tmp 17), none⟩]
def f119_r3 : List LOp := [
⟨some 18, .move (.tmp 9), none⟩,
⟨some 19, .move (.tmp 1), none⟩,
⟨some 20, .binOp .gtr 3 (.tmp 18) (.tmp 19) 3, none⟩,
⟨some 21, .move (.tmp 20), none⟩,
⟨some 22, .move (.tmp 3), some (3, true)⟩,
⟨some 23, .move (.tmp 0), some (3, true)⟩,
⟨some 24, .move (.tmp 9), some (3, true)⟩,
⟨some 25, .indexAddr 25 (.tmp 23) (.tmp 24), some (3, true)⟩,
⟨some 26, .load 27 (.tmp 25), some (3, true)⟩,
⟨some 27, .move (.tmp 0), some (3, true)⟩,
⟨some 28, .move (.tmp 9), some (3, true)⟩,
⟨some 29, .binOp .sub 3 (.tmp 28) (.const (.int .i64 1)) 3, some (3, true)⟩,
⟨some 30, .indexAddr 25 (.tmp 27) (.tmp 29), some (3, true)⟩,
⟨some 31, .load 27 (.tmp 30), some (3, true)⟩,
⟨some 32, .call ⟨.value (.tmp 22), #[.tmp 26, .tmp 31], #[27, 27]⟩, some (3, true)⟩,
⟨some 33, .binOp .lss 3 (.tmp 32) (.const (.int .i64 0)) 3, some (3, true)⟩,
⟨some 34, .pick (.tmp 21) (.tmp 33) (.const (.bool false)), none⟩]
def f119_r4 : List LOp := [
⟨some 37, .move (.tmp 0), none⟩,
⟨some 38, .move (.tmp 9), none⟩,
⟨some 39, .move (.tmp 0), none⟩,
⟨some 40, .move (.tmp 9), none⟩,
⟨some 41, .binOp .sub 3 (.tmp 40) (.const (.int .i64 1)) 3, none⟩,
⟨some 42, .move (.tmp 0), none⟩,
⟨some 43, .move (.tmp 9), none⟩,
⟨some 44, .binOp .sub 3 (.tmp 43) (.const (.int .i64 1)) 3, none⟩,
⟨some 45, .indexAddr 25 (.tmp 42) (.tmp 44), none⟩,
⟨some 46, .load 27 (.tmp 45), none⟩,
⟨some 47, .move (.tmp 0), none⟩,
⟨some 48, .move (.tmp 9), none⟩,
⟨some 49, .indexAddr 25 (.tmp 47) (.tmp 48), none⟩,
⟨some 50, .load 27 (.tmp 49), none⟩,
⟨some 51, .indexAddr 25 (.tmp 37) (.tmp 38), none⟩,
⟨none, .store 27 (.tmp 51) (.tmp 46), none⟩,
⟨some 52, .indexAddr 25 (.tmp 39) (.tmp 41), none⟩,
⟨none, .store 27 (.tmp 52) (.tmp 50), none⟩]
def f119_r5 : List LOp := [
⟨some 35, .move (.tmp 9), none⟩,
⟨some 36, .binOp .sub 3 (.tmp 35) (.const (.int .i64 1)) 3, none⟩,
⟨some 9, .assign (.tmp 36), none⟩]
def f119_l6 : LC := (.seq (.seq (.reg f119_r3 [] (some 14)) (.cond (.tmp 34) .skip (.exit 2))) (.seq (.block 3 (.regp f119_r4 [] [0, 1, 2, 3, 4, 5, 6, 7, 10, 11] 14)) (.reg f119_r5 [] none)))
def f119_i6 (t0 t1 t2 t3 t8 t9 : D) : List D := [t0, t1, t2, t3, .any, .any, .any, .any, t8, t9, .any, .any, .any, .any, .any, .any, .any, .any, .any, .any, .any, .any, .any, .any, .any, .any, .any, .any, .any, .any, .any, .any, .any, .any, .any, .any, .any, .any, .any, .any, .any, .any, .any, .any, .any, .any, .any, .any, .any, .any, .any, .any, .any]
def f119_r7 : List LOp := [
⟨some 15, .move (.tmp 8), none⟩,
⟨some 16, .binOp .add 3 (.tmp 15) (.const (.int .i64 1)) 3, none⟩,
⟨some 8, .assign (.tmp 16), none⟩]
def f119_l8 : LC := (.seq (.seq (.reg f119_r1 [] none) (.cond (.tmp 14) .skip (.exit 0))) (.seq (.block 1 (.seq (.reg f119_r2 [] none) (.block 2 (.loop f119_l6)))) (.reg f119_r7 [] none)))
def f119_i8 (t0 t1 t2 t3 t8 : D) : List D := [t0, t1, t2, t3, .any, .any, .any, .any, t8, .any, .any, .any, .any, .any, .any, .any, .any, .any, .any, .any, .any, .any, .any, .any, .any, .any, .any, .any, .any, .any, .any, .any, .any, .any, .any, .any, .any, .any, .any, .any, .any, .any, .any, .any, .any, .any, .any, .any, .any, .any, .any, .any, .any]
def f119_c : LC := (.seq (.reg f119_r0 [] none) (.block 0 (.loop f119_l8)))
theorem f119_lc : Tryd.f119.body.map lc = some f119_c.st := by kernel_rfl
theorem f119_res : Tryd.f119.results.toList = [] := by kernel_rfl
theorem f119_nt : Tryd.f119.ntmps = 53 := by kernel_rfl
theorem f119_nm : (Tryd.f119.name == "runtime.NumGoroutine") = false := by kernel_rfl
/-! slices.symMergeCmpFunc[quill/api.Re] -/
def f120_r0 : List LOp := [
⟨some 25, .move (.tmp 2), none⟩,
⟨some 26, .move (.tmp 1), none⟩,
⟨some 27, .binOp .sub 3 (.tmp 25) (.tmp 26) 3, none⟩,
⟨some 28, .binOp .eql 3 (.tmp 27) (.const (.int .i64 1)) 3, none⟩]
def f120_r1 : List LOp := [
⟨some 29, .move (.tmp 2), none⟩,
⟨some 10, .assign (.tmp 29), none⟩]
def f120_r2 : List LOp := [
⟨some 30, .move (.tmp 3), none⟩,
⟨some 11, .assign (.tmp 30), none⟩]
def f120_r3 : List LOp := [
⟨some 31, .move (.tmp 10), none⟩,
⟨some 32, .move (.tmp 11), none⟩,
⟨some 33, .binOp .lss 3 (.tmp 31) (.tmp 32) 3, none⟩]
def f120_r4 : List LOp := [
⟨some 34, .move (.tmp 10), none⟩,
⟨some 35, .move (.tmp 11), none⟩,
⟨some 36, .binOp .add 3 (.tmp 34) (.tmp 35) 3, none⟩,
⟨some 37, .convert 3 122 (.tmp 36), none⟩,
⟨some 38, .binOp .shr 122 (.tmp 37) (.const (.int .u64 1)) 122, none⟩,
⟨some 39, .convert 122 3 (.tmp 38), none⟩,
⟨some 12, .assign (.tmp 39), none⟩]
def f120_r5 : List LOp := [
⟨some 40, .move (.tmp 4), none⟩,
⟨some 41, .move (.tmp 0), none⟩,
⟨some 42, .move (.tmp 12), none⟩,
⟨some 43, .indexAddr 25 (.tmp 41) (.tmp 42), none⟩,
⟨some 44, .load 27 (.tmp 43), none⟩,
⟨some 45, .move (.tmp 0), none⟩,
⟨some 46, .move (.tmp 1), none⟩,
⟨some 47, .indexAddr 25 (.tmp 45) (.tmp 46), none⟩,
⟨some 48, .load 27 (.tmp 47), none⟩,
⟨some 49, .call ⟨.value (.tmp 40), #[.tmp 44, .tmp 48], #[27, 27]⟩, none⟩,
⟨some 50, .binOp .lss 3 (.tmp 49) (.const (.int .i64 0)) 3, none⟩]
def f120_r6 : List LOp := [
⟨some 51, .move (.tmp 12), none⟩,
⟨some 52, .binOp .add 3 (.tmp 51) (.const (.int .i64 1)) 3, none⟩,
⟨some 10, .assign (.tmp 52), none⟩]
def f120_r7 : List LOp := [
⟨some 53, .move (.tmp 12), none⟩,
⟨some 11, .assign (.tmp 53), none⟩]
def f120_l8 : LC := (.seq (.seq (.reg f120_r3 [] none) (.cond (.tmp 33) .skip (.exit 0))) (.block 1 (.seq (.reg f120_r4 [] none) (.seq (.reg f120_r5 [] (some 9)) (.cond (.tmp 50) (.reg f120_r6 [] none) (.reg f120_r7 [] none))))))
def f120_i8 (t0 t1 t4 t10 t11 : D) : List D := [t0, t1, .any, .any, t4, .any, .any, .any, .any, .any, t10, t11, .any, .any, .any, .any, .any, .any, .any, .any, .any, .any, .any, .any, .any, .any, .any, .any, .any, .any, .any, .any, .any, .any, .any, .any, .any, .any, .any, .any, .any, .any, .any, .any, .any, .any, .any, .any, .any, .any, .any, .any, .any, .any, .any, .any, .any, .any, .any, .any, .any, .any, .any, .any, .any, .any, .any, .any, .any, .any, .any, .any, .any, .any, .any, .any, .any, .any, .any, .any, .any, .any, .any, .any, .any, .any, .any, .any, .any, .any, .any, .any, .any, .any, .any, .any, .any, .any, .any, .any, .any, .any, .any, .any, .any, .any, .any, .any, .any, .any, .any, .any, .any, .any, .any, .any, .any, .any, .any, .any, .any, .any, .any, .any, .any, .any, .any, .any, .any, .any, .any, .any, .any, .any, .any, .any, .any, .any, .any, .any, .any, .any, .any, .any, .any, .any, .any, .any, .any, .any, .any, .any, .any, .any, .any, .any, .any, .any, .any, .any, .any, .any, .any, .any, .any, .any, .any, .any, .any, .any, .any, .any, .any, .any, .any, .any, .any, .any, .any, .any, .any, .any, .any, .any, .any, .any, .any, .any, .any, .any, .any, .any, .any, .any, .any, .any, .any, .any, .any, .any, .any, .any, .any, .any, .any, .any, .any, .any, .any, .any, .any, .any, .any, .any, .any, .any, .any, .any, .any, .any]
def f120_r9 : List LOp := [
⟨some 54, .move (.tmp 1), none⟩,
⟨some 13, .assign (.tmp 54), none⟩]
def f120_r10 : List LOp := [
⟨some 55, .move (.tmp 13), none⟩,
⟨some 56, .move (.tmp 10), none⟩,
⟨some 57, .binOp .sub 3 (.tmp 56) (.const (.int .i64 1)) 3, none⟩,
⟨some 58, .binOp .lss 3 (.tmp 55) (.tmp 57) 3, none⟩]
def f120_r11 : List LOp := [
⟨some 61, .move (.tmp 0), none⟩,
⟨some 62, .move (.tmp 13), none⟩,
⟨some 63, .move (.tmp 0), none⟩,
⟨some 64, .move (.tmp 13), none⟩,
⟨some 65, .binOp .add 3 (.tmp 64) (.const (.int .i64 1)) 3, none⟩,
⟨some 66, .move (.tmp 0), none⟩,
⟨some 67, .move (.tmp 13), none⟩,
⟨some 68, .binOp .add 3 (.tmp 67) (.const (.int .i64 1)) 3, none⟩,
⟨some 69, .indexAddr 25 (.tmp 66) (.tmp 68), none⟩,
⟨some 70, .load 27 (.tmp 69), none⟩,
⟨some 71, .move (.tmp 0), none⟩,
⟨some 72, .move (.tmp 13), none⟩,
⟨some 73, .indexAddr 25 (.tmp 71) (.tmp 72), none⟩,
⟨some 74, .load 27 (.tmp 73), none⟩,
⟨some 75, .indexAddr 25 (.tmp 61) (.tmp 62), none⟩,
⟨none, .store 27 (.tmp 75) (.tmp 70), none⟩,
⟨some 76, .indexAddr 25 (.tmp 63) (.tmp 65), none⟩,
⟨none, .store 27 (.tmp 76) (.tmp 74), none⟩]
def f120_r12 : List LOp := [
⟨some 59, .move (.tmp 13), none⟩,
⟨some 60, .binOp .add 3 (.tmp 59) (.const (.int .i64 1)) 3, none⟩,
⟨some 13, .assign (.tmp 60), none⟩]
def f120_l13 : LC := (.seq (.seq (.reg f120_r10 [] none) (.cond (.tmp 58) .skip (.exit 2))) (.seq (.block 3 (.regp f120_r11 [] [0, 1, 2, 3, 4, 5, 6, 7, 10, 11] 14)) (.reg f120_r12 [] none)))
def f120_i13 (t0 t10 t13 : D) : List D := [t0, .any, .any, .any, .any, .any, .any, .any, .any, .any, t10, .any, .any, t13, .any, .any, .any, .any, .any, .any, .any, .any, .any, .any, .any, .any, .any, .any, .any, .any, .any, .any, .any, .any, .any, .any, .any, .any, .any, .any, .any, .any, .any, .any, .any, .any, .any, .any, .any, .any, .any, .any, .any, .any, .any, .any, .any, .any, .any, .any, .any, .any, .any, .any, .any, .any, .any, .any, .any, .any, .any, .any, .any, .any, .any, .any, .any, .any, .any, .any, .any, .any, .any, .any, .any, .any, .any, .any, .any, .any, .any, .any, .any, .any, .any, .any, .any, .any, .any, .any, .any, .any, .any, .any, .any, .any, .any, .any, .any, .any, .any, .any, .any, .any, .any, .any, .any, .any, .any, .any, .any, .any, .any, .any, .any, .any, .any, .any, .any, .any, .any, .any, .any, .any, .any, .any, .any, .any, .any, .any, .any, .any, .any, .any, .any, .any, .any, .any, .any, .any, .any, .any, .any, .any, .any, .any, .any, .any, .any, .any, .any, .any, .any, .any, .any, .any, .any, .any, .any, .any, .any, .any, .any, .any, .any, .any, .any, .any, .any, .any, .any, .any, .any, .any, .any, .any, .any, .any, .any, .any, .any, .any, .any, .any, .any, .any, .any, .any, .any, .any, .any, .any, .any, .any, .any, .any, .any, .any, .any, .any, .any, .any, .any, .any, .any, .any, .any, .any, .any, .any]
def f120_r14 : List LOp := [
⟨some 77, .move (.tmp 3), none⟩,
⟨some 78, .move (.tmp 2), none⟩,
⟨some 79, .binOp .sub 3 (.tmp 77) (.tmp 78) 3, none⟩,
⟨some 80, .binOp .eql 3 (.tmp 79) (.const (.int .i64 1)) 3, none⟩]
def f120_r15 : List LOp := [
⟨some 81, .move (.tmp 1), none⟩,
⟨some 14, .assign (.tmp 81), none⟩]
def f120_r16 : List LOp := [
⟨some 82, .move (.tmp 2), none⟩,
⟨some 15, .assign (.tmp 82), none⟩]
def f120_r17 : List LOp := [
⟨some 83, .move (.tmp 14), none⟩,
⟨some 84, .move (.tmp 15), none⟩,
⟨some 85, .binOp .lss 3 (.tmp 83) (.tmp 84) 3, none⟩]
def f120_r18 : List LOp := [
⟨some 86, .move (.tmp 14), none⟩,
⟨some 87, .move (.tmp 15), none⟩,
⟨some 88, .binOp .add 3 (.tmp 86) (.tmp 87) 3, none⟩,
⟨some 89, .convert 3 122 (.tmp 88), none⟩,
⟨some 90, .binOp .shr 122 (.tmp 89) (.const (.int .u64 1)) 122, none⟩,
⟨some 91, .convert 122 3 (.tmp 90), none⟩,
⟨some 16, .assign (.tmp 91), none⟩]
def f120_r19 : List LOp := [
⟨some 92, .move (.tmp 4), none⟩,
⟨some 93, .move (.tmp 0), none⟩,
⟨some 94, .move (.tmp 2), none⟩,
⟨some 95, .indexAddr 25 (.tmp 93) (.tmp 94), none⟩,
⟨some 96, .load 27 (.tmp 95), none⟩,
⟨some 97, .move (.tmp 0), none⟩,
⟨some 98, .move (.tmp 16), none⟩,
⟨some 99, .indexAddr 25 (.tmp 97) (.tmp 98), none⟩,
⟨some 100, .load 27 (.tmp 99), none⟩,
⟨some 101, .call ⟨.value (.tmp 92), #[.tmp 96, .tmp 100], #[27, 27]⟩, none⟩,
⟨some 102, .binOp .lss 3 (.tmp 101) (.const (.int .i64 0)) 3, none⟩,
⟨some 103, .unOp .not 4 (.tmp 102), none⟩]
def f120_r20 : List LOp := [
⟨some 104, .move (.tmp 16), none⟩,
⟨some 105, .binOp .add 3 (.tmp 104) (.const (.int .i64 1)) 3, none⟩,
⟨some 14, .assign (.tmp 105), none⟩]
def f120_r21 : List LOp := [
⟨some 106, .move (.tmp 16), none⟩,
⟨some 15, .assign (.tmp 106), none⟩]
def f120_l22 : LC := (.seq (.seq (.reg f120_r17 [] none) (.cond (.tmp 85) .skip (.exit 4))) (.block 5 (.seq (.reg f120_r18 [] none) (.seq (.reg f120_r19 [] (some 9)) (.cond (.tmp 103) (.reg f120_r20 [] none) (.reg f120_r21 [] none))))))
def f120_i22 (t0 t2 t4 t14 t15 : D) : List D := [t0, .any, t2, .any, t4, .any, .any, .any, .any, .any, .any, .any, .any, .any, t14, t15, .any, .any, .any, .any, .any, .any, .any, .any, .any, .any, .any, .any, .any, .any, .any, .any, .any, .any, .any, .any, .any, .any, .any, .any, .any, .any, .any, .any, .any, .any, .any, .any, .any, .any, .any, .any, .any, .any, .any, .any, .any, .any, .any, .any, .any, .any, .any, .any, .any, .any, .any, .any, .any, .any, .any, .any, .any, .any, .any, .any, .any, .any, .any, .any, .any, .any, .any, .any, .any, .any, .any, .any, .any, .any, .any, .any, .any, .any, .any, .any, .any, .any, .any, .any, .any, .any, .any, .any, .any, .any, .any, .any, .any, .any, .any, .any, .any, .any, .any, .any, .any, .any, .any, .any, .any, .any, .any, .any, .any, .any, .any, .any, .any, .any, .any, .any, .any, .any, .any, .any, .any, .any, .any, .any, .any, .any, .any, .any, .any, .any, .any, .any, .any, .any, .any, .any, .any, .any, .any, .any, .any, .any, .any, .any, .any, .any, .any, .any, .any, .any, .any, .any, .any, .any, .any, .any, .any, .any, .any, .any, .any, .any, .any, .any, .any, .any, .any, .any, .any, .any, .any, .any, .any, .any, .any, .any, .any, .any, .any, .any, .any, .any, .any, .any, .any, .any, .any, .any, .any, .any, .any, .any, .any, .any, .any, .any, .any, .any, .any, .any, .any, .any, .any, .any]
def f120_r23 : List LOp := [
⟨some 107, .move (.tmp 2), none⟩,
⟨some 17, .assign (.tmp 107), none⟩]
def f120_r24 : List LOp := [
⟨some 108, .move (.tmp 17), none⟩,
⟨some 109, .move (.tmp 14), none⟩,
⟨some 110, .binOp .gtr 3 (.tmp 108) (.tmp 109) 3, none⟩]
def f120_r25 : List LOp := [
⟨some 113, .move (.tmp 0), none⟩,
⟨some 114, .move (.tmp 17), none⟩,
⟨some 115, .move (.tmp 0), none⟩,
⟨some 116, .move (.tmp 17), none⟩,
⟨some 117, .binOp .sub 3 (.tmp 116) (.const (.int .i64 1)) 3, none⟩,
⟨some 118, .move (.tmp 0), none⟩,
⟨some 119, .move (.tmp 17), none⟩,
⟨some 120, .binOp .sub 3 (.tmp 119) (.const (.int .i64 1)) 3, none⟩,
⟨some 121, .indexAddr 25 (.tmp 118) (.tmp 120), none⟩,
⟨some 122, .load 27 (.tmp 121), none⟩,
⟨some 123, .move (.tmp 0), none⟩,
⟨some 124, .move (.tmp 17), none⟩,
⟨some 125, .indexAddr 25 (.tmp 123) (.tmp 124), none⟩,
⟨some 126, .load 27 (.tmp 125), none⟩,
⟨some 127, .indexAddr 25 (.tmp 113) (.tmp 114), none⟩,
⟨none, .store 27 (.tmp 127) (.tmp 122), none⟩,
⟨some 128, .indexAddr 25 (.tmp 115) (.tmp 117), none⟩,
⟨none, .store 27 (.tmp 128) (.tmp 126), none⟩]
def f120_r26 : List LOp := [
⟨some 111, .move (.tmp 17), none⟩,
⟨some 112, .binOp .sub 3 (.tmp 111) (.const (.int .i64 1)) 3, none⟩,
⟨some 17, .assign (.tmp 112), none⟩]
def f120_l27 : LC := (.seq (.seq (.reg f120_r24 [] none) (.cond (.tmp 110) .skip (.exit 6))) (.seq (.block 7 (.regp f120_r25 [] [0, 1, 2, 3, 4, 5, 6, 7, 10, 11] 14)) (.reg f120_r26 [] none)))
def f120_i27 (t0 t14 t17 : D) : List D := [t0, .any, .any, .any, .any, .any, .any, .any, .any, .any, .any, .any, .any, .any, t14, .any, .any, t17, .any, .any, .any, .any, .any, .any, .any, .any, .any, .any, .any, .any, .any, .any, .any, .any, .any, .any, .any, .any, .any, .any, .any, .any, .any, .any, .any, .any, .any, .any, .any, .any, .any, .any, .any, .any, .any, .any, .any, .any, .any, .any, .any, .any, .any, .any, .any, .any, .any, .any, .any, .any, .any, .any, .any, .any, .any, .any, .any, .any, .any, .any, .any, .any, .any, .any, .any, .any, .any, .any, .any, .any, .any, .any, .any, .any, .any, .any, .any, .any, .any, .any, .any, .any, .any, .any, .any, .any, .any, .any, .any, .any, .any, .any, .any, .any, .any, .any, .any, .any, .any, .any, .any, .any, .any, .any, .any, .any, .any, .any, .any, .any, .any, .any, .any, .any, .any, .any, .any, .any, .any, .any, .any, .any, .any, .any, .any, .any, .any, .any, .any, .any, .any, .any, .any, .any, .any, .any, .any, .any, .any, .any, .any, .any, .any, .any, .any, .any, .any, .any, .any, .any, .any, .any, .any, .any, .any, .any, .any, .any, .any, .any, .any, .any, .any, .any, .any, .any, .any, .any, .any, .any, .any, .any, .any, .any, .any, .any, .any, .any, .any, .any, .any, .any, .any, .any, .any, .any, .any, .any, .any, .any, .any, .any, .any, .any, .any, .any, .any, .any, .any, .any]
def f120_r28 : List LOp := [
⟨some 129, .move (.tmp 1), none⟩,
⟨some 130, .move (.tmp 3), none⟩,
⟨some 131, .binOp .add 3 (.tmp 129) (.tmp 130) 3, none⟩,
⟨some 132, .convert 3 122 (.tmp 131), none⟩,
⟨some 133, .binOp .shr 122 (.tmp 132) (.const (.int .u64 1)) 122, none⟩,
⟨some 134, .convert 122 3 (.tmp 133), none⟩,
⟨some 18, .assign (.tmp 134), none⟩]
def f120_r29 : List LOp := [
⟨some 135, .move (.tmp 18), none⟩,
⟨some 136, .move (.tmp 2), none⟩,
⟨some 137, .binOp .add 3 (.tmp 135) (.tmp 136) 3, none⟩,
⟨some 19, .assign (.tmp 137), none⟩]
def f120_r30 : List LOp := [
⟨some 20, .assign (.const (.int .i64 0)), none⟩,
⟨some 21, .assign (.const (.int .i64 0)), none⟩]
def f120_r31 : List LOp := [
⟨some 138, .move (.tmp 2), none⟩,
⟨some 139, .move (.tmp 18), none⟩,
⟨some 140, .binOp .gtr 3 (.tmp 138) (.tmp 139) 3, none⟩]
def f120_r32 : List LOp := [
⟨some 141, .move (.tmp 19), none⟩,
⟨some 142, .move (.tmp 3), none⟩,
⟨some 143, .binOp .sub 3 (.tmp 141) (.tmp 142) 3, none⟩,
⟨some 20, .assign (.tmp 143), none⟩]
def f120_r33 : List LOp := [
⟨some 144, .move (.tmp 18), none⟩,
⟨some 21, .assign (.tmp 144), none⟩]
def f120_r34 : List LOp := [
⟨some 145, .move (.tmp 1), none⟩,
⟨some 20, .assign (.tmp 145), none⟩]
def f120_r35 : List LOp := [
⟨some 146, .move (.tmp 2), none⟩,
⟨some 21, .assign (.tmp 146), none⟩]
def f120_r36 : List LOp := [
⟨some 147, .move (.tmp 19), none⟩,
⟨some 148, .binOp .sub 3 (.tmp 147) (.const (.int .i64 1)) 3, none⟩,
⟨some 22, .assign (.tmp 148), none⟩]
def f120_r37 : List LOp := [
⟨some 149, .move (.tmp 20), none⟩,
⟨some 150, .move (.tmp 21), none⟩,
⟨some 151, .binOp .lss 3 (.tmp 149) (.tmp 150) 3, none⟩]
def f120_r38 : List LOp := [
⟨some 152, .move (.tmp 20), none⟩,
⟨some 153, .move (.tmp 21), none⟩,
⟨some 154, .binOp .add 3 (.tmp 152) (.tmp 153) 3, none⟩,
⟨some 155, .convert 3 122 (.tmp 154), none⟩,
⟨some 156, .binOp .shr 122 (.tmp 155) (.const (.int .u64 1)) 122, none⟩,
⟨some 157, .convert 122 3 (.tmp 156), none⟩,
⟨some 23, .assign (.tmp 157), none⟩]
def f120_r39 : List LOp := [
⟨some 158, .move (.tmp 4), none⟩,
⟨some 159, .move (.tmp 0), none⟩,
⟨some 160, .move (.tmp 22), none⟩,
⟨some 161, .move (.tmp 23), none⟩,
⟨some 162, .binOp .sub 3 (.tmp 160) (.tmp 161) 3, none⟩,
⟨some 163, .indexAddr 25 (.tmp 159) (.tmp 162), none⟩,
⟨some 164, .load 27 (.tmp 163), none⟩,
⟨some 165, .move (.tmp 0), none⟩,
⟨some 166, .move (.tmp 23), none⟩,
⟨some 167, .indexAddr 25 (.tmp 165) (.tmp 166), none⟩,
⟨some 168, .load 27 (.tmp 167), none⟩,
⟨some 169, .call ⟨.value (.tmp 158), #[.tmp 164, .tmp 168], #[27, 27]⟩, none⟩,
⟨some 170, .binOp .lss 3 (.tmp 169) (.const (.int .i64 0)) 3, none⟩,
⟨some 171, .unOp .not 4 (.tmp 170), none⟩]
def f120_r40 : List LOp := [
⟨some 172, .move (.tmp 23), none⟩,
⟨some 173, .binOp .add 3 (.tmp 172) (.const (.int .i64 1)) 3, none⟩,
⟨some 20, .assign (.tmp 173), none⟩]
def f120_r41 : List LOp := [
⟨some 174, .move (.tmp 23), none⟩,
⟨some 21, .assign (.tmp 174), none⟩]
def f120_l42 : LC := (.seq (.seq (.reg f120_r37 [] none) (.cond (.tmp 151) .skip (.exit 8))) (.block 9 (.seq (.reg f120_r38 [] none) (.seq (.reg f120_r39 [] (some 11)) (.cond (.tmp 171) (.reg f120_r40 [] none) (.reg f120_r41 [] none))))))
def f120_i42 (t0 t1 t2 t3 t4 t18 t19 t20 t21 t22 : D) : List D := [t0, t1, t2, t3, t4, .any, .any, .any, .any, .any, .any, .any, .any, .any, .any, .any, .any, .any, t18, t19, t20, t21, t22, .any, .any, .any, .any, .any, .any, .any, .any, .any, .any, .any, .any, .any, .any, .any, .any, .any, .any, .any, .any, .any, .any, .any, .any, .any, .any, .any, .any, .any, .any, .any, .any, .any, .any, .any, .any, .any, .any, .any, .any, .any, .any, .any, .any, .any, .any, .any, .any, .any, .any, .any, .any, .any, .any, .any, .any, .any, .any, .any, .any, .any, .any, .any, .any, .any, .any, .any, .any, .any, .any, .any, .any, .any, .any, .any, .any, .any, .any, .any, .any, .any, .any, .any, .any, .any, .any, .any, .any, .any, .any, .any, .any, .any, .any, .any, .any, .any, .any, .any, .any, .any, .any, .any, .any, .any, .any, .any, .any, .any, .any, .any, .any, .any, .any, .any, .any, .any, .any, .any, .any, .any, .any, .any, .any, .any, .any, .any, .any, .any, .any, .any, .any, .any, .any, .any, .any, .any, .any, .any, .any, .any, .any, .any, .any, .any, .any, .any, .any, .any, .any, .any, .any, .any, .any, .any, .any, .any, .any, .any, .any, .any, .any, .any, .any, .any, .any, .any, .any, .any, .any, .any, .any, .any, .any, .any, .any, .any, .any, .any, .any, .any, .any, .any, .any, .any, .any, .any, .any, .any, .any, .any, .any, .any, .any, .any, .any, .any]
def f120_r43 : List LOp := [
⟨some 175, .move (.tmp 19), none⟩,
⟨some 176, .move (.tmp 20), none⟩,
⟨some 177, .binOp .sub 3 (.tmp 175) (.tmp 176) 3, none⟩,
⟨some 24, .assign (.tmp 177), none⟩]
def f120_r44 : List LOp := [
⟨some 178, .move (.tmp 20), none⟩,
⟨some 179, .move (.tmp 2), none⟩,
⟨some 180, .binOp .lss 3 (.tmp 178) (.tmp 179) 3, none⟩,
⟨some 181, .move (.tmp 180), none⟩,
⟨some 182, .move (.tmp 2), some (3, true)⟩,
⟨some 183, .move (.tmp 24), some (3, true)⟩,
⟨some 184, .binOp .lss 3 (.tmp 182) (.tmp 183) 3, some (3, true)⟩,
⟨some 185, .pick (.tmp 181) (.tmp 184) (.const (.bool false)), none⟩]
def f120_r45 : List LOp := [
⟨some 186, .move (.tmp 0), none⟩,
⟨some 187, .move (.tmp 20), none⟩,
⟨some 188, .move (.tmp 2), none⟩,
⟨some 189, .move (.tmp 24), none⟩,
⟨some 190, .move (.tmp 4), none⟩,
⟨some 191, .call ⟨.value (.func 121), #[.tmp 186, .tmp 187, .tmp 188, .tmp 189, .tmp 190], #[25, 3, 3, 3, 112]⟩, none⟩]
def f120_r46 : List LOp := [
⟨some 192, .move (.tmp 1), none⟩,
⟨some 193, .move (.tmp 20), none⟩,
⟨some 194, .binOp .lss 3 (.tmp 192) (.tmp 193) 3, none⟩,
⟨some 195, .move (.tmp 194), none⟩,
⟨some 196, .move (.tmp 20), some (3, true)⟩,
⟨some 197, .move (.tmp 18), some (3, true)⟩,
⟨some 198, .binOp .lss 3 (.tmp 196) (.tmp 197) 3, some (3, true)⟩,
⟨some 199, .pick (.tmp 195) (.tmp 198) (.const (.bool false)), none⟩]
def f120_r47 : List LOp := [
⟨some 200, .move (.tmp 0), none⟩,
⟨some 201, .move (.tmp 1), none⟩,
⟨some 202, .move (.tmp 20), none⟩,
⟨some 203, .move (.tmp 18), none⟩,
⟨some 204, .move (.tmp 4), none⟩,
⟨some 205, .call ⟨.value (.func 120), #[.tmp 200, .tmp 201, .tmp 202, .tmp 203, .tmp 204], #[25, 3, 3, 3, 112]⟩, none⟩]
def f120_r48 : List LOp := [
⟨some 206, .move (.tmp 18), none⟩,
⟨some 207, .move (.tmp 24), none⟩,
⟨some 208, .binOp .lss 3 (.tmp 206) (.tmp 207) 3, none⟩,
⟨some 209, .move (.tmp 208), none⟩,
⟨some 210, .move (.tmp 24), some (3, true)⟩,
⟨some 211, .move (.tmp 3), some (3, true)⟩,
⟨some 212, .binOp .lss 3 (.tmp 210) (.tmp 211) 3, some (3, true)⟩,
⟨some 213, .pick (.tmp 209) (.tmp 212) (.const (.bool false)), none⟩]
def f120_r49 : List LOp := [
⟨some 214, .move (.tmp 0), none⟩,
⟨some 215, .move (.tmp 18), none⟩,
⟨some 216, .move (.tmp 24), none⟩,
⟨some 217, .move (.tmp 3), none⟩,
⟨some 218, .move (.tmp 4), none⟩,
⟨some 219, .call ⟨.value (.func 120), #[.tmp 214, .tmp 215, .tmp 216, .tmp 217, .tmp 218], #[25, 3, 3, 3, 112]⟩, none⟩]
def f120_c : LC := (.seq (.seq (.reg f120_r0 [] none) (.cond (.tmp 28) (.seq (.reg f120_r1 [] none) (.seq (.reg f120_r2 [] none) (.seq (.block 0 (.loop f120_l8)) (.seq (.seq (.reg f120_r9 [] none) (.block 2 (.loop f120_l13))) .ret)))) .skip)) (.seq (.seq (.reg f120_r14 [] none) (.cond (.tmp 80) (.seq (.reg f120_r15 [] none) (.seq (.reg f120_r16 [] none) (.seq (.block 4 (.loop f120_l22)) (.seq (.seq (.reg f120_r23 [] none) (.block 6 (.loop f120_l27))) .ret)))) .skip)) (.seq (.reg f120_r28 [] none) (.seq (.reg f120_r29 [] none) (.seq (.reg f120_r30 [] none) (.seq (.seq (.reg f120_r31 [] none) (.cond (.tmp 140) (.seq (.reg f120_r32 [] none) (.reg f120_r33 [] none)) (.seq (.reg f120_r34 [] none) (.reg f120_r35 [] none)))) (.seq (.reg f120_r36 [] none) (.seq (.block 8 (.loop f120_l42)) (.seq (.reg f120_r43 [] none) (.seq (.seq (.reg f120_r44 [] none) (.cond (.tmp 185) (.reg f120_r45 [] none) .skip)) (.seq (.seq (.reg f120_r46 [] none) (.cond (.tmp 199) (.reg f120_r47 [] none) .skip)) (.seq (.reg f120_r48 [] none) (.cond (.tmp 213) (.reg f120_r49 [] none) .skip)))))))))))))
theorem f120_lc : Tryd.f120.body.map lc = some f120_c.st := by kernel_rfl
theorem f120_res : Tryd.f120.results.toList = [] := by kernel_rfl
theorem f120_nt : Tryd.f120.ntmps = 220 := by kernel_rfl
theorem f120_nm : (Tryd.f120.name == "runtime.NumGoroutine") = false := by kernel_rfl
/-! slices.rotateCmpFunc[quill/api.Re] -/
def f121_r0 : List LOp := [
⟨some 12, .move (.tmp 2), none⟩,
⟨some 13, .move (.tmp 1), none⟩,
⟨some 14, .binOp .sub 3 (.tmp 12) (.tmp 13) 3, none⟩,
⟨some 10, .assign (.tmp 14), none⟩]
def f121_r1 : List LOp := [
⟨some 15, .move (.tmp 3), none⟩,
⟨some 16, .move (.tmp 2), none⟩,
⟨some 17, .binOp .sub 3 (.tmp 15) (.tmp 16) 3, none⟩,
⟨some 11, .assign (.tmp 17), none⟩]
def f121_r2 : List LOp := [
⟨some 18, .move (.tmp 10), none⟩,
⟨some 19, .move (.tmp 11), none⟩,
⟨some 20, .binOp .neq 3 (.tmp 18) (.tmp 19) 3, none⟩]
def f121_r3 : List LOp := [
⟨some 21, .move (.tmp 10), none⟩,
⟨some 22, .move (.tmp 11), none⟩,
⟨some 23, .binOp .gtr 3 (.tmp 21) (.tmp 22) 3, none⟩]
def f121_r4 : List LOp := [
⟨some 24, .move (.tmp 0), none⟩,
⟨some 25, .move (.tmp 2), none⟩,
⟨some 26, .move (.tmp 10), none⟩,
⟨some 27, .binOp .sub 3 (.tmp 25) (.tmp 26) 3, none⟩,
⟨some 28, .move (.tmp 2), none⟩,
⟨some 29, .move (.tmp 11), none⟩,
⟨some 30, .move (.tmp 4), none⟩,
⟨some 31, .call ⟨.value (.func 122), #[.tmp 24, .tmp 27, .tmp 28, .tmp 29, .tmp 30], #[25, 3, 3, 3, 112]⟩, none⟩]
def f121_r5 : List LOp := [
⟨some 32, .move (.tmp 10), none⟩,
⟨some 33, .move (.tmp 11), none⟩,
⟨some 34, .binOp .sub 3 (.tmp 32) (.tmp 33) 3, none⟩,
⟨some 10, .assign (.tmp 34), none⟩]
def f121_r6 : List LOp := [
⟨some 35, .move (.tmp 0), none⟩,
⟨some 36, .move (.tmp 2), none⟩,
⟨some 37, .move (.tmp 10), none⟩,
⟨some 38, .binOp .sub 3 (.tmp 36) (.tmp 37) 3, none⟩,
⟨some 39, .move (.tmp 2), none⟩,
⟨some 40, .move (.tmp 11), none⟩,
⟨some 41, .binOp .add 3 (.tmp 39) (.tmp 40) 3, none⟩,
⟨some 42, .move (.tmp 10), none⟩,
⟨some 43, .binOp .sub 3 (.tmp 41) (.tmp 42) 3, none⟩,
⟨some 44, .move (.tmp 10), none⟩,
⟨some 45, .move (.tmp 4), none⟩,
⟨some 46, .call ⟨.value (.func 122), #[.tmp 35, .tmp 38, .tmp 43, .tmp 44, .tmp 45], #[25, 3, 3, 3, 112]⟩, none⟩]
def f121_r7 : List LOp := [
⟨some 47, .move (.tmp 11), none⟩,
⟨some 48, .move (.tmp 10), none⟩,
⟨some 49, .binOp .sub 3 (.tmp 47) (.tmp 48) 3, none⟩,
⟨some 11, .assign (.tmp 49), none⟩]
def f121_l8 : LC := (.seq (.seq (.reg f121_r2 [] none) (.cond (.tmp 20) .skip (.exit 0))) (.block 1 (.seq (.reg f121_r3 [] none) (.cond (.tmp 23) (.seq (.reg f121_r4 [] none) (.reg f121_r5 [] none)) (.seq (.reg f121_r6 [] none) (.reg f121_r7 [] none))))))
def f121_i8 (t0 t2 t4 t10 t11 : D) : List D := [t0, .any, t2, .any, t4, .any, .any, .any, .any, .any, t10, t11, .any, .any, .any, .any, .any, .any, .any, .any, .any, .any, .any, .any, .any, .any, .any, .any, .any, .any, .any, .any, .any, .any, .any, .any, .any, .any, .any, .any, .any, .any, .any, .any, .any, .any, .any, .any, .any, .any, .any, .any, .any, .any, .any, .any, .any, .any]
def f121_r9 : List LOp := [
⟨some 50, .move (.tmp 0), none⟩,
⟨some 51, .move (.tmp 2), none⟩,
⟨some 52, .move (.tmp 10), none⟩,
⟨some 53, .binOp .sub 3 (.tmp 51) (.tmp 52) 3, none⟩,
⟨some 54, .move (.tmp 2), none⟩,
⟨some 55, .move (.tmp 10), none⟩,
⟨some 56, .move (.tmp 4), none⟩,
⟨some 57, .call ⟨.value (.func 122), #[.tmp 50, .tmp 53, .tmp 54, .tmp 55, .tmp 56], #[25, 3, 3, 3, 112]⟩, none⟩]
def f121_c : LC := (.seq (.reg f121_r0 [] none) (.seq (.reg f121_r1 [] none) (.seq (.block 0 (.loop f121_l8)) (.reg f121_r9 [] none))))
theorem f121_lc : Tryd.f121.body.map lc = some f121_c.st := by kernel_rfl
theorem f121_res : Tryd.f121.results.toList = [] := by kernel_rfl
theorem f121_nt : Tryd.f121.ntmps = 58 := by kernel_rfl
theorem f121_nm : (Tryd.f121.name == "runtime.NumGoroutine") = false := by kernel_rfl
/-! slices.swapRangeCmpFunc[quill/api.Re] -/
def f122_r0 : List LOp := [
⟨some 10, .assign (.const (.int .i64 0)), none⟩]
def f122_r1 : List LOp := [
⟨some 11, .move (.tmp 10), none⟩,
⟨some 12, .move (.tmp 3), none⟩,
⟨some 13, .binOp .lss 3 (.tmp 11) (.tmp 12) 3, none⟩]
def f122_r2 : List LOp := [
⟨some 16, .move (.tmp 0), none⟩,
⟨some 17, .move (.tmp 1), none⟩,
⟨some 18, .move (.tmp 10), none⟩,
⟨some 19, .binOp .add 3 (.tmp 17) (.tmp 18) 3, none⟩,
⟨some 20, .move (.tmp 0), none⟩,
⟨some 21, .move (.tmp 2), none⟩,
⟨some 22, .move (.tmp 10), none⟩,
⟨some 23, .binOp .add 3 (.tmp 21) (.tmp 22) 3, none⟩,
⟨some 24, .move (.tmp 0), none⟩,
⟨some 25, .move (.tmp 2), none⟩,
⟨some 26, .move (.tmp 10), none⟩,
⟨some 27, .binOp .add 3 (.tmp 25) (.tmp 26) 3, none⟩,
⟨some 28, .indexAddr 25 (.tmp 24) (.tmp 27), none⟩,
⟨some 29, .load 27 (.tmp 28), none⟩,
⟨some 30, .move (.tmp 0), none⟩,
⟨some 31, .move (.tmp 1), none⟩,
⟨some 32, .move (.tmp 10), none⟩,
⟨some 33, .binOp .add 3 (.tmp 31) (.tmp 32) 3, none⟩,
⟨some 34, .indexAddr 25 (.tmp 30) (.tmp 33), none⟩,
⟨some 35, .load 27 (.tmp 34), none⟩,
⟨some 36, .indexAddr 25 (.tmp 16) (.tmp 19), none⟩,
⟨none, .store 27 (.tmp 36) (.tmp 29), none⟩,
⟨some 37, .indexAddr 25 (.tmp 20) (.tmp 23), none⟩,
⟨none, .store 27 (.tmp 37) (.tmp 35), none⟩]
def f122_r3 : List LOp := [
⟨some 14, .move (.tmp 10), none⟩,
⟨some 15, .binOp .add 3 (.tmp 14) (.const (.int .i64 1)) 3, none⟩,
⟨some 10, .assign (.tmp 15), none⟩]
def f122_l4 : LC := (.seq (.seq (.reg f122_r1 [] none) (.cond (.tmp 13) .skip (.exit 0))) (.seq (.block 1 (.regp f122_r2 [] [0, 1, 2, 3, 4, 5, 6, 7, 8, 9, 10, 11, 14, 15, 16, 17] 20)) (.reg f122_r3 [] none)))
def f122_i4 (t0 t1 t2 t3 t10 : D) : List D := [t0, t1, t2, t3, .any, .any, .any, .any, .any, .any, t10, .any, .any, .any, .any, .any, .any, .any, .any, .any, .any, .any, .any, .any, .any, .any, .any, .any, .any, .any, .any, .any, .any, .any, .any, .any, .any, .any]
def f122_c : LC := (.seq (.reg f122_r0 [] none) (.block 0 (.loop f122_l4)))
theorem f122_lc : Tryd.f122.body.map lc = some f122_c.st := by kernel_rfl
theorem f122_res : Tryd.f122.results.toList = [] := by kernel_rfl
theorem f122_nt : Tryd.f122.ntmps = 38 := by kernel_rfl
theorem f122_nm : (Tryd.f122.name == "runtime.NumGoroutine") = false := by kernel_rfl
/-! gosem.cut.vars -/
attribute [go_sem] f5_r0 f5_r1 f5_r2 f5_r3 f5_r4 f5_r5 f5_r6 f5_r7 f5_r8 f5_c f11_r0 f11_r1 f11_r2 f11_r3 f11_r4 f11_r5 f11_r6 f11_r7 f11_r8 f11_l9 f11_i9 f11_r10 f11_c f16_r0 f16_r1 f16_r2 f16_r3 f16_c f17_r0 f17_r1 f17_r2 f17_r3 f17_c f18_r0 f18_r1 f18_r2 f18_r3 f18_r4 f18_c f30_r0 f30_r1 f30_r2 f30_r3 f30_r4 f30_r5 f30_r6 f30_r7 f30_r8 f30_c f31_r0 f31_r1 f31_r2 f31_r3 f31_r4 f31_r5 f31_r6 f31_r7 f31_r8 f31_r9 f31_r10 f31_r11 f31_l12 f31_i12 f31_r13 f31_c f47_r0 f47_r1 f47_c f48_r0 f48_r1 f48_r2 f48_r3 f48_r4 f48_r5 f48_r6 f48_r7 f48_l8 f48_i8 f48_r9 f48_c f49_r0 f49_r1 f49_r2 f49_r3 f49_r4 f49_r5 f49_r6 f49_r7 f49_r8 f49_r9 f49_c f50_r0 f50_r1 f50_r2 f50_r3 f50_r4 f50_r5 f50_c f51_r0 f51_r1 f51_r2 f51_r3 f51_r4 f51_r5 f51_r6 f51_r7 f51_c f52_r0 f52_r1 f52_r2 f52_r3 f52_r4 f52_c f68_r0 f68_r1 f68_r2 f68_r3 f68_r4 f68_r5 f68_r6 f68_r7 f68_r8 f68_r9 f68_r10 f68_l11 f68_i11 f68_r12 f68_r13 f68_c f69_r0 f69_r1 f69_r2 f69_r3 f69_r4 f69_r5 f69_r6 f69_r7 f69_r8 f69_r9 f69_r10 f69_l11 f69_i11 f69_r12 f69_c f70_r0 f70_r1 f70_r2 f70_r3 f70_c f73_r0 f73_r1 f73_r2 f73_r3 f73_r4 f73_r5 f73_r6 f73_r7 f73_l8 f73_i8 f73_r9 f73_c f74_r0 f74_r1 f74_c f76_r0 f76_r1 f76_r2 f76_r3 f76_r4 f76_r5 f76_r6 f76_c f85_r0 f85_r1 f85_c f86_r0 f86_r1 f86_c f87_r0 f87_r1 f87_r2 f87_r3 f87_c f88_r0 f88_r1 f88_c f89_r0 f89_r1 f89_r2 f89_r3 f89_r4 f89_r5 f89_r6 f89_r7 f89_r8 f89_r9 f89_r10 f89_r11 f89_r12 f89_r13 f89_r14 f89_r15 f89_c f94_r0 f94_r1 f94_r2 f94_r3 f94_r4 f94_r5 f94_r6 f94_r7 f94_l8 f94_i8 f94_r9 f94_c f95_r0 f95_r1 f95_r2 f95_r3 f95_r4 f95_r5 f95_r6 f95_r7 f95_r8 f95_r9 f95_r10 f95_r11 f95_r12 f95_r13 f95_c f96_r0 f96_r1 f96_c f97_r0 f97_r1 f97_r2 f97_r3 f97_r4 f97_r5 f97_r6 f97_r7 f97_r8 f97_r9 f97_r10 f97_l11 f97_i11 f97_r12 f97_r13 f97_r14 f97_c f98_r0 f98_r1 f98_c f99_r0 f99_c f100_r0 f100_r1 f100_r2 f100_r3 f100_r4 f100_l5 f100_i5 f100_c f101_r0 f101_r1 f101_c f109_r0 f109_r1 f109_c f110_r0 f110_r1 f110_r2 f110_r3 f110_r4 f110_r5 f110_r6 f110_r7 f110_r8 f110_r9 f110_r10 f110_l11 f110_i11 f110_r12 f110_r13 f110_r14 f110_c f111_r0 f111_r1 f111_r2 f111_r3 f111_r4 f111_r5 f111_r6 f111_r7 f111_r8 f111_r9 f111_r10 f111_r11 f111_r12 f111_r13 f111_c f112_r0 f112_r1 f112_r2 f112_r3 f112_a4 f112_b4 f112_r5 f112_c f113_r0 f113_r1 f113_r2 f113_r3 f113_r4 f113_r5 f113_l6 f113_i6 f113_r7 f113_r8 f113_r9 f113_r10 f113_r11 f113_r12 f113_r13 f113_l14 f113_i14 f113_r15 f113_r16 f113_r17 f113_r18 f113_l19 f113_i19 f113_c f114_r0 f114_r1 f114_c f115_r0 f115_r1 f115_r2 f115_r3 f115_r4 f115_r5 f115_r6 f115_r7 f115_r8 f115_r9 f115_c f118_r0 f118_r1 f118_c f119_r0 f119_r1 f119_r2 f119_r3 f119_r4 f119_r5 f119_l6 f119_i6 f119_r7 f119_l8 f119_i8 f119_c f120_r0 f120_r1 f120_r2 f120_r3 f120_r4 f120_r5 f120_r6 f120_r7 f120_l8 f120_i8 f120_r9 f120_r10 f120_r11 f120_r12 f120_l13 f120_i13 f120_r14 f120_r15 f120_r16 f120_r17 f120_r18 f120_r19 f120_r20 f120_r21 f120_l22 f120_i22 f120_r23 f120_r24 f120_r25 f120_r26 f120_l27 f120_i27 f120_r28 f120_r29 f120_r30 f120_r31 f120_r32 f120_r33 f120_r34 f120_r35 f120_r36 f120_r37 f120_r38 f120_r39 f120_r40 f120_r41 f120_l42 f120_i42 f120_r43 f120_r44 f120_r45 f120_r46 f120_r47 f120_r48 f120_r49 f120_c f121_r0 f121_r1 f121_r2 f121_r3 f121_r4 f121_r5 f121_r6 f121_r7 f121_l8 f121_i8 f121_r9 f121_c f122_r0 f122_r1 f122_r2 f122_r3 f122_l4 f122_i4 f122_c
end Go.Proofs.YtlejbkfefpfolaaDoor.W
