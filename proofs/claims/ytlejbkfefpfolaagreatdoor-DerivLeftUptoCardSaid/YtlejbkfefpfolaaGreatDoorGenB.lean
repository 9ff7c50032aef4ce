/- Part of a program logic over data: rules of the walk, each proved. -/
import Derived.Test.YtlejbkfefpfolaaGreatDoorGen
set_option linter.unusedVariables false
set_option linter.unusedSimpArgs false
set_option linter.unusedSectionVars false
set_option maxRecDepth 100000
namespace Go.Proofs.YtlejbkfefpfolaaGreatDoor.W
open Go Go.Proofs Go.Proofs.YtlejbkfefpfolaaGreatDoor.AWP
/-! gosem.cut.init -/
/-! quill/quilllaw09.DerivIs -/
/-! quill/quilllaw09.DerivWalks -/
/-! quill/quilllaw09.DerivFits -/
def f5_r0 : List LOp := [
⟨some 2, .box 27 (.tmp 0), none⟩,
⟨some 4, .assign (.const (.bool false)), none⟩]
def f5_r1 : List LOp := [
⟨some 9, .load 27 (.tmp 2), none⟩,
⟨some 10, .call ⟨.value (.func 8), #[.tmp 9, .const (.int .i64 40)], #[27, 3]⟩, none⟩,
⟨some 11, .move (.tmp 10), none⟩,
⟨some 12, .move (.tmp 1), some (2, false)⟩,
⟨some 13, .call ⟨.builtin .len, #[.tmp 12], #[9]⟩, some (2, false)⟩,
⟨some 14, .binOp .gtr 3 (.tmp 13) (.const (.int .i64 12)) 3, some (2, false)⟩,
⟨some 15, .pick (.tmp 11) (.const (.bool true)) (.tmp 14), none⟩]
def f5_r2 : List LOp := [
⟨some 16, .call ⟨.value (.func 9), #[], #[]⟩, none⟩,
⟨some 4, .assign (.tmp 16), none⟩]
def f5_r3 : List LOp := [
⟨some 18, .load 27 (.tmp 2), none⟩,
⟨some 19, .move (.tmp 1), none⟩,
⟨some 20, .call ⟨.value (.func 15), #[.tmp 18, .tmp 19], #[27, 9]⟩, none⟩,
⟨some 17, .move (.tmp 20), none⟩,
⟨some 21, .extract (.tmp 17) 0, none⟩,
⟨some 22, .extract (.tmp 17) 1, none⟩,
⟨some 5, .assign (.tmp 21), none⟩,
⟨some 6, .assign (.tmp 22), none⟩]
def f5_r4 : List LOp := [
⟨some 23, .move (.tmp 6), none⟩,
⟨some 24, .binOp .neq 30 (.tmp 23) (.const (.int .i64 0)) 30, none⟩]
def f5_r5 : List LOp := [
⟨some 25, .call ⟨.value (.func 9), #[], #[]⟩, none⟩,
⟨some 4, .assign (.tmp 25), none⟩]
def f5_r6 : List LOp := [
⟨some 26, .load 27 (.tmp 2), none⟩,
⟨some 27, .move (.tmp 1), none⟩,
⟨some 28, .call ⟨.value (.func 19), #[.tmp 26, .tmp 27, .const (.int .i64 0)], #[27, 9, 3]⟩, none⟩,
⟨some 7, .assign (.tmp 28), none⟩]
def f5_r7 : List LOp := [
⟨some 29, .move (.tmp 5), none⟩,
⟨some 30, .call ⟨.builtin .len, #[.tmp 29], #[25]⟩, none⟩,
⟨some 31, .move (.tmp 7), none⟩,
⟨some 32, .call ⟨.builtin .len, #[.tmp 31], #[44]⟩, none⟩,
⟨some 33, .binOp .neq 3 (.tmp 30) (.tmp 32) 3, none⟩]
def f5_r8 : List LOp := [
⟨some 4, .assign (.const (.bool false)), none⟩]
def f5_r9 : List LOp := [
⟨some 8, .assign (.const (.int .i64 0)), none⟩]
def f5_r10 : List LOp := [
⟨some 34, .move (.tmp 8), none⟩,
⟨some 35, .move (.tmp 5), none⟩,
⟨some 36, .call ⟨.builtin .len, #[.tmp 35], #[25]⟩, none⟩,
⟨some 37, .binOp .lss 3 (.tmp 34) (.tmp 36) 3, none⟩]
def f5_r11 : List LOp := [
⟨some 40, .move (.tmp 5), none⟩,
⟨some 41, .move (.tmp 8), none⟩,
⟨some 42, .indexAddr 25 (.tmp 40) (.tmp 41), none⟩,
⟨some 43, .load 27 (.tmp 42), none⟩,
⟨some 44, .buildSlice 25 1 #[(0, .tmp 43)], none⟩,
⟨some 45, .call ⟨.value (.func 20), #[.tmp 44], #[25]⟩, none⟩,
⟨some 46, .move (.tmp 7), none⟩,
⟨some 47, .move (.tmp 8), none⟩,
⟨some 48, .indexAddr 44 (.tmp 46) (.tmp 47), none⟩,
⟨some 49, .load 4 (.tmp 48), none⟩,
⟨some 50, .binOp .neq 4 (.tmp 45) (.tmp 49) 4, none⟩]
def f5_r12 : List LOp := [
⟨some 4, .assign (.const (.bool false)), none⟩]
def f5_r13 : List LOp := [
⟨some 38, .move (.tmp 8), none⟩,
⟨some 39, .binOp .add 3 (.tmp 38) (.const (.int .i64 1)) 3, none⟩,
⟨some 8, .assign (.tmp 39), none⟩]
def f5_l14 : LC := (.seq (.seq (.reg f5_r10 [] none) (.cond (.tmp 37) .skip (.exit 0))) (.seq (.block 1 (.seq (.reg f5_r11 [] (some 10)) (.cond (.tmp 50) (.seq (.reg f5_r12 [] none) .ret) .skip))) (.reg f5_r13 [] none)))
def f5_i14 (t5 t7 t8 : D) : List D := [.any, .any, .any, .any, .any, t5, .any, t7, t8, .any, .any, .any, .any, .any, .any, .any, .any, .any, .any, .any, .any, .any, .any, .any, .any, .any, .any, .any, .any, .any, .any, .any, .any, .any, .any, .any, .any, .any, .any, .any, .any, .any, .any, .any, .any, .any, .any, .any, .any, .any, .any, .any]
def f5_r15 : List LOp := [
⟨some 51, .call ⟨.value (.func 9), #[], #[]⟩, none⟩,
⟨some 4, .assign (.tmp 51), none⟩]
def f5_c : LC := (.seq (.reg f5_r0 [] none) (.seq (.seq (.reg f5_r1 [] none) (.cond (.tmp 15) (.seq (.reg f5_r2 [] none) .ret) .skip)) (.seq (.reg f5_r3 [] none) (.seq (.seq (.reg f5_r4 [] none) (.cond (.tmp 24) (.seq (.reg f5_r5 [] none) .ret) .skip)) (.seq (.reg f5_r6 [] none) (.seq (.seq (.reg f5_r7 [] none) (.cond (.tmp 33) (.seq (.reg f5_r8 [] none) .ret) .skip)) (.seq (.seq (.reg f5_r9 [] none) (.block 0 (.loop f5_l14))) (.seq (.reg f5_r15 [] none) .ret))))))))
theorem f5_lc : Tryz.f5.body.map lc = some f5_c.st := by kernel_rfl
theorem f5_res : Tryz.f5.results.toList = [.tmp 4] := by kernel_rfl
theorem f5_nt : Tryz.f5.ntmps = 52 := by kernel_rfl
theorem f5_nm : (Tryz.f5.name == "runtime.NumGoroutine") = false := by kernel_rfl
/-! quill/quilllaw09.DerivLeft -/
def f6_r0 : List LOp := [
⟨some 3, .box 27 (.tmp 0), none⟩,
⟨some 6, .assign (.const (.bool false)), none⟩]
def f6_r1 : List LOp := [
⟨some 12, .load 27 (.tmp 3), none⟩,
⟨some 13, .call ⟨.value (.func 8), #[.tmp 12, .const (.int .i64 30)], #[27, 3]⟩, none⟩,
⟨some 14, .move (.tmp 13), none⟩,
⟨some 15, .move (.tmp 1), some (2, false)⟩,
⟨some 16, .call ⟨.builtin .len, #[.tmp 15], #[9]⟩, some (2, false)⟩,
⟨some 17, .binOp .gtr 3 (.tmp 16) (.const (.int .i64 8)) 3, some (2, false)⟩,
⟨some 18, .pick (.tmp 14) (.const (.bool true)) (.tmp 17), none⟩]
def f6_r2 : List LOp := [
⟨some 19, .call ⟨.value (.func 9), #[], #[]⟩, none⟩,
⟨some 6, .assign (.tmp 19), none⟩]
def f6_r3 : List LOp := [
⟨some 20, .move (.tmp 2), none⟩,
⟨some 21, .convert 5 3 (.tmp 20), none⟩,
⟨some 22, .move (.tmp 1), none⟩,
⟨some 23, .call ⟨.builtin .len, #[.tmp 22], #[9]⟩, none⟩,
⟨some 24, .binOp .add 3 (.tmp 23) (.const (.int .i64 1)) 3, none⟩,
⟨some 25, .binOp .rem 3 (.tmp 21) (.tmp 24) 3, none⟩,
⟨some 7, .assign (.tmp 25), none⟩]
def f6_r4 : List LOp := [
⟨some 27, .load 27 (.tmp 3), none⟩,
⟨some 28, .move (.tmp 1), none⟩,
⟨some 29, .move (.tmp 7), none⟩,
⟨some 30, .slice 9 (.tmp 28) none (some (.tmp 29)) none, none⟩,
⟨some 31, .call ⟨.value (.func 17), #[.tmp 27, .tmp 30], #[27, 9]⟩, none⟩,
⟨some 26, .move (.tmp 31), none⟩,
⟨some 32, .extract (.tmp 26) 0, none⟩,
⟨some 33, .extract (.tmp 26) 1, none⟩,
⟨some 8, .alloc 27, none⟩,
⟨none, .store 27 (.tmp 8) (.tmp 32), none⟩,
⟨some 9, .assign (.tmp 33), none⟩]
def f6_r5 : List LOp := [
⟨some 34, .move (.tmp 9), none⟩,
⟨some 35, .binOp .neq 30 (.tmp 34) (.const (.int .i64 0)) 30, none⟩]
def f6_r6 : List LOp := [
⟨some 36, .call ⟨.value (.func 9), #[], #[]⟩, none⟩,
⟨some 6, .assign (.tmp 36), none⟩]
def f6_r7 : List LOp := [
⟨some 37, .load 27 (.tmp 8), none⟩,
⟨some 38, .move (.tmp 1), none⟩,
⟨some 39, .move (.tmp 7), none⟩,
⟨some 40, .slice 9 (.tmp 38) (some (.tmp 39)) none none, none⟩,
⟨some 41, .call ⟨.value (.func 21), #[.tmp 37, .tmp 40], #[27, 9]⟩, none⟩,
⟨some 42, .load 27 (.tmp 3), none⟩,
⟨some 43, .move (.tmp 1), none⟩,
⟨some 44, .call ⟨.value (.func 21), #[.tmp 42, .tmp 43], #[27, 9]⟩, none⟩,
⟨some 45, .binOp .neq 4 (.tmp 41) (.tmp 44) 4, none⟩]
def f6_r8 : List LOp := [
⟨some 6, .assign (.const (.bool false)), none⟩]
def f6_r9 : List LOp := [
⟨some 46, .move (.tmp 1), none⟩,
⟨some 47, .call ⟨.builtin .len, #[.tmp 46], #[9]⟩, none⟩,
⟨some 48, .binOp .eql 3 (.tmp 47) (.const (.int .i64 0)) 3, none⟩]
def f6_r10 : List LOp := [
⟨some 49, .call ⟨.value (.func 9), #[], #[]⟩, none⟩,
⟨some 6, .assign (.tmp 49), none⟩]
def f6_r11 : List LOp := [
⟨some 51, .load 27 (.tmp 3), none⟩,
⟨some 52, .move (.tmp 1), none⟩,
⟨some 53, .index 9 (.tmp 52) (.const (.int .i64 0)), none⟩,
⟨some 54, .call ⟨.value (.func 10), #[.tmp 51, .tmp 53], #[27, 5]⟩, none⟩,
⟨some 50, .move (.tmp 54), none⟩,
⟨some 55, .extract (.tmp 50) 0, none⟩,
⟨some 56, .extract (.tmp 50) 1, none⟩,
⟨some 10, .alloc 27, none⟩,
⟨none, .store 27 (.tmp 10) (.tmp 55), none⟩,
⟨some 11, .assign (.tmp 56), none⟩]
def f6_r12 : List LOp := [
⟨some 57, .move (.tmp 11), none⟩,
⟨some 58, .binOp .neq 30 (.tmp 57) (.const (.int .i64 0)) 30, none⟩,
⟨some 59, .move (.tmp 58), none⟩,
⟨some 60, .load 27 (.tmp 10), some (2, false)⟩,
⟨some 61, .move (.tmp 1), some (2, false)⟩,
⟨some 62, .slice 9 (.tmp 61) (some (.const (.int .i64 1))) none none, some (2, false)⟩,
⟨some 63, .call ⟨.value (.func 21), #[.tmp 60, .tmp 62], #[27, 9]⟩, some (2, false)⟩,
⟨some 64, .load 27 (.tmp 3), some (2, false)⟩,
⟨some 65, .move (.tmp 1), some (2, false)⟩,
⟨some 66, .call ⟨.value (.func 21), #[.tmp 64, .tmp 65], #[27, 9]⟩, some (2, false)⟩,
⟨some 67, .binOp .eql 4 (.tmp 63) (.tmp 66) 4, some (2, false)⟩,
⟨some 68, .pick (.tmp 59) (.const (.bool true)) (.tmp 67), none⟩,
⟨some 69, .move (.tmp 68), none⟩,
⟨some 70, .call ⟨.value (.func 9), #[], #[]⟩, some (12, true)⟩,
⟨some 71, .pick (.tmp 69) (.tmp 70) (.const (.bool false)), none⟩,
⟨some 6, .assign (.tmp 71), none⟩]
def f6_c : LC := (.seq (.reg f6_r0 [] none) (.seq (.seq (.reg f6_r1 [] none) (.cond (.tmp 18) (.seq (.reg f6_r2 [] none) .ret) .skip)) (.seq (.reg f6_r3 [] none) (.seq (.rega f6_r4 [] 10) (.seq (.seq (.reg f6_r5 [] none) (.cond (.tmp 35) (.seq (.reg f6_r6 [] none) .ret) .skip)) (.seq (.seq (.reg f6_r7 [] (some 7)) (.cond (.tmp 45) (.seq (.reg f6_r8 [] none) .ret) .skip)) (.seq (.seq (.reg f6_r9 [] none) (.cond (.tmp 48) (.seq (.reg f6_r10 [] none) .ret) .skip)) (.seq (.rega f6_r11 [] 9) (.seq (.reg f6_r12 [] (some 9)) .ret)))))))))
theorem f6_lc : Tryz.f6.body.map lc = some f6_c.st := by kernel_rfl
theorem f6_res : Tryz.f6.results.toList = [.tmp 6] := by kernel_rfl
theorem f6_nt : Tryz.f6.ntmps = 72 := by kernel_rfl
theorem f6_nm : (Tryz.f6.name == "runtime.NumGoroutine") = false := by kernel_rfl
/-! quill/quilllaw26.TraceSteps -/
/-! quill/quilllaw09.awake -/
def f9_r0 : List LOp := [
⟨some 0, .assign (.const (.bool false)), none⟩]
def f9_r1 : List LOp := [
⟨some 7, .call ⟨.value (.func 27), #[.const (.string { data := #[40, 97, 98, 41, 42] })], #[9]⟩, none⟩,
⟨some 6, .move (.tmp 7), none⟩,
⟨some 8, .extract (.tmp 6) 0, none⟩,
⟨some 9, .extract (.tmp 6) 1, none⟩,
⟨some 10, .extract (.tmp 6) 2, none⟩,
⟨some 1, .alloc 27, none⟩,
⟨none, .store 27 (.tmp 1) (.tmp 8), none⟩,
⟨some 2, .assign (.tmp 9), none⟩,
⟨some 3, .assign (.tmp 10), none⟩]
def f9_r2 : List LOp := [
⟨some 12, .load 27 (.tmp 1), none⟩,
⟨some 13, .call ⟨.value (.func 17), #[.tmp 12, .const (.string { data := #[97, 98] })], #[27, 9]⟩, none⟩,
⟨some 11, .move (.tmp 13), none⟩,
⟨some 14, .extract (.tmp 11) 0, none⟩,
⟨some 15, .extract (.tmp 11) 1, none⟩,
⟨some 4, .alloc 27, none⟩,
⟨none, .store 27 (.tmp 4) (.tmp 14), none⟩,
⟨some 5, .assign (.tmp 15), none⟩]
def f9_r3 : List LOp := [
⟨some 16, .move (.tmp 3), none⟩,
⟨some 17, .binOp .eql 30 (.tmp 16) (.const (.int .i64 0)) 30, none⟩,
⟨some 18, .move (.tmp 17), none⟩,
⟨some 19, .move (.tmp 5), some (2, true)⟩,
⟨some 20, .binOp .eql 30 (.tmp 19) (.const (.int .i64 0)) 30, some (2, true)⟩,
⟨some 21, .pick (.tmp 18) (.tmp 20) (.const (.bool false)), none⟩,
⟨some 22, .move (.tmp 21), none⟩,
⟨some 23, .load 27 (.tmp 4), some (6, true)⟩,
⟨some 24, .call ⟨.value (.func 28), #[.tmp 23], #[27]⟩, some (6, true)⟩,
⟨some 25, .binOp .eql 9 (.tmp 24) (.const (.string { data := #[40, 97, 98, 41, 42] })) 9, some (6, true)⟩,
⟨some 26, .pick (.tmp 22) (.tmp 25) (.const (.bool false)), none⟩,
⟨some 0, .assign (.tmp 26), none⟩]
def f9_c : LC := (.seq (.reg f9_r0 [] none) (.seq (.reg f9_r1 [] none) (.seq (.reg f9_r2 [] none) (.seq (.reg f9_r3 [] none) .ret))))
theorem f9_lc : Tryz.f9.body.map lc = some f9_c.st := by kernel_rfl
theorem f9_res : Tryz.f9.results.toList = [.tmp 0] := by kernel_rfl
theorem f9_nt : Tryz.f9.ntmps = 27 := by kernel_rfl
theorem f9_nm : (Tryz.f9.name == "runtime.NumGoroutine") = false := by kernel_rfl
/-! quill/deriv.Plain -/
def f10_r0 : List LOp := [
⟨some 2, .box 27 (.tmp 0), none⟩,
⟨some 4, .alloc 27, none⟩,
⟨some 5, .assign (.const (.int .i64 0)), none⟩]
def f10_r1 : List LOp := [
⟨some 7, .load 27 (.tmp 2), none⟩,
⟨some 8, .buildSlice 25 1 #[(0, .tmp 7)], none⟩,
⟨some 9, .call ⟨.value (.func 29), #[.tmp 8], #[25]⟩, none⟩,
⟨some 10, .unOp .not 4 (.tmp 9), none⟩]
def f10_r2 : List LOp := [
⟨some 11, .build 27 #[], none⟩,
⟨none, .store 27 (.tmp 4) (.tmp 11), none⟩,
⟨some 5, .assign (.const (.int .i64 1)), none⟩]
def f10_r3 : List LOp := [
⟨some 12, .load 27 (.tmp 2), none⟩,
⟨some 13, .move (.tmp 1), none⟩,
⟨some 14, .call ⟨.value (.func 30), #[.tmp 12, .tmp 13], #[27, 5]⟩, none⟩,
⟨some 6, .alloc 27, none⟩,
⟨none, .store 27 (.tmp 6) (.tmp 14), none⟩]
def f10_r4 : List LOp := [
⟨some 15, .load 27 (.tmp 6), none⟩,
⟨some 16, .buildSlice 25 1 #[(0, .tmp 15)], none⟩,
⟨some 17, .call ⟨.value (.func 29), #[.tmp 16], #[25]⟩, none⟩,
⟨some 18, .unOp .not 4 (.tmp 17), none⟩]
def f10_r5 : List LOp := [
⟨some 19, .build 27 #[], none⟩,
⟨none, .store 27 (.tmp 4) (.tmp 19), none⟩,
⟨some 5, .assign (.const (.int .i64 4)), none⟩]
def f10_r6 : List LOp := [
⟨some 20, .load 27 (.tmp 6), none⟩,
⟨none, .store 27 (.tmp 4) (.tmp 20), none⟩,
⟨some 5, .assign (.const (.int .i64 0)), none⟩]
def f10_c : LC := (.seq (.reg f10_r0 [] none) (.seq (.seq (.reg f10_r1 [] none) (.cond (.tmp 10) (.seq (.reg f10_r2 [] none) .ret) .skip)) (.seq (.reg f10_r3 [] none) (.seq (.seq (.reg f10_r4 [] none) (.cond (.tmp 18) (.seq (.reg f10_r5 [] none) .ret) .skip)) (.seq (.reg f10_r6 [] none) .ret)))))
theorem f10_lc : Tryz.f10.body.map lc = some f10_c.st := by kernel_rfl
theorem f10_res : Tryz.f10.results.toList = [.cell 4 27, .tmp 5] := by kernel_rfl
theorem f10_nt : Tryz.f10.ntmps = 21 := by kernel_rfl
theorem f10_nm : (Tryz.f10.name == "runtime.NumGoroutine") = false := by kernel_rfl
/-! quill/quillref09.Plain -/
/-! quill/deriv.Step -/
def f12_r0 : List LOp := [
⟨some 2, .box 27 (.tmp 0), none⟩,
⟨some 4, .alloc 27, none⟩,
⟨some 5, .assign (.const (.int .i64 0)), none⟩]
def f12_r1 : List LOp := [
⟨some 9, .load 27 (.tmp 2), none⟩,
⟨some 10, .call ⟨.value (.func 33), #[.tmp 9], #[27]⟩, none⟩,
⟨some 11, .move (.tmp 1), none⟩,
⟨some 12, .call ⟨.value (.func 10), #[.tmp 10, .tmp 11], #[27, 5]⟩, none⟩,
⟨some 8, .move (.tmp 12), none⟩,
⟨some 13, .extract (.tmp 8) 0, none⟩,
⟨some 14, .extract (.tmp 8) 1, none⟩,
⟨some 6, .alloc 27, none⟩,
⟨none, .store 27 (.tmp 6) (.tmp 13), none⟩,
⟨some 7, .assign (.tmp 14), none⟩]
def f12_r2 : List LOp := [
⟨some 15, .move (.tmp 7), none⟩,
⟨some 16, .binOp .neq 30 (.tmp 15) (.const (.int .i64 0)) 30, none⟩]
def f12_r3 : List LOp := [
⟨some 17, .build 27 #[], none⟩,
⟨some 18, .move (.tmp 7), none⟩,
⟨none, .store 27 (.tmp 4) (.tmp 17), none⟩,
⟨some 5, .assign (.tmp 18), none⟩]
def f12_r4 : List LOp := [
⟨some 19, .load 27 (.tmp 6), none⟩,
⟨some 20, .call ⟨.value (.func 33), #[.tmp 19], #[27]⟩, none⟩,
⟨none, .store 27 (.tmp 4) (.tmp 20), none⟩,
⟨some 5, .assign (.const (.int .i64 0)), none⟩]
def f12_c : LC := (.seq (.reg f12_r0 [] none) (.seq (.reg f12_r1 [] none) (.seq (.seq (.reg f12_r2 [] none) (.cond (.tmp 16) (.seq (.reg f12_r3 [] none) .ret) .skip)) (.seq (.reg f12_r4 [] none) .ret))))
theorem f12_lc : Tryz.f12.body.map lc = some f12_c.st := by kernel_rfl
theorem f12_res : Tryz.f12.results.toList = [.cell 4 27, .tmp 5] := by kernel_rfl
theorem f12_nt : Tryz.f12.ntmps = 21 := by kernel_rfl
theorem f12_nm : (Tryz.f12.name == "runtime.NumGoroutine") = false := by kernel_rfl
/-! quill/quillref09.Step -/
/-! quill/quillref03.Same -/
def f14_r0 : List LOp := [
⟨some 2, .box 27 (.tmp 0), none⟩,
⟨some 3, .box 27 (.tmp 1), none⟩,
⟨some 4, .assign (.const (.bool false)), none⟩]
def f14_r1 : List LOp := [
⟨some 6, .fieldAddr 27 (.tmp 2) 0, none⟩,
⟨some 7, .load 5 (.tmp 6), none⟩,
⟨some 8, .fieldAddr 27 (.tmp 3) 0, none⟩,
⟨some 9, .load 5 (.tmp 8), none⟩,
⟨some 10, .binOp .neq 5 (.tmp 7) (.tmp 9) 5, none⟩,
⟨some 11, .move (.tmp 10), none⟩,
⟨some 12, .fieldAddr 27 (.tmp 2) 1, some (5, false)⟩,
⟨some 13, .load 24 (.tmp 12), some (5, false)⟩,
⟨some 14, .fieldAddr 27 (.tmp 3) 1, some (5, false)⟩,
⟨some 15, .load 24 (.tmp 14), some (5, false)⟩,
⟨some 16, .binOp .neq 24 (.tmp 13) (.tmp 15) 24, some (5, false)⟩,
⟨some 17, .pick (.tmp 11) (.const (.bool true)) (.tmp 16), none⟩,
⟨some 18, .move (.tmp 17), none⟩,
⟨some 19, .fieldAddr 27 (.tmp 2) 2, some (12, false)⟩,
⟨some 20, .load 25 (.tmp 19), some (12, false)⟩,
⟨some 21, .call ⟨.builtin .len, #[.tmp 20], #[25]⟩, some (12, false)⟩,
⟨some 22, .fieldAddr 27 (.tmp 3) 2, some (12, false)⟩,
⟨some 23, .load 25 (.tmp 22), some (12, false)⟩,
⟨some 24, .call ⟨.builtin .len, #[.tmp 23], #[25]⟩, some (12, false)⟩,
⟨some 25, .binOp .neq 3 (.tmp 21) (.tmp 24) 3, some (12, false)⟩,
⟨some 26, .pick (.tmp 18) (.const (.bool true)) (.tmp 25), none⟩]
def f14_r2 : List LOp := [
⟨some 4, .assign (.const (.bool false)), none⟩]
def f14_r3 : List LOp := [
⟨some 27, .fieldAddr 27 (.tmp 2) 2, none⟩,
⟨some 28, .load 25 (.tmp 27), none⟩,
⟨some 29, .call ⟨.builtin .len, #[.tmp 28], #[25]⟩, none⟩,
⟨some 30, .move (.const (.int .i64 0)), none⟩]
def f14_r4 : List LOp := [
⟨some 31, .binOp .lss 3 (.tmp 30) (.tmp 29) 3, none⟩]
def f14_r5 : List LOp := [
⟨some 32, .move (.tmp 30), none⟩,
⟨some 5, .assign (.tmp 32), none⟩]
def f14_r6 : List LOp := [
⟨some 33, .fieldAddr 27 (.tmp 2) 2, none⟩,
⟨some 34, .load 25 (.tmp 33), none⟩,
⟨some 35, .move (.tmp 5), none⟩,
⟨some 36, .indexAddr 25 (.tmp 34) (.tmp 35), none⟩,
⟨some 37, .load 27 (.tmp 36), none⟩,
⟨some 38, .fieldAddr 27 (.tmp 3) 2, none⟩,
⟨some 39, .load 25 (.tmp 38), none⟩,
⟨some 40, .move (.tmp 5), none⟩,
⟨some 41, .indexAddr 25 (.tmp 39) (.tmp 40), none⟩,
⟨some 42, .load 27 (.tmp 41), none⟩,
⟨some 43, .call ⟨.value (.func 14), #[.tmp 37, .tmp 42], #[27, 27]⟩, none⟩,
⟨some 44, .unOp .not 4 (.tmp 43), none⟩]
def f14_r7 : List LOp := [
⟨some 4, .assign (.const (.bool false)), none⟩]
def f14_r8 : List LOp := [
⟨some 45, .binOp .add 3 (.tmp 30) (.const (.int .i64 1)) 3, none⟩,
⟨some 30, .move (.tmp 45), none⟩]
def f14_l9 : LC := (.seq (.reg f14_r4 [] none) (.seq (.cond (.tmp 31) .skip (.exit 0)) (.seq (.block 1 (.seq (.reg f14_r5 [] none) (.seq (.reg f14_r6 [] (some 10)) (.cond (.tmp 44) (.seq (.reg f14_r7 [] none) .ret) .skip)))) (.reg f14_r8 [] none))))
def f14_i9 (t2 t3 t29 t30 : D) : List D := [.any, .any, t2, t3, .any, .any, .any, .any, .any, .any, .any, .any, .any, .any, .any, .any, .any, .any, .any, .any, .any, .any, .any, .any, .any, .any, .any, .any, .any, t29, t30, .any, .any, .any, .any, .any, .any, .any, .any, .any, .any, .any, .any, .any, .any, .any]
def f14_r10 : List LOp := [
⟨some 4, .assign (.const (.bool true)), none⟩]
def f14_c : LC := (.seq (.reg f14_r0 [] none) (.seq (.seq (.reg f14_r1 [] none) (.cond (.tmp 26) (.seq (.reg f14_r2 [] none) .ret) .skip)) (.seq (.seq (.reg f14_r3 [] none) (.block 0 (.loop f14_l9))) (.seq (.reg f14_r10 [] none) .ret))))
theorem f14_lc : Tryz.f14.body.map lc = some f14_c.st := by kernel_rfl
theorem f14_res : Tryz.f14.results.toList = [.tmp 4] := by kernel_rfl
theorem f14_nt : Tryz.f14.ntmps = 46 := by kernel_rfl
theorem f14_nm : (Tryz.f14.name == "runtime.NumGoroutine") = false := by kernel_rfl
/-! quill/deriv.Walk -/
def f15_r0 : List LOp := [
⟨some 2, .box 27 (.tmp 0), none⟩,
⟨some 4, .assign (.const (.slice none 0 0)), none⟩,
⟨some 5, .assign (.const (.int .i64 0)), none⟩]
def f15_r1 : List LOp := [
⟨some 10, .load 27 (.tmp 2), none⟩,
⟨some 11, .buildSlice 25 1 #[(0, .tmp 10)], none⟩,
⟨some 12, .call ⟨.value (.func 29), #[.tmp 11], #[25]⟩, none⟩,
⟨some 13, .unOp .not 4 (.tmp 12), none⟩]
def f15_r2 : List LOp := [
⟨some 4, .assign (.const (.slice none 0 0)), none⟩,
⟨some 5, .assign (.const (.int .i64 1)), none⟩]
def f15_r3 : List LOp := [
⟨some 14, .load 27 (.tmp 2), none⟩,
⟨some 15, .call ⟨.value (.func 33), #[.tmp 14], #[27]⟩, none⟩,
⟨some 16, .buildSlice 25 1 #[(0, .tmp 15)], none⟩,
⟨some 6, .assign (.tmp 16), none⟩]
def f15_r4 : List LOp := [
⟨some 17, .move (.tmp 1), none⟩,
⟨some 18, .call ⟨.builtin .len, #[.tmp 17], #[9]⟩, none⟩,
⟨some 19, .move (.const (.int .i64 0)), none⟩]
def f15_r5 : List LOp := [
⟨some 20, .binOp .lss 3 (.tmp 19) (.tmp 18) 3, none⟩]
def f15_r6 : List LOp := [
⟨some 21, .move (.tmp 19), none⟩,
⟨some 7, .assign (.tmp 21), none⟩]
def f15_r7 : List LOp := [
⟨some 23, .move (.tmp 6), none⟩,
⟨some 24, .move (.tmp 7), none⟩,
⟨some 25, .indexAddr 25 (.tmp 23) (.tmp 24), none⟩,
⟨some 26, .load 27 (.tmp 25), none⟩,
⟨some 27, .move (.tmp 1), none⟩,
⟨some 28, .move (.tmp 7), none⟩,
⟨some 29, .index 9 (.tmp 27) (.tmp 28), none⟩,
⟨some 30, .call ⟨.value (.func 12), #[.tmp 26, .tmp 29], #[27, 5]⟩, none⟩,
⟨some 22, .move (.tmp 30), none⟩,
⟨some 31, .extract (.tmp 22) 0, none⟩,
⟨some 32, .extract (.tmp 22) 1, none⟩,
⟨some 8, .alloc 27, none⟩,
⟨none, .store 27 (.tmp 8) (.tmp 31), none⟩,
⟨some 9, .assign (.tmp 32), none⟩]
def f15_r8 : List LOp := [
⟨some 33, .move (.tmp 9), none⟩,
⟨some 34, .binOp .neq 30 (.tmp 33) (.const (.int .i64 0)) 30, none⟩]
def f15_r9 : List LOp := [
⟨some 35, .move (.tmp 9), none⟩,
⟨some 4, .assign (.const (.slice none 0 0)), none⟩,
⟨some 5, .assign (.tmp 35), none⟩]
def f15_r10 : List LOp := [
⟨some 36, .move (.tmp 6), none⟩,
⟨some 37, .load 27 (.tmp 8), none⟩,
⟨some 38, .buildSlice 25 1 #[(0, .tmp 37)], none⟩,
⟨some 39, .call ⟨.builtin .append, #[.tmp 36, .tmp 38], #[25, 25]⟩, none⟩,
⟨some 6, .assign (.tmp 39), none⟩]
def f15_r11 : List LOp := [
⟨some 40, .binOp .add 3 (.tmp 19) (.const (.int .i64 1)) 3, none⟩,
⟨some 19, .move (.tmp 40), none⟩]
def f15_l12 : LC := (.seq (.reg f15_r5 [] none) (.seq (.cond (.tmp 20) .skip (.exit 0)) (.seq (.block 1 (.seq (.reg f15_r6 [] none) (.seq (.rega f15_r7 [] 13) (.seq (.seq (.reg f15_r8 [] none) (.cond (.tmp 34) (.seq (.reg f15_r9 [] none) .ret) .skip)) (.reg f15_r10 [] none))))) (.reg f15_r11 [] none))))
def f15_i12 (t1 t6 t18 t19 : D) : List D := [.any, t1, .any, .any, .any, .any, t6, .any, .any, .any, .any, .any, .any, .any, .any, .any, .any, .any, t18, t19, .any, .any, .any, .any, .any, .any, .any, .any, .any, .any, .any, .any, .any, .any, .any, .any, .any, .any, .any, .any, .any, .any]
def f15_r13 : List LOp := [
⟨some 41, .move (.tmp 6), none⟩,
⟨some 4, .assign (.tmp 41), none⟩,
⟨some 5, .assign (.const (.int .i64 0)), none⟩]
def f15_c : LC := (.seq (.reg f15_r0 [] none) (.seq (.seq (.reg f15_r1 [] none) (.cond (.tmp 13) (.seq (.reg f15_r2 [] none) .ret) .skip)) (.seq (.reg f15_r3 [2] none) (.seq (.seq (.reg f15_r4 [] none) (.block 0 (.loop f15_l12))) (.seq (.reg f15_r13 [] none) .ret)))))
theorem f15_lc : Tryz.f15.body.map lc = some f15_c.st := by kernel_rfl
theorem f15_res : Tryz.f15.results.toList = [.tmp 4, .tmp 5] := by kernel_rfl
theorem f15_nt : Tryz.f15.ntmps = 42 := by kernel_rfl
theorem f15_nm : (Tryz.f15.name == "runtime.NumGoroutine") = false := by kernel_rfl
/-! quill/quillref09.Walk -/
/-! quill/deriv.Word -/
def f17_r0 : List LOp := [
⟨some 2, .box 27 (.tmp 0), none⟩,
⟨some 4, .alloc 27, none⟩,
⟨some 5, .assign (.const (.int .i64 0)), none⟩]
def f17_r1 : List LOp := [
⟨some 9, .load 27 (.tmp 2), none⟩,
⟨some 10, .move (.tmp 1), none⟩,
⟨some 11, .call ⟨.value (.func 15), #[.tmp 9, .tmp 10], #[27, 9]⟩, none⟩,
⟨some 8, .move (.tmp 11), none⟩,
⟨some 12, .extract (.tmp 8) 0, none⟩,
⟨some 13, .extract (.tmp 8) 1, none⟩,
⟨some 6, .assign (.tmp 12), none⟩,
⟨some 7, .assign (.tmp 13), none⟩]
def f17_r2 : List LOp := [
⟨some 14, .move (.tmp 7), none⟩,
⟨some 15, .binOp .neq 30 (.tmp 14) (.const (.int .i64 0)) 30, none⟩]
def f17_r3 : List LOp := [
⟨some 16, .build 27 #[], none⟩,
⟨some 17, .move (.tmp 7), none⟩,
⟨none, .store 27 (.tmp 4) (.tmp 16), none⟩,
⟨some 5, .assign (.tmp 17), none⟩]
def f17_r4 : List LOp := [
⟨some 18, .move (.tmp 6), none⟩,
⟨some 19, .move (.tmp 6), none⟩,
⟨some 20, .call ⟨.builtin .len, #[.tmp 19], #[25]⟩, none⟩,
⟨some 21, .binOp .sub 3 (.tmp 20) (.const (.int .i64 1)) 3, none⟩,
⟨some 22, .indexAddr 25 (.tmp 18) (.tmp 21), none⟩,
⟨some 23, .load 27 (.tmp 22), none⟩,
⟨none, .store 27 (.tmp 4) (.tmp 23), none⟩,
⟨some 5, .assign (.const (.int .i64 0)), none⟩]
def f17_c : LC := (.seq (.reg f17_r0 [] none) (.seq (.reg f17_r1 [] none) (.seq (.seq (.reg f17_r2 [] none) (.cond (.tmp 15) (.seq (.reg f17_r3 [] none) .ret) .skip)) (.seq (.reg f17_r4 [] none) .ret))))
theorem f17_lc : Tryz.f17.body.map lc = some f17_c.st := by kernel_rfl
theorem f17_res : Tryz.f17.results.toList = [.cell 4 27, .tmp 5] := by kernel_rfl
theorem f17_nt : Tryz.f17.ntmps = 24 := by kernel_rfl
theorem f17_nm : (Tryz.f17.name == "runtime.NumGoroutine") = false := by kernel_rfl
/-! quill/quillref04.SameAll -/
/-! quill/quillref09.Ends -/
def f19_r0 : List LOp := [
⟨some 3, .box 27 (.tmp 0), none⟩,
⟨some 6, .assign (.const (.slice none 0 0)), none⟩]
def f19_r1 : List LOp := [
⟨some 8, .move (.tmp 1), none⟩,
⟨some 9, .call ⟨.builtin .len, #[.tmp 8], #[9]⟩, none⟩,
⟨some 10, .binOp .add 3 (.tmp 9) (.const (.int .i64 1)) 3, none⟩,
⟨some 11, .makeSlice 44 (.tmp 10) (.tmp 10), none⟩,
⟨some 7, .assign (.tmp 11), none⟩]
def f19_r2 : List LOp := [
⟨some 12, .load 27 (.tmp 3), none⟩,
⟨some 13, .call ⟨.value (.func 31), #[.tmp 12], #[27]⟩, none⟩,
⟨some 14, .unOp .not 4 (.tmp 13), none⟩,
⟨some 15, .move (.tmp 14), none⟩,
⟨some 16, .move (.tmp 2), some (3, false)⟩,
⟨some 17, .binOp .lss 3 (.tmp 16) (.const (.int .i64 0)) 3, some (3, false)⟩,
⟨some 18, .pick (.tmp 15) (.const (.bool true)) (.tmp 17), none⟩,
⟨some 19, .move (.tmp 18), none⟩,
⟨some 20, .move (.tmp 2), some (7, false)⟩,
⟨some 21, .move (.tmp 1), some (7, false)⟩,
⟨some 22, .call ⟨.builtin .len, #[.tmp 21], #[9]⟩, some (7, false)⟩,
⟨some 23, .binOp .gtr 3 (.tmp 20) (.tmp 22) 3, some (7, false)⟩,
⟨some 24, .pick (.tmp 19) (.const (.bool true)) (.tmp 23), none⟩]
def f19_r3 : List LOp := [
⟨some 25, .move (.tmp 7), none⟩,
⟨some 6, .assign (.tmp 25), none⟩]
def f19_r4 : List LOp := [
⟨some 26, .load 27 (.tmp 3), none⟩,
⟨some 27, .move (.tmp 1), none⟩,
⟨some 28, .move (.tmp 7), none⟩,
⟨some 29, .move (.tmp 2), none⟩,
⟨some 30, .call ⟨.value (.func 37), #[.tmp 28, .tmp 29], #[44, 3]⟩, none⟩,
⟨some 31, .call ⟨.value (.func 36), #[.tmp 26, .tmp 27, .tmp 30], #[27, 9, 44]⟩, none⟩,
⟨some 6, .assign (.tmp 31), none⟩]
def f19_c : LC := (.seq (.reg f19_r0 [] none) (.seq (.reg f19_r1 [3] none) (.seq (.seq (.reg f19_r2 [] none) (.cond (.tmp 24) (.seq (.reg f19_r3 [] none) .ret) .skip)) (.seq (.reg f19_r4 [] (some 5)) .ret))))
theorem f19_lc : Tryz.f19.body.map lc = some f19_c.st := by kernel_rfl
theorem f19_res : Tryz.f19.results.toList = [.tmp 6] := by kernel_rfl
theorem f19_nt : Tryz.f19.ntmps = 32 := by kernel_rfl
theorem f19_nm : (Tryz.f19.name == "runtime.NumGoroutine") = false := by kernel_rfl
/-! quill/null.Null -/
def f20_r0 : List LOp := [
⟨some 2, .assign (.const (.bool false)), none⟩]
def f20_r1 : List LOp := [
⟨some 3, .move (.tmp 0), none⟩,
⟨some 4, .call ⟨.value (.func 38), #[.tmp 3, .func 39], #[25, 59]⟩, none⟩,
⟨some 5, .unOp .not 4 (.tmp 4), none⟩,
⟨some 2, .assign (.tmp 5), none⟩]
def f20_c : LC := (.seq (.reg f20_r0 [] none) (.seq (.reg f20_r1 [] none) .ret))
theorem f20_lc : Tryz.f20.body.map lc = some f20_c.st := by kernel_rfl
theorem f20_res : Tryz.f20.results.toList = [.tmp 2] := by kernel_rfl
theorem f20_nt : Tryz.f20.ntmps = 6 := by kernel_rfl
theorem f20_nm : (Tryz.f20.name == "runtime.NumGoroutine") = false := by kernel_rfl
/-! quill/quillref09.Fits -/
def f21_r0 : List LOp := [
⟨some 2, .box 27 (.tmp 0), none⟩,
⟨some 4, .assign (.const (.bool false)), none⟩]
def f21_r1 : List LOp := [
⟨some 5, .load 27 (.tmp 2), none⟩,
⟨some 6, .move (.tmp 1), none⟩,
⟨some 7, .call ⟨.value (.func 19), #[.tmp 5, .tmp 6, .const (.int .i64 0)], #[27, 9, 3]⟩, none⟩,
⟨some 8, .move (.tmp 1), none⟩,
⟨some 9, .call ⟨.builtin .len, #[.tmp 8], #[9]⟩, none⟩,
⟨some 10, .indexAddr 44 (.tmp 7) (.tmp 9), none⟩,
⟨some 11, .load 4 (.tmp 10), none⟩,
⟨some 4, .assign (.tmp 11), none⟩]
def f21_c : LC := (.seq (.reg f21_r0 [] none) (.seq (.reg f21_r1 [] none) .ret))
theorem f21_lc : Tryz.f21.body.map lc = some f21_c.st := by kernel_rfl
theorem f21_res : Tryz.f21.results.toList = [.tmp 4] := by kernel_rfl
theorem f21_nt : Tryz.f21.ntmps = 12 := by kernel_rfl
theorem f21_nm : (Tryz.f21.name == "runtime.NumGoroutine") = false := by kernel_rfl
/-! quill/quilllaw26.awake -/
/-! quill/trace.Steps -/
/-! quill/quillref26.Steps -/
/-! quill/quillref26.Same -/
/-! quill/deriv.plain -/
def f30_r0 : List LOp := [
⟨some 2, .box 27 (.tmp 0), none⟩,
⟨some 4, .alloc 27, none⟩]
def f30_r1 : List LOp := [
⟨some 8, .fieldAddr 27 (.tmp 2) 0, none⟩,
⟨some 9, .load 5 (.tmp 8), none⟩]
def f30_r2 : List LOp := [
⟨some 11, .binOp .eql 5 (.tmp 9) (.const (.int .u8 3)) 5, none⟩,
⟨some 10, .assign (.tmp 11), none⟩]
def f30_r3 : List LOp := [
⟨some 12, .fieldAddr 27 (.tmp 2) 1, none⟩,
⟨some 13, .load 24 (.tmp 12), none⟩,
⟨some 14, .move (.tmp 1), none⟩,
⟨some 15, .call ⟨.value (.func 51), #[.tmp 13, .tmp 14], #[24, 5]⟩, none⟩]
def f30_r4 : List LOp := [
⟨some 16, .call ⟨.value (.func 52), #[.const (.slice none 0 0)], #[25]⟩, none⟩,
⟨none, .store 27 (.tmp 4) (.tmp 16), none⟩]
def f30_r5 : List LOp := [
⟨some 18, .binOp .eql 5 (.tmp 9) (.const (.int .u8 4)) 5, none⟩,
⟨some 17, .assign (.tmp 18), none⟩]
def f30_r6 : List LOp := [
⟨some 19, .fieldAddr 27 (.tmp 2) 2, none⟩,
⟨some 20, .load 25 (.tmp 19), none⟩,
⟨some 21, .indexAddr 25 (.tmp 20) (.const (.int .i64 0)), none⟩,
⟨some 22, .load 27 (.tmp 21), none⟩,
⟨some 23, .fieldAddr 27 (.tmp 2) 2, none⟩,
⟨some 24, .load 25 (.tmp 23), none⟩,
⟨some 25, .indexAddr 25 (.tmp 24) (.const (.int .i64 1)), none⟩,
⟨some 26, .load 27 (.tmp 25), none⟩,
⟨some 5, .alloc 27, none⟩,
⟨some 6, .alloc 27, none⟩,
⟨none, .store 27 (.tmp 5) (.tmp 22), none⟩,
⟨none, .store 27 (.tmp 6) (.tmp 26), none⟩]
def f30_r7 : List LOp := [
⟨some 27, .load 27 (.tmp 5), none⟩,
⟨some 28, .move (.tmp 1), none⟩,
⟨some 29, .call ⟨.value (.func 30), #[.tmp 27, .tmp 28], #[27, 5]⟩, none⟩,
⟨some 30, .load 27 (.tmp 6), none⟩,
⟨some 31, .buildSlice 25 2 #[(0, .tmp 29), (1, .tmp 30)], none⟩,
⟨some 32, .call ⟨.value (.func 52), #[.tmp 31], #[25]⟩, none⟩,
⟨some 7, .alloc 27, none⟩,
⟨none, .store 27 (.tmp 7) (.tmp 32), none⟩]
def f30_r8 : List LOp := [
⟨some 33, .load 27 (.tmp 5), none⟩,
⟨some 34, .buildSlice 25 1 #[(0, .tmp 33)], none⟩,
⟨some 35, .call ⟨.value (.func 20), #[.tmp 34], #[25]⟩, none⟩]
def f30_r9 : List LOp := [
⟨some 36, .load 27 (.tmp 7), none⟩,
⟨some 37, .load 27 (.tmp 6), none⟩,
⟨some 38, .move (.tmp 1), none⟩,
⟨some 39, .call ⟨.value (.func 30), #[.tmp 37, .tmp 38], #[27, 5]⟩, none⟩,
⟨some 40, .buildSlice 25 2 #[(0, .tmp 36), (1, .tmp 39)], none⟩,
⟨some 41, .call ⟨.value (.func 53), #[.tmp 40], #[25]⟩, none⟩,
⟨none, .store 27 (.tmp 4) (.tmp 41), none⟩]
def f30_r10 : List LOp := [
⟨some 42, .load 27 (.tmp 7), none⟩,
⟨none, .store 27 (.tmp 4) (.tmp 42), none⟩]
def f30_r11 : List LOp := [
⟨some 44, .binOp .eql 5 (.tmp 9) (.const (.int .u8 5)) 5, none⟩,
⟨some 43, .assign (.tmp 44), none⟩]
def f30_r12 : List LOp := [
⟨some 45, .fieldAddr 27 (.tmp 2) 2, none⟩,
⟨some 46, .load 25 (.tmp 45), none⟩,
⟨some 47, .indexAddr 25 (.tmp 46) (.const (.int .i64 0)), none⟩,
⟨some 48, .load 27 (.tmp 47), none⟩,
⟨some 49, .move (.tmp 1), none⟩,
⟨some 50, .call ⟨.value (.func 30), #[.tmp 48, .tmp 49], #[27, 5]⟩, none⟩,
⟨some 51, .fieldAddr 27 (.tmp 2) 2, none⟩,
⟨some 52, .load 25 (.tmp 51), none⟩,
⟨some 53, .indexAddr 25 (.tmp 52) (.const (.int .i64 1)), none⟩,
⟨some 54, .load 27 (.tmp 53), none⟩,
⟨some 55, .move (.tmp 1), none⟩,
⟨some 56, .call ⟨.value (.func 30), #[.tmp 54, .tmp 55], #[27, 5]⟩, none⟩,
⟨some 57, .buildSlice 25 2 #[(0, .tmp 50), (1, .tmp 56)], none⟩,
⟨some 58, .call ⟨.value (.func 53), #[.tmp 57], #[25]⟩, none⟩,
⟨none, .store 27 (.tmp 4) (.tmp 58), none⟩]
def f30_r13 : List LOp := [
⟨some 60, .binOp .eql 5 (.tmp 9) (.const (.int .u8 6)) 5, none⟩,
⟨some 59, .assign (.tmp 60), none⟩]
def f30_r14 : List LOp := [
⟨some 61, .fieldAddr 27 (.tmp 2) 2, none⟩,
⟨some 62, .load 25 (.tmp 61), none⟩,
⟨some 63, .indexAddr 25 (.tmp 62) (.const (.int .i64 0)), none⟩,
⟨some 64, .load 27 (.tmp 63), none⟩,
⟨some 65, .move (.tmp 1), none⟩,
⟨some 66, .call ⟨.value (.func 30), #[.tmp 64, .tmp 65], #[27, 5]⟩, none⟩,
⟨some 67, .load 27 (.tmp 2), none⟩,
⟨some 68, .buildSlice 25 2 #[(0, .tmp 66), (1, .tmp 67)], none⟩,
⟨some 69, .call ⟨.value (.func 52), #[.tmp 68], #[25]⟩, none⟩,
⟨none, .store 27 (.tmp 4) (.tmp 69), none⟩]
def f30_r15 : List LOp := [
⟨some 70, .call ⟨.value (.func 53), #[.const (.slice none 0 0)], #[25]⟩, none⟩,
⟨none, .store 27 (.tmp 4) (.tmp 70), none⟩]
def f30_c : LC := (.seq (.reg f30_r0 [] none) (.seq (.seq (.reg f30_r1 [] none) (.block 0 (.seq (.reg f30_r2 [] none) (.cond (.tmp 10) (.seq (.reg f30_r3 [] none) (.cond (.tmp 15) (.seq (.reg f30_r4 [] none) .ret) .skip)) (.seq (.reg f30_r5 [] none) (.cond (.tmp 17) (.seq (.rega f30_r6 [] 11) (.seq (.rega f30_r7 [] 7) (.seq (.seq (.reg f30_r8 [] none) (.cond (.tmp 35) (.seq (.reg f30_r9 [] (some 4)) .ret) .skip)) (.seq (.reg f30_r10 [] none) .ret)))) (.seq (.reg f30_r11 [] none) (.cond (.tmp 43) (.seq (.reg f30_r12 [] (some 11)) .ret) (.seq (.reg f30_r13 [] none) (.cond (.tmp 59) (.seq (.reg f30_r14 [] (some 7)) .ret) .skip)))))))))) (.seq (.reg f30_r15 [] none) .ret)))
theorem f30_lc : Tryz.f30.body.map lc = some f30_c.st := by kernel_rfl
theorem f30_res : Tryz.f30.results.toList = [.cell 4 27] := by kernel_rfl
theorem f30_nt : Tryz.f30.ntmps = 71 := by kernel_rfl
theorem f30_nm : (Tryz.f30.name == "runtime.NumGoroutine") = false := by kernel_rfl
/-! quill/quillref09.Of -/
/-! quill/norm.Norm -/
def f33_r0 : List LOp := [
⟨some 1, .box 27 (.tmp 0), none⟩,
⟨some 2, .alloc 27, none⟩]
def f33_r1 : List LOp := [
⟨some 3, .load 27 (.tmp 1), none⟩,
⟨some 4, .buildSlice 25 1 #[(0, .tmp 3)], none⟩,
⟨some 5, .call ⟨.value (.func 29), #[.tmp 4], #[25]⟩, none⟩,
⟨some 6, .unOp .not 4 (.tmp 5), none⟩]
def f33_r2 : List LOp := [
⟨some 7, .build 27 #[], none⟩,
⟨none, .store 27 (.tmp 2) (.tmp 7), none⟩]
def f33_r3 : List LOp := [
⟨some 8, .load 27 (.tmp 1), none⟩,
⟨some 9, .call ⟨.value (.func 58), #[.tmp 8], #[27]⟩, none⟩,
⟨none, .store 27 (.tmp 2) (.tmp 9), none⟩]
def f33_c : LC := (.seq (.reg f33_r0 [] none) (.seq (.seq (.reg f33_r1 [] none) (.cond (.tmp 6) (.seq (.reg f33_r2 [] none) .ret) .skip)) (.seq (.reg f33_r3 [] none) .ret)))
theorem f33_lc : Tryz.f33.body.map lc = some f33_c.st := by kernel_rfl
theorem f33_res : Tryz.f33.results.toList = [.cell 2 27] := by kernel_rfl
theorem f33_nt : Tryz.f33.ntmps = 10 := by kernel_rfl
theorem f33_nm : (Tryz.f33.name == "runtime.NumGoroutine") = false := by kernel_rfl
/-! quill/quillref08.Norm -/
/-! quill/quillref08.Of -/
/-! quill/quillref09.ends -/
def f36_r0 : List LOp := [
⟨some 3, .box 27 (.tmp 0), none⟩,
⟨some 6, .assign (.const (.slice none 0 0)), none⟩]
def f36_r1 : List LOp := [
⟨some 16, .move (.tmp 1), none⟩,
⟨some 17, .call ⟨.builtin .len, #[.tmp 16], #[9]⟩, none⟩,
⟨some 18, .binOp .add 3 (.tmp 17) (.const (.int .i64 1)) 3, none⟩,
⟨some 19, .makeSlice 44 (.tmp 18) (.tmp 18), none⟩,
⟨some 7, .assign (.tmp 19), none⟩]
def f36_r2 : List LOp := [
⟨some 20, .fieldAddr 27 (.tmp 3) 0, none⟩,
⟨some 21, .load 5 (.tmp 20), none⟩]
def f36_r3 : List LOp := [
⟨some 23, .binOp .eql 5 (.tmp 21) (.const (.int .u8 1)) 5, none⟩,
⟨some 22, .assign (.tmp 23), none⟩]
def f36_r4 : List LOp := [
⟨some 24, .move (.tmp 7), none⟩,
⟨some 6, .assign (.tmp 24), none⟩]
def f36_r5 : List LOp := [
⟨some 26, .binOp .eql 5 (.tmp 21) (.const (.int .u8 2)) 5, none⟩,
⟨some 25, .assign (.tmp 26), none⟩]
def f36_r6 : List LOp := [
⟨some 27, .move (.tmp 2), none⟩,
⟨some 6, .assign (.tmp 27), none⟩]
def f36_r7 : List LOp := [
⟨some 29, .binOp .eql 5 (.tmp 21) (.const (.int .u8 3)) 5, none⟩,
⟨some 28, .assign (.tmp 29), none⟩]
def f36_r8 : List LOp := [
⟨some 8, .assign (.const (.int .i64 0)), none⟩]
def f36_r9 : List LOp := [
⟨some 30, .move (.tmp 8), none⟩,
⟨some 31, .move (.tmp 1), none⟩,
⟨some 32, .call ⟨.builtin .len, #[.tmp 31], #[9]⟩, none⟩,
⟨some 33, .binOp .lss 3 (.tmp 30) (.tmp 32) 3, none⟩]
def f36_r10 : List LOp := [
⟨some 36, .move (.tmp 2), none⟩,
⟨some 37, .move (.tmp 8), none⟩,
⟨some 38, .indexAddr 44 (.tmp 36) (.tmp 37), none⟩,
⟨some 39, .load 4 (.tmp 38), none⟩,
⟨some 40, .move (.tmp 39), none⟩,
⟨some 41, .fieldAddr 27 (.tmp 3) 1, some (4, true)⟩,
⟨some 42, .load 24 (.tmp 41), some (4, true)⟩,
⟨some 43, .move (.tmp 1), some (4, true)⟩,
⟨some 44, .move (.tmp 8), some (4, true)⟩,
⟨some 45, .index 9 (.tmp 43) (.tmp 44), some (4, true)⟩,
⟨some 46, .convert 5 3 (.tmp 45), some (4, true)⟩,
⟨some 47, .call ⟨.value (.func 55), #[.tmp 42, .tmp 46], #[24, 3]⟩, some (4, true)⟩,
⟨some 48, .pick (.tmp 40) (.tmp 47) (.const (.bool false)), none⟩]
def f36_r11 : List LOp := [
⟨some 49, .move (.tmp 7), none⟩,
⟨some 50, .move (.tmp 8), none⟩,
⟨some 51, .binOp .add 3 (.tmp 50) (.const (.int .i64 1)) 3, none⟩,
⟨some 52, .call ⟨.value (.func 37), #[.tmp 49, .tmp 51], #[44, 3]⟩, none⟩,
⟨some 7, .assign (.tmp 52), none⟩]
def f36_r12 : List LOp := [
⟨some 34, .move (.tmp 8), none⟩,
⟨some 35, .binOp .add 3 (.tmp 34) (.const (.int .i64 1)) 3, none⟩,
⟨some 8, .assign (.tmp 35), none⟩]
def f36_l13 : LC := (.seq (.seq (.reg f36_r9 [] none) (.cond (.tmp 33) .skip (.exit 1))) (.seq (.block 2 (.seq (.reg f36_r10 [] (some 11)) (.cond (.tmp 48) (.reg f36_r11 [] none) .skip))) (.reg f36_r12 [] none)))
def f36_i13 (t1 t2 t3 t7 t8 : D) : List D := [.any, t1, t2, t3, .any, .any, .any, t7, t8, .any, .any, .any, .any, .any, .any, .any, .any, .any, .any, .any, .any, .any, .any, .any, .any, .any, .any, .any, .any, .any, .any, .any, .any, .any, .any, .any, .any, .any, .any, .any, .any, .any, .any, .any, .any, .any, .any, .any, .any, .any, .any, .any, .any, .any, .any, .any, .any, .any, .any, .any, .any, .any, .any, .any, .any, .any, .any, .any, .any, .any, .any, .any, .any, .any, .any, .any, .any, .any, .any, .any, .any, .any, .any, .any, .any, .any, .any, .any, .any, .any, .any, .any, .any, .any, .any, .any, .any, .any, .any, .any, .any, .any, .any, .any, .any, .any, .any, .any, .any, .any, .any, .any, .any, .any, .any, .any, .any, .any, .any, .any, .any, .any, .any, .any, .any, .any, .any, .any, .any, .any, .any, .any, .any, .any, .any, .any, .any, .any, .any, .any, .any, .any, .any, .any, .any, .any, .any, .any, .any, .any]
def f36_r14 : List LOp := [
⟨some 53, .move (.tmp 7), none⟩,
⟨some 6, .assign (.tmp 53), none⟩]
def f36_r15 : List LOp := [
⟨some 55, .binOp .eql 5 (.tmp 21) (.const (.int .u8 4)) 5, none⟩,
⟨some 54, .assign (.tmp 55), none⟩]
def f36_r16 : List LOp := [
⟨some 56, .fieldAddr 27 (.tmp 3) 2, none⟩,
⟨some 57, .load 25 (.tmp 56), none⟩,
⟨some 58, .indexAddr 25 (.tmp 57) (.const (.int .i64 1)), none⟩,
⟨some 59, .load 27 (.tmp 58), none⟩,
⟨some 60, .move (.tmp 1), none⟩,
⟨some 61, .fieldAddr 27 (.tmp 3) 2, none⟩,
⟨some 62, .load 25 (.tmp 61), none⟩,
⟨some 63, .indexAddr 25 (.tmp 62) (.const (.int .i64 0)), none⟩,
⟨some 64, .load 27 (.tmp 63), none⟩,
⟨some 65, .move (.tmp 1), none⟩,
⟨some 66, .move (.tmp 2), none⟩,
⟨some 67, .call ⟨.value (.func 36), #[.tmp 64, .tmp 65, .tmp 66], #[27, 9, 44]⟩, none⟩,
⟨some 68, .call ⟨.value (.func 36), #[.tmp 59, .tmp 60, .tmp 67], #[27, 9, 44]⟩, none⟩,
⟨some 6, .assign (.tmp 68), none⟩]
def f36_r17 : List LOp := [
⟨some 70, .binOp .eql 5 (.tmp 21) (.const (.int .u8 5)) 5, none⟩,
⟨some 69, .assign (.tmp 70), none⟩]
def f36_r18 : List LOp := [
⟨some 71, .fieldAddr 27 (.tmp 3) 2, none⟩,
⟨some 72, .load 25 (.tmp 71), none⟩,
⟨some 73, .indexAddr 25 (.tmp 72) (.const (.int .i64 0)), none⟩,
⟨some 74, .load 27 (.tmp 73), none⟩,
⟨some 75, .move (.tmp 1), none⟩,
⟨some 76, .move (.tmp 2), none⟩,
⟨some 77, .call ⟨.value (.func 36), #[.tmp 74, .tmp 75, .tmp 76], #[27, 9, 44]⟩, none⟩,
⟨some 78, .fieldAddr 27 (.tmp 3) 2, none⟩,
⟨some 79, .load 25 (.tmp 78), none⟩,
⟨some 80, .indexAddr 25 (.tmp 79) (.const (.int .i64 1)), none⟩,
⟨some 81, .load 27 (.tmp 80), none⟩,
⟨some 82, .move (.tmp 1), none⟩,
⟨some 83, .move (.tmp 2), none⟩,
⟨some 84, .call ⟨.value (.func 36), #[.tmp 81, .tmp 82, .tmp 83], #[27, 9, 44]⟩, none⟩,
⟨some 9, .assign (.tmp 77), none⟩,
⟨some 10, .assign (.tmp 84), none⟩]
def f36_r19 : List LOp := [
⟨some 85, .move (.tmp 9), none⟩,
⟨some 86, .call ⟨.builtin .len, #[.tmp 85], #[44]⟩, none⟩,
⟨some 87, .move (.const (.int .i64 0)), none⟩]
def f36_r20 : List LOp := [
⟨some 88, .binOp .lss 3 (.tmp 87) (.tmp 86) 3, none⟩]
def f36_r21 : List LOp := [
⟨some 89, .move (.tmp 87), none⟩,
⟨some 11, .assign (.tmp 89), none⟩]
def f36_r22 : List LOp := [
⟨some 90, .move (.tmp 7), none⟩,
⟨some 91, .move (.tmp 11), none⟩,
⟨some 92, .move (.tmp 9), none⟩,
⟨some 93, .move (.tmp 11), none⟩,
⟨some 94, .indexAddr 44 (.tmp 92) (.tmp 93), none⟩,
⟨some 95, .load 4 (.tmp 94), none⟩,
⟨some 96, .move (.tmp 95), none⟩,
⟨some 97, .move (.tmp 10), some (6, false)⟩,
⟨some 98, .move (.tmp 11), some (6, false)⟩,
⟨some 99, .indexAddr 44 (.tmp 97) (.tmp 98), some (6, false)⟩,
⟨some 100, .load 4 (.tmp 99), some (6, false)⟩,
⟨some 101, .pick (.tmp 96) (.const (.bool true)) (.tmp 100), none⟩,
⟨some 102, .indexAddr 44 (.tmp 90) (.tmp 91), none⟩,
⟨none, .store 4 (.tmp 102) (.tmp 101), none⟩]
def f36_r23 : List LOp := [
⟨some 103, .binOp .add 3 (.tmp 87) (.const (.int .i64 1)) 3, none⟩,
⟨some 87, .move (.tmp 103), none⟩]
def f36_l24 : LC := (.seq (.reg f36_r20 [] none) (.seq (.cond (.tmp 88) .skip (.exit 3)) (.seq (.block 4 (.seq (.reg f36_r21 [] none) (.reg f36_r22 [] none))) (.reg f36_r23 [] none))))
def f36_i24 (t7 t9 t10 t86 t87 : D) : List D := [.any, .any, .any, .any, .any, .any, .any, t7, .any, t9, t10, .any, .any, .any, .any, .any, .any, .any, .any, .any, .any, .any, .any, .any, .any, .any, .any, .any, .any, .any, .any, .any, .any, .any, .any, .any, .any, .any, .any, .any, .any, .any, .any, .any, .any, .any, .any, .any, .any, .any, .any, .any, .any, .any, .any, .any, .any, .any, .any, .any, .any, .any, .any, .any, .any, .any, .any, .any, .any, .any, .any, .any, .any, .any, .any, .any, .any, .any, .any, .any, .any, .any, .any, .any, .any, .any, t86, t87, .any, .any, .any, .any, .any, .any, .any, .any, .any, .any, .any, .any, .any, .any, .any, .any, .any, .any, .any, .any, .any, .any, .any, .any, .any, .any, .any, .any, .any, .any, .any, .any, .any, .any, .any, .any, .any, .any, .any, .any, .any, .any, .any, .any, .any, .any, .any, .any, .any, .any, .any, .any, .any, .any, .any, .any, .any, .any, .any, .any, .any, .any]
def f36_r25 : List LOp := [
⟨some 104, .move (.tmp 7), none⟩,
⟨some 6, .assign (.tmp 104), none⟩]
def f36_r26 : List LOp := [
⟨some 105, .fieldAddr 27 (.tmp 3) 2, none⟩,
⟨some 106, .load 25 (.tmp 105), none⟩,
⟨some 107, .indexAddr 25 (.tmp 106) (.const (.int .i64 0)), none⟩,
⟨some 108, .fieldAddr 27 (.tmp 107) 0, none⟩,
⟨some 109, .load 5 (.tmp 108), none⟩,
⟨some 110, .binOp .eql 5 (.tmp 109) (.const (.int .u8 6)) 5, none⟩]
def f36_r27 : List LOp := [
⟨some 111, .fieldAddr 27 (.tmp 3) 2, none⟩,
⟨some 112, .load 25 (.tmp 111), none⟩,
⟨some 113, .indexAddr 25 (.tmp 112) (.const (.int .i64 0)), none⟩,
⟨some 114, .load 27 (.tmp 113), none⟩,
⟨some 115, .move (.tmp 1), none⟩,
⟨some 116, .move (.tmp 2), none⟩,
⟨some 117, .call ⟨.value (.func 36), #[.tmp 114, .tmp 115, .tmp 116], #[27, 9, 44]⟩, none⟩,
⟨some 6, .assign (.tmp 117), none⟩]
def f36_r28 : List LOp := [
⟨some 118, .buildSlice 44 0 #[], none⟩,
⟨some 119, .move (.tmp 2), none⟩,
⟨some 120, .call ⟨.builtin .append, #[.tmp 118, .tmp 119], #[44, 44]⟩, none⟩,
⟨some 12, .assign (.tmp 120), none⟩]
def f36_r29 : List LOp := [
⟨some 13, .assign (.const (.bool true)), none⟩]
def f36_r30 : List LOp := [
⟨some 121, .move (.tmp 13), none⟩]
def f36_r31 : List LOp := [
⟨some 13, .assign (.const (.bool false)), none⟩]
def f36_r32 : List LOp := [
⟨some 122, .fieldAddr 27 (.tmp 3) 2, none⟩,
⟨some 123, .load 25 (.tmp 122), none⟩,
⟨some 124, .indexAddr 25 (.tmp 123) (.const (.int .i64 0)), none⟩,
⟨some 125, .load 27 (.tmp 124), none⟩,
⟨some 126, .move (.tmp 1), none⟩,
⟨some 127, .move (.tmp 12), none⟩,
⟨some 128, .call ⟨.value (.func 36), #[.tmp 125, .tmp 126, .tmp 127], #[27, 9, 44]⟩, none⟩,
⟨some 14, .assign (.tmp 128), none⟩]
def f36_r33 : List LOp := [
⟨some 129, .move (.tmp 14), none⟩,
⟨some 130, .call ⟨.builtin .len, #[.tmp 129], #[44]⟩, none⟩,
⟨some 131, .move (.const (.int .i64 0)), none⟩]
def f36_r34 : List LOp := [
⟨some 132, .binOp .lss 3 (.tmp 131) (.tmp 130) 3, none⟩]
def f36_r35 : List LOp := [
⟨some 133, .move (.tmp 131), none⟩,
⟨some 15, .assign (.tmp 133), none⟩]
def f36_r36 : List LOp := [
⟨some 134, .move (.tmp 14), none⟩,
⟨some 135, .move (.tmp 15), none⟩,
⟨some 136, .indexAddr 44 (.tmp 134) (.tmp 135), none⟩,
⟨some 137, .load 4 (.tmp 136), none⟩,
⟨some 138, .move (.tmp 137), none⟩,
⟨some 139, .move (.tmp 12), some (4, true)⟩,
⟨some 140, .move (.tmp 15), some (4, true)⟩,
⟨some 141, .indexAddr 44 (.tmp 139) (.tmp 140), some (4, true)⟩,
⟨some 142, .load 4 (.tmp 141), some (4, true)⟩,
⟨some 143, .unOp .not 4 (.tmp 142), some (4, true)⟩,
⟨some 144, .pick (.tmp 138) (.tmp 143) (.const (.bool false)), none⟩]
def f36_r37 : List LOp := [
⟨some 145, .move (.tmp 12), none⟩,
⟨some 146, .move (.tmp 15), none⟩,
⟨some 147, .indexAddr 44 (.tmp 145) (.tmp 146), none⟩,
⟨none, .store 4 (.tmp 147) (.const (.bool true)), none⟩]
def f36_r38 : List LOp := [
⟨some 13, .assign (.const (.bool true)), none⟩]
def f36_r39 : List LOp := [
⟨some 148, .binOp .add 3 (.tmp 131) (.const (.int .i64 1)) 3, none⟩,
⟨some 131, .move (.tmp 148), none⟩]
def f36_l40 : LC := (.seq (.reg f36_r34 [] none) (.seq (.cond (.tmp 132) .skip (.exit 7)) (.seq (.block 8 (.seq (.reg f36_r35 [] none) (.seq (.reg f36_r36 [] none) (.cond (.tmp 144) (.seq (.reg f36_r37 [] none) (.reg f36_r38 [] none)) .skip)))) (.reg f36_r39 [] none))))
def f36_i40 (t1 t3 t12 t13 t14 t130 t131 : D) : List D := [.any, t1, .any, t3, .any, .any, .any, .any, .any, .any, .any, .any, t12, t13, t14, .any, .any, .any, .any, .any, .any, .any, .any, .any, .any, .any, .any, .any, .any, .any, .any, .any, .any, .any, .any, .any, .any, .any, .any, .any, .any, .any, .any, .any, .any, .any, .any, .any, .any, .any, .any, .any, .any, .any, .any, .any, .any, .any, .any, .any, .any, .any, .any, .any, .any, .any, .any, .any, .any, .any, .any, .any, .any, .any, .any, .any, .any, .any, .any, .any, .any, .any, .any, .any, .any, .any, .any, .any, .any, .any, .any, .any, .any, .any, .any, .any, .any, .any, .any, .any, .any, .any, .any, .any, .any, .any, .any, .any, .any, .any, .any, .any, .any, .any, .any, .any, .any, .any, .any, .any, .any, .any, .any, .any, .any, .any, .any, .any, .any, .any, t130, t131, .any, .any, .any, .any, .any, .any, .any, .any, .any, .any, .any, .any, .any, .any, .any, .any, .any, .any]
def f36_l41 : LC := (.seq (.seq (.reg f36_r30 [] none) (.cond (.tmp 121) .skip (.exit 5))) (.block 6 (.seq (.reg f36_r31 [] none) (.seq (.reg f36_r32 [] none) (.seq (.reg f36_r33 [] none) (.block 7 (.loop f36_l40)))))))
def f36_i41 (t1 t3 t12 t13 : D) : List D := [.any, t1, .any, t3, .any, .any, .any, .any, .any, .any, .any, .any, t12, t13, .any, .any, .any, .any, .any, .any, .any, .any, .any, .any, .any, .any, .any, .any, .any, .any, .any, .any, .any, .any, .any, .any, .any, .any, .any, .any, .any, .any, .any, .any, .any, .any, .any, .any, .any, .any, .any, .any, .any, .any, .any, .any, .any, .any, .any, .any, .any, .any, .any, .any, .any, .any, .any, .any, .any, .any, .any, .any, .any, .any, .any, .any, .any, .any, .any, .any, .any, .any, .any, .any, .any, .any, .any, .any, .any, .any, .any, .any, .any, .any, .any, .any, .any, .any, .any, .any, .any, .any, .any, .any, .any, .any, .any, .any, .any, .any, .any, .any, .any, .any, .any, .any, .any, .any, .any, .any, .any, .any, .any, .any, .any, .any, .any, .any, .any, .any, .any, .any, .any, .any, .any, .any, .any, .any, .any, .any, .any, .any, .any, .any, .any, .any, .any, .any, .any, .any]
def f36_r42 : List LOp := [
⟨some 149, .move (.tmp 12), none⟩,
⟨some 6, .assign (.tmp 149), none⟩]
def f36_c : LC := (.seq (.reg f36_r0 [] none) (.seq (.reg f36_r1 [3] none) (.seq (.seq (.reg f36_r2 [] none) (.block 0 (.seq (.reg f36_r3 [] none) (.cond (.tmp 22) (.seq (.reg f36_r4 [] none) .ret) (.seq (.reg f36_r5 [] none) (.cond (.tmp 25) (.seq (.reg f36_r6 [] none) .ret) (.seq (.reg f36_r7 [] none) (.cond (.tmp 28) (.seq (.seq (.reg f36_r8 [] none) (.block 1 (.loop f36_l13))) (.seq (.reg f36_r14 [] none) .ret)) (.seq (.reg f36_r15 [] none) (.cond (.tmp 54) (.seq (.reg f36_r16 [] (some 12)) .ret) (.seq (.reg f36_r17 [] none) (.cond (.tmp 69) (.seq (.regp f36_r18 [] [4, 5, 11, 12] 13) (.seq (.seq (.reg f36_r19 [] none) (.block 3 (.loop f36_l24))) (.seq (.reg f36_r25 [] none) .ret))) .skip)))))))))))) (.seq (.seq (.reg f36_r26 [] none) (.cond (.tmp 110) (.seq (.reg f36_r27 [] none) .ret) .skip)) (.seq (.reg f36_r28 [0] none) (.seq (.reg f36_r29 [] none) (.seq (.block 5 (.loop f36_l41)) (.seq (.reg f36_r42 [] none) .ret))))))))
theorem f36_lc : Tryz.f36.body.map lc = some f36_c.st := by kernel_rfl
theorem f36_res : Tryz.f36.results.toList = [.tmp 6] := by kernel_rfl
theorem f36_nt : Tryz.f36.ntmps = 150 := by kernel_rfl
theorem f36_nm : (Tryz.f36.name == "runtime.NumGoroutine") = false := by kernel_rfl
/-! quill/quillref09.mark -/
def f37_r0 : List LOp := [
⟨some 4, .assign (.const (.slice none 0 0)), none⟩]
def f37_r1 : List LOp := [
⟨some 6, .buildSlice 44 0 #[], none⟩,
⟨some 7, .move (.tmp 0), none⟩,
⟨some 8, .call ⟨.builtin .append, #[.tmp 6, .tmp 7], #[44, 44]⟩, none⟩,
⟨some 5, .assign (.tmp 8), none⟩]
def f37_r2 : List LOp := [
⟨some 9, .move (.tmp 5), none⟩,
⟨some 10, .move (.tmp 1), none⟩,
⟨some 11, .indexAddr 44 (.tmp 9) (.tmp 10), none⟩,
⟨none, .store 4 (.tmp 11) (.const (.bool true)), none⟩]
def f37_r3 : List LOp := [
⟨some 12, .move (.tmp 5), none⟩,
⟨some 4, .assign (.tmp 12), none⟩]
def f37_c : LC := (.seq (.reg f37_r0 [] none) (.seq (.reg f37_r1 [0] none) (.seq (.reg f37_r2 [] none) (.seq (.reg f37_r3 [] none) .ret))))
theorem f37_lc : Tryz.f37.body.map lc = some f37_c.st := by kernel_rfl
theorem f37_res : Tryz.f37.results.toList = [.tmp 4] := by kernel_rfl
theorem f37_nt : Tryz.f37.ntmps = 13 := by kernel_rfl
theorem f37_nm : (Tryz.f37.name == "runtime.NumGoroutine") = false := by kernel_rfl
/-! quill/null.Null$1 -/
def f39_r0 : List LOp := [
⟨some 1, .box 27 (.tmp 0), none⟩,
⟨some 2, .assign (.const (.bool false)), none⟩]
def f39_r1 : List LOp := [
⟨some 3, .load 27 (.tmp 1), none⟩,
⟨some 4, .buildSlice 25 1 #[(0, .tmp 3)], none⟩,
⟨some 5, .call ⟨.value (.func 29), #[.tmp 4], #[25]⟩, none⟩,
⟨some 6, .unOp .not 4 (.tmp 5), none⟩,
⟨some 7, .move (.tmp 6), none⟩,
⟨some 8, .load 27 (.tmp 1), some (4, false)⟩,
⟨some 9, .call ⟨.value (.func 40), #[.tmp 8], #[27]⟩, some (4, false)⟩,
⟨some 10, .unOp .not 4 (.tmp 9), some (4, false)⟩,
⟨some 11, .pick (.tmp 7) (.const (.bool true)) (.tmp 10), none⟩,
⟨some 2, .assign (.tmp 11), none⟩]
def f39_c : LC := (.seq (.reg f39_r0 [] none) (.seq (.reg f39_r1 [] none) .ret))
theorem f39_lc : Tryz.f39.body.map lc = some f39_c.st := by kernel_rfl
theorem f39_res : Tryz.f39.results.toList = [.tmp 2] := by kernel_rfl
theorem f39_nt : Tryz.f39.ntmps = 12 := by kernel_rfl
theorem f39_nm : (Tryz.f39.name == "runtime.NumGoroutine") = false := by kernel_rfl
/-! quill/null.null -/
def f40_r0 : List LOp := [
⟨some 1, .box 27 (.tmp 0), none⟩,
⟨some 2, .assign (.const (.bool false)), none⟩]
def f40_r1 : List LOp := [
⟨some 3, .fieldAddr 27 (.tmp 1) 0, none⟩,
⟨some 4, .load 5 (.tmp 3), none⟩]
def f40_r2 : List LOp := [
⟨some 6, .binOp .eql 5 (.tmp 4) (.const (.int .u8 2)) 5, none⟩,
⟨some 5, .assign (.tmp 6), none⟩]
def f40_r3 : List LOp := [
⟨some 7, .binOp .eql 5 (.tmp 4) (.const (.int .u8 6)) 5, none⟩,
⟨some 5, .assign (.tmp 7), none⟩]
def f40_r4 : List LOp := [
⟨some 2, .assign (.const (.bool true)), none⟩]
def f40_r5 : List LOp := [
⟨some 9, .binOp .eql 5 (.tmp 4) (.const (.int .u8 4)) 5, none⟩,
⟨some 8, .assign (.tmp 9), none⟩]
def f40_r6 : List LOp := [
⟨some 10, .fieldAddr 27 (.tmp 1) 2, none⟩,
⟨some 11, .load 25 (.tmp 10), none⟩,
⟨some 12, .indexAddr 25 (.tmp 11) (.const (.int .i64 0)), none⟩,
⟨some 13, .load 27 (.tmp 12), none⟩,
⟨some 14, .call ⟨.value (.func 40), #[.tmp 13], #[27]⟩, none⟩,
⟨some 15, .move (.tmp 14), none⟩,
⟨some 16, .fieldAddr 27 (.tmp 1) 2, some (5, true)⟩,
⟨some 17, .load 25 (.tmp 16), some (5, true)⟩,
⟨some 18, .indexAddr 25 (.tmp 17) (.const (.int .i64 1)), some (5, true)⟩,
⟨some 19, .load 27 (.tmp 18), some (5, true)⟩,
⟨some 20, .call ⟨.value (.func 40), #[.tmp 19], #[27]⟩, some (5, true)⟩,
⟨some 21, .pick (.tmp 15) (.tmp 20) (.const (.bool false)), none⟩,
⟨some 2, .assign (.tmp 21), none⟩]
def f40_r7 : List LOp := [
⟨some 23, .binOp .eql 5 (.tmp 4) (.const (.int .u8 5)) 5, none⟩,
⟨some 22, .assign (.tmp 23), none⟩]
def f40_r8 : List LOp := [
⟨some 24, .fieldAddr 27 (.tmp 1) 2, none⟩,
⟨some 25, .load 25 (.tmp 24), none⟩,
⟨some 26, .indexAddr 25 (.tmp 25) (.const (.int .i64 0)), none⟩,
⟨some 27, .load 27 (.tmp 26), none⟩,
⟨some 28, .call ⟨.value (.func 40), #[.tmp 27], #[27]⟩, none⟩,
⟨some 29, .move (.tmp 28), none⟩,
⟨some 30, .fieldAddr 27 (.tmp 1) 2, some (5, false)⟩,
⟨some 31, .load 25 (.tmp 30), some (5, false)⟩,
⟨some 32, .indexAddr 25 (.tmp 31) (.const (.int .i64 1)), some (5, false)⟩,
⟨some 33, .load 27 (.tmp 32), some (5, false)⟩,
⟨some 34, .call ⟨.value (.func 40), #[.tmp 33], #[27]⟩, some (5, false)⟩,
⟨some 35, .pick (.tmp 29) (.const (.bool true)) (.tmp 34), none⟩,
⟨some 2, .assign (.tmp 35), none⟩]
def f40_r9 : List LOp := [
⟨some 2, .assign (.const (.bool false)), none⟩]
def f40_c : LC := (.seq (.reg f40_r0 [] none) (.seq (.seq (.reg f40_r1 [] none) (.block 0 (.seq (.seq (.reg f40_r2 [] none) (.cond (.tmp 5) .skip (.reg f40_r3 [] none))) (.cond (.tmp 5) (.seq (.reg f40_r4 [] none) .ret) (.seq (.reg f40_r5 [] none) (.cond (.tmp 8) (.seq (.reg f40_r6 [] none) .ret) (.seq (.reg f40_r7 [] none) (.cond (.tmp 22) (.seq (.reg f40_r8 [] none) .ret) .skip)))))))) (.seq (.reg f40_r9 [] none) .ret)))
theorem f40_lc : Tryz.f40.body.map lc = some f40_c.st := by kernel_rfl
theorem f40_res : Tryz.f40.results.toList = [.tmp 2] := by kernel_rfl
theorem f40_nt : Tryz.f40.ntmps = 36 := by kernel_rfl
theorem f40_nm : (Tryz.f40.name == "runtime.NumGoroutine") = false := by kernel_rfl
/-! quill/trace.flag -/
/-! quill/quillref26.line -/
/-! quill/quillref07.Of -/
/-! quill/set.Has -/
def f51_r0 : List LOp := [
⟨some 2, .box 24 (.tmp 0), none⟩,
⟨some 4, .assign (.const (.bool false)), none⟩]
def f51_r1 : List LOp := [
⟨some 5, .move (.tmp 1), none⟩,
⟨some 6, .binOp .quo 5 (.tmp 5) (.const (.int .u8 64)) 5, none⟩,
⟨some 7, .indexAddr 24 (.tmp 2) (.tmp 6), none⟩,
⟨some 8, .load 22 (.tmp 7), none⟩,
⟨some 9, .move (.tmp 1), none⟩,
⟨some 10, .binOp .rem 5 (.tmp 9) (.const (.int .u8 64)) 5, none⟩,
⟨some 11, .binOp .shr 22 (.tmp 8) (.tmp 10) 5, none⟩,
⟨some 12, .binOp .and 22 (.tmp 11) (.const (.int .u64 1)) 22, none⟩,
⟨some 13, .binOp .eql 22 (.tmp 12) (.const (.int .u64 1)) 22, none⟩,
⟨some 4, .assign (.tmp 13), none⟩]
def f51_c : LC := (.seq (.reg f51_r0 [] none) (.seq (.reg f51_r1 [] none) .ret))
theorem f51_lc : Tryz.f51.body.map lc = some f51_c.st := by kernel_rfl
theorem f51_res : Tryz.f51.results.toList = [.tmp 4] := by kernel_rfl
theorem f51_nt : Tryz.f51.ntmps = 14 := by kernel_rfl
theorem f51_nm : (Tryz.f51.name == "runtime.NumGoroutine") = false := by kernel_rfl
/-! quill/quillref03.Bare -/
def f56_r0 : List LOp := [
⟨some 2, .alloc 27, none⟩]
def f56_r1 : List LOp := [
⟨some 3, .move (.tmp 0), none⟩,
⟨some 4, .build 27 #[(0, .tmp 3)], none⟩,
⟨none, .store 27 (.tmp 2) (.tmp 4), none⟩]
def f56_c : LC := (.seq (.reg f56_r0 [] none) (.seq (.reg f56_r1 [] none) .ret))
theorem f56_lc : Tryz.f56.body.map lc = some f56_c.st := by kernel_rfl
theorem f56_res : Tryz.f56.results.toList = [.cell 2 27] := by kernel_rfl
theorem f56_nt : Tryz.f56.ntmps = 5 := by kernel_rfl
theorem f56_nm : (Tryz.f56.name == "runtime.NumGoroutine") = false := by kernel_rfl
/-! quill/quillref03.Two -/
/-! quill/norm.norm -/
def f58_r0 : List LOp := [
⟨some 1, .box 27 (.tmp 0), none⟩,
⟨some 2, .alloc 27, none⟩]
def f58_r1 : List LOp := [
⟨some 3, .fieldAddr 27 (.tmp 1) 0, none⟩,
⟨some 4, .load 5 (.tmp 3), none⟩]
def f58_r2 : List LOp := [
⟨some 6, .binOp .eql 5 (.tmp 4) (.const (.int .u8 4)) 5, none⟩,
⟨some 5, .assign (.tmp 6), none⟩]
def f58_r3 : List LOp := [
⟨some 7, .fieldAddr 27 (.tmp 1) 2, none⟩,
⟨some 8, .load 25 (.tmp 7), none⟩,
⟨some 9, .indexAddr 25 (.tmp 8) (.const (.int .i64 0)), none⟩,
⟨some 10, .load 27 (.tmp 9), none⟩,
⟨some 11, .call ⟨.value (.func 58), #[.tmp 10], #[27]⟩, none⟩,
⟨some 12, .fieldAddr 27 (.tmp 1) 2, none⟩,
⟨some 13, .load 25 (.tmp 12), none⟩,
⟨some 14, .indexAddr 25 (.tmp 13) (.const (.int .i64 1)), none⟩,
⟨some 15, .load 27 (.tmp 14), none⟩,
⟨some 16, .call ⟨.value (.func 58), #[.tmp 15], #[27]⟩, none⟩,
⟨some 17, .call ⟨.value (.func 74), #[.tmp 11, .tmp 16], #[27, 27]⟩, none⟩,
⟨none, .store 27 (.tmp 2) (.tmp 17), none⟩]
def f58_r4 : List LOp := [
⟨some 19, .binOp .eql 5 (.tmp 4) (.const (.int .u8 5)) 5, none⟩,
⟨some 18, .assign (.tmp 19), none⟩]
def f58_r5 : List LOp := [
⟨some 20, .fieldAddr 27 (.tmp 1) 2, none⟩,
⟨some 21, .load 25 (.tmp 20), none⟩,
⟨some 22, .indexAddr 25 (.tmp 21) (.const (.int .i64 0)), none⟩,
⟨some 23, .load 27 (.tmp 22), none⟩,
⟨some 24, .call ⟨.value (.func 58), #[.tmp 23], #[27]⟩, none⟩,
⟨some 25, .fieldAddr 27 (.tmp 1) 2, none⟩,
⟨some 26, .load 25 (.tmp 25), none⟩,
⟨some 27, .indexAddr 25 (.tmp 26) (.const (.int .i64 1)), none⟩,
⟨some 28, .load 27 (.tmp 27), none⟩,
⟨some 29, .call ⟨.value (.func 58), #[.tmp 28], #[27]⟩, none⟩,
⟨some 30, .buildSlice 25 2 #[(0, .tmp 24), (1, .tmp 29)], none⟩,
⟨some 31, .call ⟨.value (.func 75), #[.tmp 30], #[25]⟩, none⟩,
⟨none, .store 27 (.tmp 2) (.tmp 31), none⟩]
def f58_r6 : List LOp := [
⟨some 33, .binOp .eql 5 (.tmp 4) (.const (.int .u8 6)) 5, none⟩,
⟨some 32, .assign (.tmp 33), none⟩]
def f58_r7 : List LOp := [
⟨some 34, .fieldAddr 27 (.tmp 1) 2, none⟩,
⟨some 35, .load 25 (.tmp 34), none⟩,
⟨some 36, .indexAddr 25 (.tmp 35) (.const (.int .i64 0)), none⟩,
⟨some 37, .load 27 (.tmp 36), none⟩,
⟨some 38, .call ⟨.value (.func 58), #[.tmp 37], #[27]⟩, none⟩,
⟨some 39, .call ⟨.value (.func 76), #[.tmp 38], #[27]⟩, none⟩,
⟨none, .store 27 (.tmp 2) (.tmp 39), none⟩]
def f58_r8 : List LOp := [
⟨some 40, .load 27 (.tmp 1), none⟩,
⟨none, .store 27 (.tmp 2) (.tmp 40), none⟩]
def f58_c : LC := (.seq (.reg f58_r0 [] none) (.seq (.seq (.reg f58_r1 [] none) (.block 0 (.seq (.reg f58_r2 [] none) (.cond (.tmp 5) (.seq (.reg f58_r3 [] (some 9)) .ret) (.seq (.reg f58_r4 [] none) (.cond (.tmp 18) (.seq (.reg f58_r5 [] (some 9)) .ret) (.seq (.reg f58_r6 [] none) (.cond (.tmp 32) (.seq (.reg f58_r7 [] none) .ret) .skip)))))))) (.seq (.reg f58_r8 [] none) .ret)))
theorem f58_lc : Tryz.f58.body.map lc = some f58_c.st := by kernel_rfl
theorem f58_res : Tryz.f58.results.toList = [.cell 2 27] := by kernel_rfl
theorem f58_nt : Tryz.f58.ntmps = 41 := by kernel_rfl
theorem f58_nm : (Tryz.f58.name == "runtime.NumGoroutine") = false := by kernel_rfl
/-! quill/quillref08.Seq -/
/-! quill/quillref08.Alt -/
/-! quill/quillref08.Star -/
/-! quill/norm.seq -/
def f74_r0 : List LOp := [
⟨some 2, .box 27 (.tmp 0), none⟩,
⟨some 3, .box 27 (.tmp 1), none⟩,
⟨some 4, .alloc 27, none⟩]
def f74_r1 : List LOp := [
⟨some 6, .fieldAddr 27 (.tmp 2) 0, none⟩,
⟨some 7, .load 5 (.tmp 6), none⟩,
⟨some 8, .binOp .eql 5 (.tmp 7) (.const (.int .u8 1)) 5, none⟩,
⟨some 9, .move (.tmp 8), none⟩,
⟨some 10, .fieldAddr 27 (.tmp 3) 0, some (3, false)⟩,
⟨some 11, .load 5 (.tmp 10), some (3, false)⟩,
⟨some 12, .binOp .eql 5 (.tmp 11) (.const (.int .u8 1)) 5, some (3, false)⟩,
⟨some 13, .pick (.tmp 9) (.const (.bool true)) (.tmp 12), none⟩,
⟨some 5, .assign (.tmp 13), none⟩]
def f74_r2 : List LOp := [
⟨some 14, .call ⟨.value (.func 53), #[.const (.slice none 0 0)], #[25]⟩, none⟩,
⟨none, .store 27 (.tmp 4) (.tmp 14), none⟩]
def f74_r3 : List LOp := [
⟨some 16, .fieldAddr 27 (.tmp 2) 0, none⟩,
⟨some 17, .load 5 (.tmp 16), none⟩,
⟨some 18, .binOp .eql 5 (.tmp 17) (.const (.int .u8 2)) 5, none⟩,
⟨some 15, .assign (.tmp 18), none⟩]
def f74_r4 : List LOp := [
⟨some 19, .load 27 (.tmp 3), none⟩,
⟨none, .store 27 (.tmp 4) (.tmp 19), none⟩]
def f74_r5 : List LOp := [
⟨some 21, .fieldAddr 27 (.tmp 3) 0, none⟩,
⟨some 22, .load 5 (.tmp 21), none⟩,
⟨some 23, .binOp .eql 5 (.tmp 22) (.const (.int .u8 2)) 5, none⟩,
⟨some 20, .assign (.tmp 23), none⟩]
def f74_r6 : List LOp := [
⟨some 24, .load 27 (.tmp 2), none⟩,
⟨none, .store 27 (.tmp 4) (.tmp 24), none⟩]
def f74_r7 : List LOp := [
⟨some 26, .fieldAddr 27 (.tmp 2) 0, none⟩,
⟨some 27, .load 5 (.tmp 26), none⟩,
⟨some 28, .binOp .eql 5 (.tmp 27) (.const (.int .u8 4)) 5, none⟩,
⟨some 25, .assign (.tmp 28), none⟩]
def f74_r8 : List LOp := [
⟨some 29, .fieldAddr 27 (.tmp 2) 2, none⟩,
⟨some 30, .load 25 (.tmp 29), none⟩,
⟨some 31, .indexAddr 25 (.tmp 30) (.const (.int .i64 0)), none⟩,
⟨some 32, .load 27 (.tmp 31), none⟩,
⟨some 33, .fieldAddr 27 (.tmp 2) 2, none⟩,
⟨some 34, .load 25 (.tmp 33), none⟩,
⟨some 35, .indexAddr 25 (.tmp 34) (.const (.int .i64 1)), none⟩,
⟨some 36, .load 27 (.tmp 35), none⟩,
⟨some 37, .load 27 (.tmp 3), none⟩,
⟨some 38, .call ⟨.value (.func 74), #[.tmp 36, .tmp 37], #[27, 27]⟩, none⟩,
⟨some 39, .call ⟨.value (.func 74), #[.tmp 32, .tmp 38], #[27, 27]⟩, none⟩,
⟨none, .store 27 (.tmp 4) (.tmp 39), none⟩]
def f74_r9 : List LOp := [
⟨some 40, .load 27 (.tmp 2), none⟩,
⟨some 41, .load 27 (.tmp 3), none⟩,
⟨some 42, .buildSlice 25 2 #[(0, .tmp 40), (1, .tmp 41)], none⟩,
⟨some 43, .call ⟨.value (.func 52), #[.tmp 42], #[25]⟩, none⟩,
⟨none, .store 27 (.tmp 4) (.tmp 43), none⟩]
def f74_c : LC := (.seq (.reg f74_r0 [] none) (.seq (.block 0 (.seq (.reg f74_r1 [] none) (.cond (.tmp 5) (.seq (.reg f74_r2 [] none) .ret) (.seq (.reg f74_r3 [] none) (.cond (.tmp 15) (.seq (.reg f74_r4 [] none) .ret) (.seq (.reg f74_r5 [] none) (.cond (.tmp 20) (.seq (.reg f74_r6 [] none) .ret) (.seq (.reg f74_r7 [] none) (.cond (.tmp 25) (.seq (.reg f74_r8 [] (some 10)) .ret) .skip))))))))) (.seq (.reg f74_r9 [] none) .ret)))
theorem f74_lc : Tryz.f74.body.map lc = some f74_c.st := by kernel_rfl
theorem f74_res : Tryz.f74.results.toList = [.cell 4 27] := by kernel_rfl
theorem f74_nt : Tryz.f74.ntmps = 44 := by kernel_rfl
theorem f74_nm : (Tryz.f74.name == "runtime.NumGoroutine") = false := by kernel_rfl
/-! quill/norm.alt -/
def f75_r0 : List LOp := [
⟨some 2, .alloc 27, none⟩]
def f75_r1 : List LOp := [
⟨some 3, .alloc 24, none⟩]
def f75_r2 : List LOp := [
⟨some 5, .move (.tmp 0), none⟩,
⟨some 6, .call ⟨.value (.func 95), #[.tmp 5], #[25]⟩, none⟩,
⟨some 7, .makeFunc (.func 96) #[] #[.tmp 3], none⟩,
⟨some 8, .call ⟨.value (.func 94), #[.tmp 6, .tmp 7], #[25, 59]⟩, none⟩,
⟨some 4, .assign (.tmp 8), none⟩]
def f75_r3 : List LOp := [
⟨some 9, .load 24 (.tmp 3), none⟩,
⟨some 10, .build 24 #[], none⟩,
⟨some 11, .binOp .neq 24 (.tmp 9) (.tmp 10) 24, none⟩]
def f75_r4 : List LOp := [
⟨some 12, .move (.tmp 4), none⟩,
⟨some 13, .load 24 (.tmp 3), none⟩,
⟨some 14, .call ⟨.value (.func 98), #[.tmp 13], #[24]⟩, none⟩,
⟨some 15, .buildSlice 25 1 #[(0, .tmp 14)], none⟩,
⟨some 16, .call ⟨.builtin .append, #[.tmp 12, .tmp 15], #[25, 25]⟩, none⟩,
⟨some 4, .assign (.tmp 16), none⟩]
def f75_r5 : List LOp := [
⟨some 17, .move (.tmp 4), none⟩,
⟨some 18, .call ⟨.value (.func 100), #[.tmp 17], #[25]⟩, none⟩,
⟨some 19, .call ⟨.value (.func 99), #[.tmp 18], #[25]⟩, none⟩,
⟨some 20, .call ⟨.value (.func 53), #[.tmp 19], #[25]⟩, none⟩,
⟨none, .store 27 (.tmp 2) (.tmp 20), none⟩]
def f75_c : LC := (.seq (.reg f75_r0 [] none) (.seq (.reg f75_r1 [] none) (.seq (.reg f75_r2 [] none) (.seq (.seq (.reg f75_r3 [] none) (.cond (.tmp 11) (.reg f75_r4 [] none) .skip)) (.seq (.reg f75_r5 [] none) .ret)))))
theorem f75_lc : Tryz.f75.body.map lc = some f75_c.st := by kernel_rfl
theorem f75_res : Tryz.f75.results.toList = [.cell 2 27] := by kernel_rfl
theorem f75_nt : Tryz.f75.ntmps = 21 := by kernel_rfl
theorem f75_nm : (Tryz.f75.name == "runtime.NumGoroutine") = false := by kernel_rfl
/-! quill/norm.star -/
def f76_r0 : List LOp := [
⟨some 1, .box 27 (.tmp 0), none⟩,
⟨some 2, .alloc 27, none⟩]
def f76_r1 : List LOp := [
⟨some 3, .fieldAddr 27 (.tmp 1) 0, none⟩,
⟨some 4, .load 5 (.tmp 3), none⟩]
def f76_r2 : List LOp := [
⟨some 6, .binOp .eql 5 (.tmp 4) (.const (.int .u8 1)) 5, none⟩,
⟨some 5, .assign (.tmp 6), none⟩]
def f76_r3 : List LOp := [
⟨some 7, .binOp .eql 5 (.tmp 4) (.const (.int .u8 2)) 5, none⟩,
⟨some 5, .assign (.tmp 7), none⟩]
def f76_r4 : List LOp := [
⟨some 8, .call ⟨.value (.func 52), #[.const (.slice none 0 0)], #[25]⟩, none⟩,
⟨none, .store 27 (.tmp 2) (.tmp 8), none⟩]
def f76_r5 : List LOp := [
⟨some 10, .binOp .eql 5 (.tmp 4) (.const (.int .u8 6)) 5, none⟩,
⟨some 9, .assign (.tmp 10), none⟩]
def f76_r6 : List LOp := [
⟨some 11, .load 27 (.tmp 1), none⟩,
⟨none, .store 27 (.tmp 2) (.tmp 11), none⟩]
def f76_r7 : List LOp := [
⟨some 12, .load 27 (.tmp 1), none⟩,
⟨some 13, .call ⟨.value (.func 101), #[.tmp 12], #[27]⟩, none⟩,
⟨none, .store 27 (.tmp 2) (.tmp 13), none⟩]
def f76_c : LC := (.seq (.reg f76_r0 [] none) (.seq (.seq (.reg f76_r1 [] none) (.block 0 (.seq (.seq (.reg f76_r2 [] none) (.cond (.tmp 5) .skip (.reg f76_r3 [] none))) (.cond (.tmp 5) (.seq (.reg f76_r4 [] none) .ret) (.seq (.reg f76_r5 [] none) (.cond (.tmp 9) (.seq (.reg f76_r6 [] none) .ret) .skip)))))) (.seq (.reg f76_r7 [] none) .ret)))
theorem f76_lc : Tryz.f76.body.map lc = some f76_c.st := by kernel_rfl
theorem f76_res : Tryz.f76.results.toList = [.cell 2 27] := by kernel_rfl
theorem f76_nt : Tryz.f76.ntmps = 14 := by kernel_rfl
theorem f76_nm : (Tryz.f76.name == "runtime.NumGoroutine") = false := by kernel_rfl
/-! quill/quillref08.flat -/
/-! quill/quillref02.Join -/
/-! quill/quillref03.Of -/
/-! quill/quillref03.Fold -/
/-! quill/quillref04.Once -/
/-! quill/quillref04.Sort -/
/-! quill/quillref03.Many -/
def f83_r0 : List LOp := [
⟨some 1, .box 27 (.tmp 0), none⟩,
⟨some 2, .alloc 27, none⟩]
def f83_r1 : List LOp := [
⟨some 3, .load 27 (.tmp 1), none⟩,
⟨some 4, .buildSlice 25 1 #[(0, .tmp 3)], none⟩,
⟨some 5, .build 27 #[(0, .const (.int .u8 6)), (2, .tmp 4)], none⟩,
⟨none, .store 27 (.tmp 2) (.tmp 5), none⟩]
def f83_c : LC := (.seq (.reg f83_r0 [] none) (.seq (.reg f83_r1 [] none) .ret))
theorem f83_lc : Tryz.f83.body.map lc = some f83_c.st := by kernel_rfl
theorem f83_res : Tryz.f83.results.toList = [.cell 2 27] := by kernel_rfl
theorem f83_nt : Tryz.f83.ntmps = 6 := by kernel_rfl
theorem f83_nm : (Tryz.f83.name == "runtime.NumGoroutine") = false := by kernel_rfl
/-! slices.DeleteFunc[[]quill/api.Re,quill/api.Re] -/
def f94_r0 : List LOp := [
⟨some 4, .assign (.const (.slice none 0 0)), none⟩]
def f94_r1 : List LOp := [
⟨some 8, .move (.tmp 0), none⟩,
⟨some 9, .move (.tmp 1), none⟩,
⟨some 10, .call ⟨.value (.func 62), #[.tmp 8, .tmp 9], #[25, 59]⟩, none⟩,
⟨some 5, .assign (.tmp 10), none⟩]
def f94_r2 : List LOp := [
⟨some 11, .move (.tmp 5), none⟩,
⟨some 12, .binOp .eql 3 (.tmp 11) (.const (.int .i64 (-1))) 3, none⟩]
def f94_r3 : List LOp := [
⟨some 13, .move (.tmp 0), none⟩,
⟨some 4, .assign (.tmp 13), none⟩]
def f94_r4 : List LOp := [
⟨some 14, .move (.tmp 5), none⟩,
⟨some 15, .binOp .add 3 (.tmp 14) (.const (.int .i64 1)) 3, none⟩,
⟨some 6, .assign (.tmp 15), none⟩]
def f94_r5 : List LOp := [
⟨some 16, .move (.tmp 6), none⟩,
⟨some 17, .move (.tmp 0), none⟩,
⟨some 18, .call ⟨.builtin .len, #[.tmp 17], #[25]⟩, none⟩,
⟨some 19, .binOp .lss 3 (.tmp 16) (.tmp 18) 3, none⟩]
def f94_r6 : List LOp := [
⟨some 22, .move (.tmp 0), none⟩,
⟨some 23, .move (.tmp 6), none⟩,
⟨some 24, .indexAddr 25 (.tmp 22) (.tmp 23), none⟩,
⟨some 25, .load 27 (.tmp 24), none⟩,
⟨some 7, .alloc 27, none⟩,
⟨none, .store 27 (.tmp 7) (.tmp 25), none⟩]
def f94_r7 : List LOp := [
⟨some 26, .move (.tmp 1), none⟩,
⟨some 27, .load 27 (.tmp 7), none⟩,
⟨some 28, .call ⟨.value (.tmp 26), #[.tmp 27], #[27]⟩, none⟩,
⟨some 29, .unOp .not 4 (.tmp 28), none⟩]
def f94_r8 : List LOp := [
⟨some 30, .move (.tmp 0), none⟩,
⟨some 31, .move (.tmp 5), none⟩,
⟨some 32, .load 27 (.tmp 7), none⟩,
⟨some 33, .indexAddr 25 (.tmp 30) (.tmp 31), none⟩,
⟨none, .store 27 (.tmp 33) (.tmp 32), none⟩]
def f94_r9 : List LOp := [
⟨some 34, .move (.tmp 5), none⟩,
⟨some 35, .binOp .add 3 (.tmp 34) (.const (.int .i64 1)) 3, none⟩,
⟨some 5, .assign (.tmp 35), none⟩]
def f94_r10 : List LOp := [
⟨some 20, .move (.tmp 6), none⟩,
⟨some 21, .binOp .add 3 (.tmp 20) (.const (.int .i64 1)) 3, none⟩,
⟨some 6, .assign (.tmp 21), none⟩]
def f94_l11 : LC := (.seq (.seq (.reg f94_r5 [] none) (.cond (.tmp 19) .skip (.exit 0))) (.seq (.block 1 (.seq (.reg f94_r6 [] none) (.seq (.reg f94_r7 [] none) (.cond (.tmp 29) (.seq (.reg f94_r8 [] none) (.reg f94_r9 [] none)) .skip)))) (.reg f94_r10 [] none)))
def f94_i11 (t0 t1 t5 t6 : D) : List D := [t0, t1, .any, .any, .any, t5, t6, .any, .any, .any, .any, .any, .any, .any, .any, .any, .any, .any, .any, .any, .any, .any, .any, .any, .any, .any, .any, .any, .any, .any, .any, .any, .any, .any, .any, .any, .any, .any, .any, .any, .any, .any]
def f94_r12 : List LOp := [
⟨some 36, .move (.tmp 0), none⟩,
⟨some 37, .move (.tmp 5), none⟩,
⟨some 38, .slice 25 (.tmp 36) (some (.tmp 37)) none none, none⟩,
⟨none, .call ⟨.builtin .clear, #[.tmp 38], #[25]⟩, none⟩]
def f94_r13 : List LOp := [
⟨some 39, .move (.tmp 0), none⟩,
⟨some 40, .move (.tmp 5), none⟩,
⟨some 41, .slice 25 (.tmp 39) none (some (.tmp 40)) none, none⟩,
⟨some 4, .assign (.tmp 41), none⟩]
def f94_c : LC := (.seq (.reg f94_r0 [] none) (.seq (.reg f94_r1 [] none) (.seq (.seq (.reg f94_r2 [] none) (.cond (.tmp 12) (.seq (.reg f94_r3 [] none) .ret) .skip)) (.seq (.seq (.reg f94_r4 [] none) (.block 0 (.loop f94_l11))) (.seq (.reg f94_r12 [] none) (.seq (.reg f94_r13 [] none) .ret))))))
theorem f94_lc : Tryz.f94.body.map lc = some f94_c.st := by kernel_rfl
theorem f94_res : Tryz.f94.results.toList = [.tmp 4] := by kernel_rfl
theorem f94_nt : Tryz.f94.ntmps = 42 := by kernel_rfl
theorem f94_nm : (Tryz.f94.name == "runtime.NumGoroutine") = false := by kernel_rfl
/-! quill/norm.flat -/
def f95_r0 : List LOp := [
⟨some 2, .assign (.const (.slice none 0 0)), none⟩]
def f95_r1 : List LOp := [
⟨some 3, .assign (.const (.slice none 0 0)), none⟩]
def f95_r2 : List LOp := [
⟨some 6, .move (.tmp 0), none⟩,
⟨some 7, .call ⟨.builtin .len, #[.tmp 6], #[25]⟩, none⟩,
⟨some 8, .move (.const (.int .i64 0)), none⟩]
def f95_r3 : List LOp := [
⟨some 9, .binOp .lss 3 (.tmp 8) (.tmp 7) 3, none⟩]
def f95_r4 : List LOp := [
⟨some 10, .indexAddr 25 (.tmp 6) (.tmp 8), none⟩,
⟨some 11, .load 27 (.tmp 10), none⟩,
⟨some 5, .alloc 27, none⟩,
⟨none, .store 27 (.tmp 5) (.tmp 11), none⟩]
def f95_r5 : List LOp := [
⟨some 12, .fieldAddr 27 (.tmp 5) 0, none⟩,
⟨some 13, .load 5 (.tmp 12), none⟩]
def f95_r6 : List LOp := [
⟨some 19, .binOp .eql 5 (.tmp 13) (.const (.int .u8 1)) 5, none⟩,
⟨some 18, .assign (.tmp 19), none⟩]
def f95_r7 : List LOp := [
⟨some 21, .binOp .eql 5 (.tmp 13) (.const (.int .u8 5)) 5, none⟩,
⟨some 20, .assign (.tmp 21), none⟩]
def f95_r8 : List LOp := [
⟨some 22, .move (.tmp 3), none⟩,
⟨some 23, .fieldAddr 27 (.tmp 5) 2, none⟩,
⟨some 24, .load 25 (.tmp 23), none⟩,
⟨some 25, .call ⟨.value (.func 95), #[.tmp 24], #[25]⟩, none⟩,
⟨some 26, .call ⟨.builtin .append, #[.tmp 22, .tmp 25], #[25, 25]⟩, none⟩,
⟨some 3, .assign (.tmp 26), none⟩]
def f95_r9 : List LOp := [
⟨some 14, .move (.tmp 3), none⟩,
⟨some 15, .load 27 (.tmp 5), none⟩,
⟨some 16, .buildSlice 25 1 #[(0, .tmp 15)], none⟩,
⟨some 17, .call ⟨.builtin .append, #[.tmp 14, .tmp 16], #[25, 25]⟩, none⟩,
⟨some 3, .assign (.tmp 17), none⟩]
def f95_r10 : List LOp := [
⟨some 27, .binOp .add 3 (.tmp 8) (.const (.int .i64 1)) 3, none⟩,
⟨some 8, .move (.tmp 27), none⟩]
def f95_l11 : LC := (.seq (.reg f95_r3 [] none) (.seq (.cond (.tmp 9) .skip (.exit 0)) (.seq (.block 1 (.seq (.reg f95_r4 [] none) (.seq (.reg f95_r5 [] none) (.block 2 (.seq (.reg f95_r6 [] none) (.cond (.tmp 18) .skip (.seq (.reg f95_r7 [] none) (.cond (.tmp 20) (.reg f95_r8 [] none) (.reg f95_r9 [] none))))))))) (.reg f95_r10 [] none))))
def f95_i11 (t3 t6 t7 t8 : D) : List D := [.any, .any, .any, t3, .any, .any, t6, t7, t8, .any, .any, .any, .any, .any, .any, .any, .any, .any, .any, .any, .any, .any, .any, .any, .any, .any, .any, .any, .any]
def f95_r12 : List LOp := [
⟨some 28, .move (.tmp 3), none⟩,
⟨some 2, .assign (.tmp 28), none⟩]
def f95_c : LC := (.seq (.reg f95_r0 [] none) (.seq (.reg f95_r1 [] none) (.seq (.seq (.reg f95_r2 [] none) (.block 0 (.loop f95_l11))) (.seq (.reg f95_r12 [] none) .ret))))
theorem f95_lc : Tryz.f95.body.map lc = some f95_c.st := by kernel_rfl
theorem f95_res : Tryz.f95.results.toList = [.tmp 2] := by kernel_rfl
theorem f95_nt : Tryz.f95.ntmps = 29 := by kernel_rfl
theorem f95_nm : (Tryz.f95.name == "runtime.NumGoroutine") = false := by kernel_rfl
/-! quill/norm.alt$1 -/
def f96_r0 : List LOp := [
⟨some 2, .box 27 (.tmp 0), none⟩,
⟨some 3, .assign (.const (.bool false)), none⟩]
def f96_r1 : List LOp := [
⟨some 4, .fieldAddr 27 (.tmp 2) 0, none⟩,
⟨some 5, .load 5 (.tmp 4), none⟩,
⟨some 6, .binOp .eql 5 (.tmp 5) (.const (.int .u8 3)) 5, none⟩]
def f96_r2 : List LOp := [
⟨some 7, .load 24 (.tmp 1), none⟩,
⟨some 8, .fieldAddr 27 (.tmp 2) 1, none⟩,
⟨some 9, .load 24 (.tmp 8), none⟩,
⟨some 10, .buildSlice 129 2 #[(0, .tmp 7), (1, .tmp 9)], none⟩,
⟨some 11, .call ⟨.value (.func 97), #[.tmp 10], #[129]⟩, none⟩,
⟨none, .store 24 (.tmp 1) (.tmp 11), none⟩]
def f96_r3 : List LOp := [
⟨some 12, .fieldAddr 27 (.tmp 2) 0, none⟩,
⟨some 13, .load 5 (.tmp 12), none⟩,
⟨some 14, .binOp .eql 5 (.tmp 13) (.const (.int .u8 3)) 5, none⟩,
⟨some 3, .assign (.tmp 14), none⟩]
def f96_c : LC := (.seq (.reg f96_r0 [] none) (.seq (.seq (.reg f96_r1 [] none) (.cond (.tmp 6) (.reg f96_r2 [] none) .skip)) (.seq (.reg f96_r3 [] none) .ret)))
theorem f96_lc : Tryz.f96.body.map lc = some f96_c.st := by kernel_rfl
theorem f96_res : Tryz.f96.results.toList = [.tmp 3] := by kernel_rfl
theorem f96_nt : Tryz.f96.ntmps = 15 := by kernel_rfl
theorem f96_nm : (Tryz.f96.name == "runtime.NumGoroutine") = false := by kernel_rfl
/-! quill/order.Once -/
def f99_r0 : List LOp := [
⟨some 2, .assign (.const (.slice none 0 0)), none⟩]
def f99_r1 : List LOp := [
⟨some 3, .assign (.const (.slice none 0 0)), none⟩]
def f99_r2 : List LOp := [
⟨some 6, .move (.tmp 0), none⟩,
⟨some 7, .call ⟨.builtin .len, #[.tmp 6], #[25]⟩, none⟩,
⟨some 8, .move (.const (.int .i64 0)), none⟩]
def f99_r3 : List LOp := [
⟨some 9, .binOp .lss 3 (.tmp 8) (.tmp 7) 3, none⟩]
def f99_r4 : List LOp := [
⟨some 10, .indexAddr 25 (.tmp 6) (.tmp 8), none⟩,
⟨some 11, .load 27 (.tmp 10), none⟩,
⟨some 5, .alloc 27, none⟩,
⟨none, .store 27 (.tmp 5) (.tmp 11), none⟩]
def f99_r5 : List LOp := [
⟨some 12, .move (.tmp 3), none⟩,
⟨some 13, .makeFunc (.func 114) #[] #[.tmp 5], none⟩,
⟨some 14, .call ⟨.value (.func 38), #[.tmp 12, .tmp 13], #[25, 59]⟩, none⟩,
⟨some 15, .unOp .not 4 (.tmp 14), none⟩]
def f99_r6 : List LOp := [
⟨some 16, .move (.tmp 3), none⟩,
⟨some 17, .load 27 (.tmp 5), none⟩,
⟨some 18, .buildSlice 25 1 #[(0, .tmp 17)], none⟩,
⟨some 19, .call ⟨.builtin .append, #[.tmp 16, .tmp 18], #[25, 25]⟩, none⟩,
⟨some 3, .assign (.tmp 19), none⟩]
def f99_r7 : List LOp := [
⟨some 20, .binOp .add 3 (.tmp 8) (.const (.int .i64 1)) 3, none⟩,
⟨some 8, .move (.tmp 20), none⟩]
def f99_l8 : LC := (.seq (.reg f99_r3 [] none) (.seq (.cond (.tmp 9) .skip (.exit 0)) (.seq (.block 1 (.seq (.reg f99_r4 [] none) (.seq (.reg f99_r5 [] none) (.cond (.tmp 15) (.reg f99_r6 [] none) .skip)))) (.reg f99_r7 [] none))))
def f99_i8 (t3 t6 t7 t8 : D) : List D := [.any, .any, .any, t3, .any, .any, t6, t7, t8, .any, .any, .any, .any, .any, .any, .any, .any, .any, .any, .any, .any, .any]
def f99_r9 : List LOp := [
⟨some 21, .move (.tmp 3), none⟩,
⟨some 2, .assign (.tmp 21), none⟩]
def f99_c : LC := (.seq (.reg f99_r0 [] none) (.seq (.reg f99_r1 [] none) (.seq (.seq (.reg f99_r2 [] none) (.block 0 (.loop f99_l8))) (.seq (.reg f99_r9 [] none) .ret))))
theorem f99_lc : Tryz.f99.body.map lc = some f99_c.st := by kernel_rfl
theorem f99_res : Tryz.f99.results.toList = [.tmp 2] := by kernel_rfl
theorem f99_nt : Tryz.f99.ntmps = 22 := by kernel_rfl
theorem f99_nm : (Tryz.f99.name == "runtime.NumGoroutine") = false := by kernel_rfl
/-! quill/order.Sort -/
def f100_r0 : List LOp := [
⟨some 2, .assign (.const (.slice none 0 0)), none⟩]
def f100_r1 : List LOp := [
⟨some 3, .move (.tmp 0), none⟩,
⟨some 4, .call ⟨.value (.func 117), #[.tmp 3], #[25]⟩, none⟩,
⟨some 5, .call ⟨.value (.func 116), #[.tmp 4, .func 115], #[132, 120]⟩, none⟩,
⟨some 2, .assign (.tmp 5), none⟩]
def f100_c : LC := (.seq (.reg f100_r0 [] none) (.seq (.reg f100_r1 [] none) .ret))
theorem f100_lc : Tryz.f100.body.map lc = some f100_c.st := by kernel_rfl
theorem f100_res : Tryz.f100.results.toList = [.tmp 2] := by kernel_rfl
theorem f100_nt : Tryz.f100.ntmps = 6 := by kernel_rfl
theorem f100_nm : (Tryz.f100.name == "runtime.NumGoroutine") = false := by kernel_rfl
/-! quill/quillref02.With -/
/-! quill/quillref04.In -/
/-! quill/quillref04.Two -/
/-! quill/order.Once$1 -/
def f114_r0 : List LOp := [
⟨some 2, .box 27 (.tmp 0), none⟩,
⟨some 3, .assign (.const (.bool false)), none⟩]
def f114_r1 : List LOp := [
⟨some 4, .load 27 (.tmp 2), none⟩,
⟨some 5, .load 27 (.tmp 1), none⟩,
⟨some 6, .call ⟨.value (.func 115), #[.tmp 4, .tmp 5], #[27, 27]⟩, none⟩,
⟨some 7, .binOp .eql 3 (.tmp 6) (.const (.int .i64 0)) 3, none⟩,
⟨some 3, .assign (.tmp 7), none⟩]
def f114_c : LC := (.seq (.reg f114_r0 [] none) (.seq (.reg f114_r1 [] none) .ret))
theorem f114_lc : Tryz.f114.body.map lc = some f114_c.st := by kernel_rfl
theorem f114_res : Tryz.f114.results.toList = [.tmp 3] := by kernel_rfl
theorem f114_nt : Tryz.f114.ntmps = 8 := by kernel_rfl
theorem f114_nm : (Tryz.f114.name == "runtime.NumGoroutine") = false := by kernel_rfl
/-! quill/order.Two -/
def f115_r0 : List LOp := [
⟨some 2, .box 27 (.tmp 0), none⟩,
⟨some 3, .box 27 (.tmp 1), none⟩,
⟨some 4, .assign (.const (.int .i64 0)), none⟩]
def f115_r1 : List LOp := [
⟨some 5, .fieldAddr 27 (.tmp 2) 0, none⟩,
⟨some 6, .load 5 (.tmp 5), none⟩,
⟨some 7, .fieldAddr 27 (.tmp 3) 0, none⟩,
⟨some 8, .load 5 (.tmp 7), none⟩,
⟨some 9, .call ⟨.value (.func 124), #[.tmp 6, .tmp 8], #[5, 5]⟩, none⟩,
⟨some 10, .fieldAddr 27 (.tmp 2) 1, none⟩,
⟨some 11, .load 24 (.tmp 10), none⟩,
⟨some 12, .fieldAddr 27 (.tmp 3) 1, none⟩,
⟨some 13, .load 24 (.tmp 12), none⟩,
⟨some 14, .call ⟨.value (.func 125), #[.tmp 11, .tmp 13], #[24, 24]⟩, none⟩,
⟨some 15, .fieldAddr 27 (.tmp 2) 2, none⟩,
⟨some 16, .load 25 (.tmp 15), none⟩,
⟨some 17, .fieldAddr 27 (.tmp 3) 2, none⟩,
⟨some 18, .load 25 (.tmp 17), none⟩,
⟨some 19, .call ⟨.value (.func 126), #[.tmp 16, .tmp 18, .func 115], #[25, 25, 120]⟩, none⟩,
⟨some 20, .buildSlice 83 3 #[(0, .tmp 9), (1, .tmp 14), (2, .tmp 19)], none⟩,
⟨some 21, .call ⟨.value (.func 123), #[.tmp 20], #[83]⟩, none⟩,
⟨some 4, .assign (.tmp 21), none⟩]
def f115_c : LC := (.seq (.reg f115_r0 [] none) (.seq (.reg f115_r1 [] (some 14)) .ret))
theorem f115_lc : Tryz.f115.body.map lc = some f115_c.st := by kernel_rfl
theorem f115_res : Tryz.f115.results.toList = [.tmp 4] := by kernel_rfl
theorem f115_nt : Tryz.f115.ntmps = 22 := by kernel_rfl
theorem f115_nm : (Tryz.f115.name == "runtime.NumGoroutine") = false := by kernel_rfl
/-! slices.SortedStableFunc[quill/api.Re] -/
def f116_r0 : List LOp := [
⟨some 4, .assign (.const (.slice none 0 0)), none⟩]
def f116_r1 : List LOp := [
⟨some 6, .move (.tmp 0), none⟩,
⟨some 7, .call ⟨.value (.func 127), #[.tmp 6], #[132]⟩, none⟩,
⟨some 5, .assign (.tmp 7), none⟩]
def f116_r2 : List LOp := [
⟨some 8, .move (.tmp 5), none⟩,
⟨some 9, .move (.tmp 1), none⟩,
⟨some 10, .call ⟨.value (.func 128), #[.tmp 8, .tmp 9], #[25, 120]⟩, none⟩]
def f116_r3 : List LOp := [
⟨some 11, .move (.tmp 5), none⟩,
⟨some 4, .assign (.tmp 11), none⟩]
def f116_c : LC := (.seq (.reg f116_r0 [] none) (.seq (.reg f116_r1 [] none) (.seq (.reg f116_r2 [] none) (.seq (.reg f116_r3 [] none) .ret))))
theorem f116_lc : Tryz.f116.body.map lc = some f116_c.st := by kernel_rfl
theorem f116_res : Tryz.f116.results.toList = [.tmp 4] := by kernel_rfl
theorem f116_nt : Tryz.f116.ntmps = 12 := by kernel_rfl
theorem f116_nm : (Tryz.f116.name == "runtime.NumGoroutine") = false := by kernel_rfl
/-! slices.Values[[]quill/api.Re,quill/api.Re] -/
def f117_r0 : List LOp := [
⟨some 1, .box 25 (.tmp 0), none⟩,
⟨some 2, .assign (.const .nilFunc), none⟩]
def f117_r1 : List LOp := [
⟨some 3, .makeFunc (.func 129) #[] #[.tmp 1], none⟩,
⟨some 2, .assign (.tmp 3), none⟩]
def f117_c : LC := (.seq (.reg f117_r0 [] none) (.seq (.reg f117_r1 [] none) .ret))
theorem f117_lc : Tryz.f117.body.map lc = some f117_c.st := by kernel_rfl
theorem f117_res : Tryz.f117.results.toList = [.tmp 2] := by kernel_rfl
theorem f117_nt : Tryz.f117.ntmps = 4 := by kernel_rfl
theorem f117_nm : (Tryz.f117.name == "runtime.NumGoroutine") = false := by kernel_rfl
/-! quill/quillref02.Order -/
/-! cmp.Or[int] -/
def f123_r0 : List LOp := [
⟨some 2, .assign (.const (.int .i64 0)), none⟩]
def f123_r1 : List LOp := [
⟨some 3, .assign (.const (.int .i64 0)), none⟩]
def f123_r2 : List LOp := [
⟨some 6, .move (.tmp 0), none⟩,
⟨some 7, .call ⟨.builtin .len, #[.tmp 6], #[83]⟩, none⟩,
⟨some 8, .move (.const (.int .i64 0)), none⟩]
def f123_r3 : List LOp := [
⟨some 9, .binOp .lss 3 (.tmp 8) (.tmp 7) 3, none⟩]
def f123_r4 : List LOp := [
⟨some 10, .indexAddr 83 (.tmp 6) (.tmp 8), none⟩,
⟨some 11, .load 3 (.tmp 10), none⟩,
⟨some 5, .assign (.tmp 11), none⟩]
def f123_r5 : List LOp := [
⟨some 12, .move (.tmp 5), none⟩,
⟨some 13, .move (.tmp 3), none⟩,
⟨some 14, .binOp .neq 3 (.tmp 12) (.tmp 13) 3, none⟩]
def f123_r6 : List LOp := [
⟨some 15, .move (.tmp 5), none⟩,
⟨some 2, .assign (.tmp 15), none⟩]
def f123_r7 : List LOp := [
⟨some 16, .binOp .add 3 (.tmp 8) (.const (.int .i64 1)) 3, none⟩,
⟨some 8, .move (.tmp 16), none⟩]
def f123_l8 : LC := (.seq (.reg f123_r3 [] none) (.seq (.cond (.tmp 9) .skip (.exit 0)) (.seq (.block 1 (.seq (.reg f123_r4 [] none) (.seq (.reg f123_r5 [] none) (.cond (.tmp 14) (.seq (.reg f123_r6 [] none) .ret) .skip)))) (.reg f123_r7 [] none))))
def f123_i8 (t3 t6 t7 t8 : D) : List D := [.any, .any, .any, t3, .any, .any, t6, t7, t8, .any, .any, .any, .any, .any, .any, .any, .any, .any]
def f123_r9 : List LOp := [
⟨some 17, .move (.tmp 3), none⟩,
⟨some 2, .assign (.tmp 17), none⟩]
def f123_c : LC := (.seq (.reg f123_r0 [] none) (.seq (.reg f123_r1 [] none) (.seq (.seq (.reg f123_r2 [] none) (.block 0 (.loop f123_l8))) (.seq (.reg f123_r9 [] none) .ret))))
theorem f123_lc : Tryz.f123.body.map lc = some f123_c.st := by kernel_rfl
theorem f123_res : Tryz.f123.results.toList = [.tmp 2] := by kernel_rfl
theorem f123_nt : Tryz.f123.ntmps = 18 := by kernel_rfl
theorem f123_nm : (Tryz.f123.name == "runtime.NumGoroutine") = false := by kernel_rfl
/-! cmp.Compare[uint8] -/
def f124_r0 : List LOp := [
⟨some 4, .assign (.const (.int .i64 0)), none⟩]
def f124_r1 : List LOp := [
⟨some 7, .move (.tmp 0), none⟩,
⟨some 8, .call ⟨.value (.func 136), #[.tmp 7], #[5]⟩, none⟩,
⟨some 5, .assign (.tmp 8), none⟩]
def f124_r2 : List LOp := [
⟨some 9, .move (.tmp 1), none⟩,
⟨some 10, .call ⟨.value (.func 136), #[.tmp 9], #[5]⟩, none⟩,
⟨some 6, .assign (.tmp 10), none⟩]
def f124_r3 : List LOp := [
⟨some 11, .move (.tmp 5), none⟩]
def f124_r4 : List LOp := [
⟨some 12, .move (.tmp 6), none⟩]
def f124_r5 : List LOp := [
⟨some 4, .assign (.const (.int .i64 0)), none⟩]
def f124_r6 : List LOp := [
⟨some 4, .assign (.const (.int .i64 (-1))), none⟩]
def f124_r7 : List LOp := [
⟨some 13, .move (.tmp 6), none⟩]
def f124_r8 : List LOp := [
⟨some 4, .assign (.const (.int .i64 1)), none⟩]
def f124_r9 : List LOp := [
⟨some 14, .move (.tmp 0), none⟩,
⟨some 15, .move (.tmp 1), none⟩,
⟨some 16, .binOp .lss 5 (.tmp 14) (.tmp 15) 5, none⟩]
def f124_r10 : List LOp := [
⟨some 4, .assign (.const (.int .i64 (-1))), none⟩]
def f124_r11 : List LOp := [
⟨some 17, .move (.tmp 0), none⟩,
⟨some 18, .move (.tmp 1), none⟩,
⟨some 19, .binOp .gtr 5 (.tmp 17) (.tmp 18) 5, none⟩]
def f124_r12 : List LOp := [
⟨some 4, .assign (.const (.int .i64 1)), none⟩]
def f124_r13 : List LOp := [
⟨some 4, .assign (.const (.int .i64 0)), none⟩]
def f124_c : LC := (.seq (.reg f124_r0 [] none) (.seq (.reg f124_r1 [] none) (.seq (.reg f124_r2 [] none) (.seq (.seq (.reg f124_r3 [] none) (.cond (.tmp 11) (.seq (.seq (.reg f124_r4 [] none) (.cond (.tmp 12) (.seq (.reg f124_r5 [] none) .ret) .skip)) (.seq (.reg f124_r6 [] none) .ret)) .skip)) (.seq (.seq (.reg f124_r7 [] none) (.cond (.tmp 13) (.seq (.reg f124_r8 [] none) .ret) .skip)) (.seq (.seq (.reg f124_r9 [] none) (.cond (.tmp 16) (.seq (.reg f124_r10 [] none) .ret) .skip)) (.seq (.seq (.reg f124_r11 [] none) (.cond (.tmp 19) (.seq (.reg f124_r12 [] none) .ret) .skip)) (.seq (.reg f124_r13 [] none) .ret))))))))
theorem f124_lc : Tryz.f124.body.map lc = some f124_c.st := by kernel_rfl
theorem f124_res : Tryz.f124.results.toList = [.tmp 4] := by kernel_rfl
theorem f124_nt : Tryz.f124.ntmps = 20 := by kernel_rfl
theorem f124_nm : (Tryz.f124.name == "runtime.NumGoroutine") = false := by kernel_rfl
/-! quill/set.Order -/
def f125_r0 : List LOp := [
⟨some 2, .box 24 (.tmp 0), none⟩,
⟨some 3, .box 24 (.tmp 1), none⟩,
⟨some 4, .assign (.const (.int .i64 0)), none⟩]
def f125_r1 : List LOp := [
⟨some 5, .slice 24 (.tmp 2) none none none, none⟩,
⟨some 6, .slice 24 (.tmp 3) none none none, none⟩,
⟨some 7, .call ⟨.value (.func 137), #[.tmp 5, .tmp 6, .func 138], #[149, 149, 150]⟩, none⟩,
⟨some 4, .assign (.tmp 7), none⟩]
def f125_c : LC := (.seq (.reg f125_r0 [] none) (.seq (.reg f125_r1 [] (some 2)) .ret))
theorem f125_lc : Tryz.f125.body.map lc = some f125_c.st := by kernel_rfl
theorem f125_res : Tryz.f125.results.toList = [.tmp 4] := by kernel_rfl
theorem f125_nt : Tryz.f125.ntmps = 8 := by kernel_rfl
theorem f125_nm : (Tryz.f125.name == "runtime.NumGoroutine") = false := by kernel_rfl
/-! slices.CompareFunc[[]quill/api.Re,[]quill/api.Re,quill/api.Re,quill/api.Re] -/
def f126_r0 : List LOp := [
⟨some 6, .assign (.const (.int .i64 0)), none⟩]
def f126_r1 : List LOp := [
⟨some 11, .move (.tmp 0), none⟩,
⟨some 12, .call ⟨.builtin .len, #[.tmp 11], #[25]⟩, none⟩,
⟨some 13, .move (.const (.int .i64 0)), none⟩]
def f126_r2 : List LOp := [
⟨some 14, .binOp .lss 3 (.tmp 13) (.tmp 12) 3, none⟩]
def f126_r3 : List LOp := [
⟨some 15, .move (.tmp 13), none⟩,
⟨some 16, .indexAddr 25 (.tmp 11) (.tmp 13), none⟩,
⟨some 17, .load 27 (.tmp 16), none⟩,
⟨some 8, .alloc 27, none⟩,
⟨some 7, .assign (.tmp 15), none⟩,
⟨none, .store 27 (.tmp 8) (.tmp 17), none⟩]
def f126_r4 : List LOp := [
⟨some 18, .move (.tmp 7), none⟩,
⟨some 19, .move (.tmp 1), none⟩,
⟨some 20, .call ⟨.builtin .len, #[.tmp 19], #[25]⟩, none⟩,
⟨some 21, .binOp .geq 3 (.tmp 18) (.tmp 20) 3, none⟩]
def f126_r5 : List LOp := [
⟨some 6, .assign (.const (.int .i64 1)), none⟩]
def f126_r6 : List LOp := [
⟨some 22, .move (.tmp 1), none⟩,
⟨some 23, .move (.tmp 7), none⟩,
⟨some 24, .indexAddr 25 (.tmp 22) (.tmp 23), none⟩,
⟨some 25, .load 27 (.tmp 24), none⟩,
⟨some 9, .alloc 27, none⟩,
⟨none, .store 27 (.tmp 9) (.tmp 25), none⟩]
def f126_r7 : List LOp := [
⟨some 26, .move (.tmp 2), none⟩,
⟨some 27, .load 27 (.tmp 8), none⟩,
⟨some 28, .load 27 (.tmp 9), none⟩,
⟨some 29, .call ⟨.value (.tmp 26), #[.tmp 27, .tmp 28], #[27, 27]⟩, none⟩,
⟨some 10, .assign (.tmp 29), none⟩]
def f126_r8 : List LOp := [
⟨some 30, .move (.tmp 10), none⟩,
⟨some 31, .binOp .neq 3 (.tmp 30) (.const (.int .i64 0)) 3, none⟩]
def f126_r9 : List LOp := [
⟨some 32, .move (.tmp 10), none⟩,
⟨some 6, .assign (.tmp 32), none⟩]
def f126_r10 : List LOp := [
⟨some 33, .binOp .add 3 (.tmp 13) (.const (.int .i64 1)) 3, none⟩,
⟨some 13, .move (.tmp 33), none⟩]
def f126_l11 : LC := (.seq (.reg f126_r2 [] none) (.seq (.cond (.tmp 14) .skip (.exit 0)) (.seq (.block 1 (.seq (.reg f126_r3 [] none) (.seq (.seq (.reg f126_r4 [] none) (.cond (.tmp 21) (.seq (.reg f126_r5 [] none) .ret) .skip)) (.seq (.reg f126_r6 [] none) (.seq (.reg f126_r7 [] none) (.seq (.reg f126_r8 [] none) (.cond (.tmp 31) (.seq (.reg f126_r9 [] none) .ret) .skip))))))) (.reg f126_r10 [] none))))
def f126_i11 (t0 t1 t2 t11 t12 t13 : D) : List D := [t0, t1, t2, .any, .any, .any, .any, .any, .any, .any, .any, t11, t12, t13, .any, .any, .any, .any, .any, .any, .any, .any, .any, .any, .any, .any, .any, .any, .any, .any, .any, .any, .any, .any, .any, .any, .any, .any, .any]
def f126_r12 : List LOp := [
⟨some 34, .move (.tmp 0), none⟩,
⟨some 35, .call ⟨.builtin .len, #[.tmp 34], #[25]⟩, none⟩,
⟨some 36, .move (.tmp 1), none⟩,
⟨some 37, .call ⟨.builtin .len, #[.tmp 36], #[25]⟩, none⟩,
⟨some 38, .binOp .lss 3 (.tmp 35) (.tmp 37) 3, none⟩]
def f126_r13 : List LOp := [
⟨some 6, .assign (.const (.int .i64 (-1))), none⟩]
def f126_r14 : List LOp := [
⟨some 6, .assign (.const (.int .i64 0)), none⟩]
def f126_c : LC := (.seq (.reg f126_r0 [] none) (.seq (.seq (.reg f126_r1 [] none) (.block 0 (.loop f126_l11))) (.seq (.seq (.reg f126_r12 [] none) (.cond (.tmp 38) (.seq (.reg f126_r13 [] none) .ret) .skip)) (.seq (.reg f126_r14 [] none) .ret))))
theorem f126_lc : Tryz.f126.body.map lc = some f126_c.st := by kernel_rfl
theorem f126_res : Tryz.f126.results.toList = [.tmp 6] := by kernel_rfl
theorem f126_nt : Tryz.f126.ntmps = 39 := by kernel_rfl
theorem f126_nm : (Tryz.f126.name == "runtime.NumGoroutine") = false := by kernel_rfl
/-! slices.Collect[quill/api.Re] -/
def f127_r0 : List LOp := [
⟨some 2, .assign (.const (.slice none 0 0)), none⟩]
def f127_r1 : List LOp := [
⟨some 3, .move (.tmp 0), none⟩,
⟨some 4, .call ⟨.value (.func 139), #[.const (.slice none 0 0), .tmp 3], #[25, 132]⟩, none⟩,
⟨some 2, .assign (.tmp 4), none⟩]
def f127_c : LC := (.seq (.reg f127_r0 [] none) (.seq (.reg f127_r1 [] none) .ret))
theorem f127_lc : Tryz.f127.body.map lc = some f127_c.st := by kernel_rfl
theorem f127_res : Tryz.f127.results.toList = [.tmp 2] := by kernel_rfl
theorem f127_nt : Tryz.f127.ntmps = 5 := by kernel_rfl
theorem f127_nm : (Tryz.f127.name == "runtime.NumGoroutine") = false := by kernel_rfl
/-! slices.SortStableFunc[[]quill/api.Re,quill/api.Re] -/
def f128_r0 : List LOp := [
⟨some 4, .move (.tmp 0), none⟩,
⟨some 5, .move (.tmp 0), none⟩,
⟨some 6, .call ⟨.builtin .len, #[.tmp 5], #[25]⟩, none⟩,
⟨some 7, .move (.tmp 1), none⟩,
⟨some 8, .call ⟨.value (.func 140), #[.tmp 4, .tmp 6, .tmp 7], #[25, 3, 120]⟩, none⟩]
def f128_c : LC := (.reg f128_r0 [] none)
theorem f128_lc : Tryz.f128.body.map lc = some f128_c.st := by kernel_rfl
theorem f128_res : Tryz.f128.results.toList = [] := by kernel_rfl
theorem f128_nt : Tryz.f128.ntmps = 9 := by kernel_rfl
theorem f128_nm : (Tryz.f128.name == "runtime.NumGoroutine") = false := by kernel_rfl
/-! slices.Values[[]quill/api.Re,quill/api.Re]$1 -/
def f129_r0 : List LOp := [
⟨some 5, .load 25 (.tmp 1), none⟩,
⟨some 6, .call ⟨.builtin .len, #[.tmp 5], #[25]⟩, none⟩,
⟨some 7, .move (.const (.int .i64 0)), none⟩]
def f129_r1 : List LOp := [
⟨some 8, .binOp .lss 3 (.tmp 7) (.tmp 6) 3, none⟩]
def f129_r2 : List LOp := [
⟨some 9, .indexAddr 25 (.tmp 5) (.tmp 7), none⟩,
⟨some 10, .load 27 (.tmp 9), none⟩,
⟨some 4, .alloc 27, none⟩,
⟨none, .store 27 (.tmp 4) (.tmp 10), none⟩]
def f129_r3 : List LOp := [
⟨some 11, .move (.tmp 0), none⟩,
⟨some 12, .load 27 (.tmp 4), none⟩,
⟨some 13, .call ⟨.value (.tmp 11), #[.tmp 12], #[27]⟩, none⟩,
⟨some 14, .unOp .not 4 (.tmp 13), none⟩]
def f129_r4 : List LOp := [
⟨some 15, .binOp .add 3 (.tmp 7) (.const (.int .i64 1)) 3, none⟩,
⟨some 7, .move (.tmp 15), none⟩]
def f129_l5 : LC := (.seq (.reg f129_r1 [] none) (.seq (.cond (.tmp 8) .skip (.exit 0)) (.seq (.block 1 (.seq (.reg f129_r2 [] none) (.seq (.reg f129_r3 [] none) (.cond (.tmp 14) .ret .skip)))) (.reg f129_r4 [] none))))
def f129_i5 (t0 t5 t6 t7 : D) : List D := [t0, .any, .any, .any, .any, t5, t6, t7, .any, .any, .any, .any, .any, .any, .any, .any]
def f129_c : LC := (.seq (.reg f129_r0 [] none) (.block 0 (.loop f129_l5)))
theorem f129_lc : Tryz.f129.body.map lc = some f129_c.st := by kernel_rfl
theorem f129_res : Tryz.f129.results.toList = [] := by kernel_rfl
theorem f129_nt : Tryz.f129.ntmps = 16 := by kernel_rfl
theorem f129_nm : (Tryz.f129.name == "runtime.NumGoroutine") = false := by kernel_rfl
/-! cmp.isNaN[uint8] -/
def f136_r0 : List LOp := [
⟨some 2, .assign (.const (.bool false)), none⟩]
def f136_r1 : List LOp := [
⟨some 3, .move (.tmp 0), none⟩,
⟨some 4, .move (.tmp 0), none⟩,
⟨some 5, .binOp .neq 5 (.tmp 3) (.tmp 4) 5, none⟩,
⟨some 2, .assign (.tmp 5), none⟩]
def f136_c : LC := (.seq (.reg f136_r0 [] none) (.seq (.reg f136_r1 [] none) .ret))
theorem f136_lc : Tryz.f136.body.map lc = some f136_c.st := by kernel_rfl
theorem f136_res : Tryz.f136.results.toList = [.tmp 2] := by kernel_rfl
theorem f136_nt : Tryz.f136.ntmps = 6 := by kernel_rfl
theorem f136_nm : (Tryz.f136.name == "runtime.NumGoroutine") = false := by kernel_rfl
/-! slices.CompareFunc[[]uint64,[]uint64,uint64,uint64] -/
def f137_r0 : List LOp := [
⟨some 6, .assign (.const (.int .i64 0)), none⟩]
def f137_r1 : List LOp := [
⟨some 11, .move (.tmp 0), none⟩,
⟨some 12, .call ⟨.builtin .len, #[.tmp 11], #[149]⟩, none⟩,
⟨some 13, .move (.const (.int .i64 0)), none⟩]
def f137_r2 : List LOp := [
⟨some 14, .binOp .lss 3 (.tmp 13) (.tmp 12) 3, none⟩]
def f137_r3 : List LOp := [
⟨some 15, .move (.tmp 13), none⟩,
⟨some 16, .indexAddr 149 (.tmp 11) (.tmp 13), none⟩,
⟨some 17, .load 22 (.tmp 16), none⟩,
⟨some 7, .assign (.tmp 15), none⟩,
⟨some 8, .assign (.tmp 17), none⟩]
def f137_r4 : List LOp := [
⟨some 18, .move (.tmp 7), none⟩,
⟨some 19, .move (.tmp 1), none⟩,
⟨some 20, .call ⟨.builtin .len, #[.tmp 19], #[149]⟩, none⟩,
⟨some 21, .binOp .geq 3 (.tmp 18) (.tmp 20) 3, none⟩]
def f137_r5 : List LOp := [
⟨some 6, .assign (.const (.int .i64 1)), none⟩]
def f137_r6 : List LOp := [
⟨some 22, .move (.tmp 1), none⟩,
⟨some 23, .move (.tmp 7), none⟩,
⟨some 24, .indexAddr 149 (.tmp 22) (.tmp 23), none⟩,
⟨some 25, .load 22 (.tmp 24), none⟩,
⟨some 9, .assign (.tmp 25), none⟩]
def f137_r7 : List LOp := [
⟨some 26, .move (.tmp 2), none⟩,
⟨some 27, .move (.tmp 8), none⟩,
⟨some 28, .move (.tmp 9), none⟩,
⟨some 29, .call ⟨.value (.tmp 26), #[.tmp 27, .tmp 28], #[22, 22]⟩, none⟩,
⟨some 10, .assign (.tmp 29), none⟩]
def f137_r8 : List LOp := [
⟨some 30, .move (.tmp 10), none⟩,
⟨some 31, .binOp .neq 3 (.tmp 30) (.const (.int .i64 0)) 3, none⟩]
def f137_r9 : List LOp := [
⟨some 32, .move (.tmp 10), none⟩,
⟨some 6, .assign (.tmp 32), none⟩]
def f137_r10 : List LOp := [
⟨some 33, .binOp .add 3 (.tmp 13) (.const (.int .i64 1)) 3, none⟩,
⟨some 13, .move (.tmp 33), none⟩]
def f137_l11 : LC := (.seq (.reg f137_r2 [] none) (.seq (.cond (.tmp 14) .skip (.exit 0)) (.seq (.block 1 (.seq (.reg f137_r3 [] none) (.seq (.seq (.reg f137_r4 [] none) (.cond (.tmp 21) (.seq (.reg f137_r5 [] none) .ret) .skip)) (.seq (.reg f137_r6 [] none) (.seq (.reg f137_r7 [] none) (.seq (.reg f137_r8 [] none) (.cond (.tmp 31) (.seq (.reg f137_r9 [] none) .ret) .skip))))))) (.reg f137_r10 [] none))))
def f137_i11 (t0 t1 t2 t11 t12 t13 : D) : List D := [t0, t1, t2, .any, .any, .any, .any, .any, .any, .any, .any, t11, t12, t13, .any, .any, .any, .any, .any, .any, .any, .any, .any, .any, .any, .any, .any, .any, .any, .any, .any, .any, .any, .any, .any, .any, .any, .any, .any]
def f137_r12 : List LOp := [
⟨some 34, .move (.tmp 0), none⟩,
⟨some 35, .call ⟨.builtin .len, #[.tmp 34], #[149]⟩, none⟩,
⟨some 36, .move (.tmp 1), none⟩,
⟨some 37, .call ⟨.builtin .len, #[.tmp 36], #[149]⟩, none⟩,
⟨some 38, .binOp .lss 3 (.tmp 35) (.tmp 37) 3, none⟩]
def f137_r13 : List LOp := [
⟨some 6, .assign (.const (.int .i64 (-1))), none⟩]
def f137_r14 : List LOp := [
⟨some 6, .assign (.const (.int .i64 0)), none⟩]
def f137_c : LC := (.seq (.reg f137_r0 [] none) (.seq (.seq (.reg f137_r1 [] none) (.block 0 (.loop f137_l11))) (.seq (.seq (.reg f137_r12 [] none) (.cond (.tmp 38) (.seq (.reg f137_r13 [] none) .ret) .skip)) (.seq (.reg f137_r14 [] none) .ret))))
theorem f137_lc : Tryz.f137.body.map lc = some f137_c.st := by kernel_rfl
theorem f137_res : Tryz.f137.results.toList = [.tmp 6] := by kernel_rfl
theorem f137_nt : Tryz.f137.ntmps = 39 := by kernel_rfl
theorem f137_nm : (Tryz.f137.name == "runtime.NumGoroutine") = false := by kernel_rfl
/-! cmp.Compare[uint64] -/
def f138_r0 : List LOp := [
⟨some 4, .assign (.const (.int .i64 0)), none⟩]
def f138_r1 : List LOp := [
⟨some 7, .move (.tmp 0), none⟩,
⟨some 8, .call ⟨.value (.func 143), #[.tmp 7], #[22]⟩, none⟩,
⟨some 5, .assign (.tmp 8), none⟩]
def f138_r2 : List LOp := [
⟨some 9, .move (.tmp 1), none⟩,
⟨some 10, .call ⟨.value (.func 143), #[.tmp 9], #[22]⟩, none⟩,
⟨some 6, .assign (.tmp 10), none⟩]
def f138_r3 : List LOp := [
⟨some 11, .move (.tmp 5), none⟩]
def f138_r4 : List LOp := [
⟨some 12, .move (.tmp 6), none⟩]
def f138_r5 : List LOp := [
⟨some 4, .assign (.const (.int .i64 0)), none⟩]
def f138_r6 : List LOp := [
⟨some 4, .assign (.const (.int .i64 (-1))), none⟩]
def f138_r7 : List LOp := [
⟨some 13, .move (.tmp 6), none⟩]
def f138_r8 : List LOp := [
⟨some 4, .assign (.const (.int .i64 1)), none⟩]
def f138_r9 : List LOp := [
⟨some 14, .move (.tmp 0), none⟩,
⟨some 15, .move (.tmp 1), none⟩,
⟨some 16, .binOp .lss 22 (.tmp 14) (.tmp 15) 22, none⟩]
def f138_r10 : List LOp := [
⟨some 4, .assign (.const (.int .i64 (-1))), none⟩]
def f138_r11 : List LOp := [
⟨some 17, .move (.tmp 0), none⟩,
⟨some 18, .move (.tmp 1), none⟩,
⟨some 19, .binOp .gtr 22 (.tmp 17) (.tmp 18) 22, none⟩]
def f138_r12 : List LOp := [
⟨some 4, .assign (.const (.int .i64 1)), none⟩]
def f138_r13 : List LOp := [
⟨some 4, .assign (.const (.int .i64 0)), none⟩]
def f138_c : LC := (.seq (.reg f138_r0 [] none) (.seq (.reg f138_r1 [] none) (.seq (.reg f138_r2 [] none) (.seq (.seq (.reg f138_r3 [] none) (.cond (.tmp 11) (.seq (.seq (.reg f138_r4 [] none) (.cond (.tmp 12) (.seq (.reg f138_r5 [] none) .ret) .skip)) (.seq (.reg f138_r6 [] none) .ret)) .skip)) (.seq (.seq (.reg f138_r7 [] none) (.cond (.tmp 13) (.seq (.reg f138_r8 [] none) .ret) .skip)) (.seq (.seq (.reg f138_r9 [] none) (.cond (.tmp 16) (.seq (.reg f138_r10 [] none) .ret) .skip)) (.seq (.seq (.reg f138_r11 [] none) (.cond (.tmp 19) (.seq (.reg f138_r12 [] none) .ret) .skip)) (.seq (.reg f138_r13 [] none) .ret))))))))
theorem f138_lc : Tryz.f138.body.map lc = some f138_c.st := by kernel_rfl
theorem f138_res : Tryz.f138.results.toList = [.tmp 4] := by kernel_rfl
theorem f138_nt : Tryz.f138.ntmps = 20 := by kernel_rfl
theorem f138_nm : (Tryz.f138.name == "runtime.NumGoroutine") = false := by kernel_rfl
/-! slices.AppendSeq[[]quill/api.Re,quill/api.Re] -/
def f139_r0 : List LOp := [
⟨some 2, .box 25 (.tmp 0), none⟩,
⟨some 4, .assign (.const (.slice none 0 0)), none⟩]
def f139_r1 : List LOp := [
⟨some 6, .move (.tmp 1), none⟩]
def f139_r2 : List LOp := [
⟨some 5, .alloc 27, none⟩,
⟨none, .store 27 (.tmp 5) (.tmp 7), none⟩]
def f139_r3 : List LOp := [
⟨some 8, .load 25 (.tmp 2), none⟩,
⟨some 9, .load 27 (.tmp 5), none⟩,
⟨some 10, .call ⟨.builtin .len, #[.tmp 8], #[25]⟩, none⟩,
⟨some 11, .buildSlice 25 1 #[(0, .const (.agg #[.int .u8 0, .int .u64 0, .int .u64 0, .int .u64 0, .int .u64 0, .slice none 0 0]))], none⟩,
⟨some 12, .call ⟨.builtin .append, #[.tmp 8, .tmp 11], #[25, 25]⟩, none⟩,
⟨some 13, .indexAddr 25 (.tmp 12) (.tmp 10), none⟩,
⟨none, .store 27 (.tmp 13) (.tmp 9), none⟩,
⟨none, .store 25 (.tmp 2) (.tmp 12), none⟩]
def f139_a4 : LC := (.reg f139_r2 [] none)
def f139_b4 : LC := (.block 1 (.regt f139_r3 [] 4 (.op 4 (.both (.op 5 (.both (.op 6 (.op 7 .done)) (.op 7 (.op 6 .done)))) (.op 7 (.op 5 (.op 6 .done)))))))
def f139_r5 : List LOp := [
⟨some 14, .load 25 (.tmp 2), none⟩,
⟨some 4, .assign (.tmp 14), none⟩]
def f139_c : LC := (.seq (.reg f139_r0 [0] none) (.seq (.seq (.reg f139_r1 [] none) (.block 0 (.rfun (.tmp 6) [7] f139_a4 f139_b4))) (.seq (.reg f139_r5 [] none) .ret)))
theorem f139_lc : Tryz.f139.body.map lc = some f139_c.st := by kernel_rfl
theorem f139_res : Tryz.f139.results.toList = [.tmp 4] := by kernel_rfl
theorem f139_nt : Tryz.f139.ntmps = 15 := by kernel_rfl
theorem f139_nm : (Tryz.f139.name == "runtime.NumGoroutine") = false := by kernel_rfl
/-! slices.stableCmpFunc[quill/api.Re] -/
def f140_r0 : List LOp := [
⟨some 6, .assign (.const (.int .i64 20)), none⟩]
def f140_r1 : List LOp := [
⟨some 10, .move (.tmp 6), none⟩,
⟨some 7, .assign (.const (.int .i64 0)), none⟩,
⟨some 8, .assign (.tmp 10), none⟩]
def f140_r2 : List LOp := [
⟨some 11, .move (.tmp 8), none⟩,
⟨some 12, .move (.tmp 1), none⟩,
⟨some 13, .binOp .leq 3 (.tmp 11) (.tmp 12) 3, none⟩]
def f140_r3 : List LOp := [
⟨some 14, .move (.tmp 0), none⟩,
⟨some 15, .move (.tmp 7), none⟩,
⟨some 16, .move (.tmp 8), none⟩,
⟨some 17, .move (.tmp 2), none⟩,
⟨some 18, .call ⟨.value (.func 144), #[.tmp 14, .tmp 15, .tmp 16, .tmp 17], #[25, 3, 3, 120]⟩, none⟩]
def f140_r4 : List LOp := [
⟨some 19, .move (.tmp 8), none⟩,
⟨some 7, .assign (.tmp 19), none⟩]
def f140_r5 : List LOp := [
⟨some 20, .move (.tmp 8), none⟩,
⟨some 21, .move (.tmp 6), none⟩,
⟨some 22, .binOp .add 3 (.tmp 20) (.tmp 21) 3, none⟩,
⟨some 8, .assign (.tmp 22), none⟩]
def f140_l6 : LC := (.seq (.seq (.reg f140_r2 [] none) (.cond (.tmp 13) .skip (.exit 0))) (.block 1 (.seq (.reg f140_r3 [] none) (.seq (.reg f140_r4 [] none) (.reg f140_r5 [] none)))))
def f140_i6 (t0 t1 t2 t6 t7 t8 : D) : List D := [t0, t1, t2, .any, .any, .any, t6, t7, t8, .any, .any, .any, .any, .any, .any, .any, .any, .any, .any, .any, .any, .any, .any, .any, .any, .any, .any, .any, .any, .any, .any, .any, .any, .any, .any, .any, .any, .any, .any, .any, .any, .any, .any, .any, .any, .any, .any, .any, .any, .any, .any, .any, .any, .any, .any, .any, .any, .any, .any, .any, .any, .any, .any]
def f140_r7 : List LOp := [
⟨some 23, .move (.tmp 0), none⟩,
⟨some 24, .move (.tmp 7), none⟩,
⟨some 25, .move (.tmp 1), none⟩,
⟨some 26, .move (.tmp 2), none⟩,
⟨some 27, .call ⟨.value (.func 144), #[.tmp 23, .tmp 24, .tmp 25, .tmp 26], #[25, 3, 3, 120]⟩, none⟩]
def f140_r8 : List LOp := [
⟨some 28, .move (.tmp 6), none⟩,
⟨some 29, .move (.tmp 1), none⟩,
⟨some 30, .binOp .lss 3 (.tmp 28) (.tmp 29) 3, none⟩]
def f140_r9 : List LOp := [
⟨some 31, .move (.tmp 6), none⟩,
⟨some 32, .binOp .mul 3 (.const (.int .i64 2)) (.tmp 31) 3, none⟩,
⟨some 7, .assign (.const (.int .i64 0)), none⟩,
⟨some 8, .assign (.tmp 32), none⟩]
def f140_r10 : List LOp := [
⟨some 33, .move (.tmp 8), none⟩,
⟨some 34, .move (.tmp 1), none⟩,
⟨some 35, .binOp .leq 3 (.tmp 33) (.tmp 34) 3, none⟩]
def f140_r11 : List LOp := [
⟨some 36, .move (.tmp 0), none⟩,
⟨some 37, .move (.tmp 7), none⟩,
⟨some 38, .move (.tmp 7), none⟩,
⟨some 39, .move (.tmp 6), none⟩,
⟨some 40, .binOp .add 3 (.tmp 38) (.tmp 39) 3, none⟩,
⟨some 41, .move (.tmp 8), none⟩,
⟨some 42, .move (.tmp 2), none⟩,
⟨some 43, .call ⟨.value (.func 145), #[.tmp 36, .tmp 37, .tmp 40, .tmp 41, .tmp 42], #[25, 3, 3, 3, 120]⟩, none⟩]
def f140_r12 : List LOp := [
⟨some 44, .move (.tmp 8), none⟩,
⟨some 7, .assign (.tmp 44), none⟩]
def f140_r13 : List LOp := [
⟨some 45, .move (.tmp 8), none⟩,
⟨some 46, .move (.tmp 6), none⟩,
⟨some 47, .binOp .mul 3 (.const (.int .i64 2)) (.tmp 46) 3, none⟩,
⟨some 48, .binOp .add 3 (.tmp 45) (.tmp 47) 3, none⟩,
⟨some 8, .assign (.tmp 48), none⟩]
def f140_l14 : LC := (.seq (.seq (.reg f140_r10 [] none) (.cond (.tmp 35) .skip (.exit 4))) (.block 5 (.seq (.reg f140_r11 [] none) (.seq (.reg f140_r12 [] none) (.reg f140_r13 [] none)))))
def f140_i14 (t0 t1 t2 t6 t7 t8 : D) : List D := [t0, t1, t2, .any, .any, .any, t6, t7, t8, .any, .any, .any, .any, .any, .any, .any, .any, .any, .any, .any, .any, .any, .any, .any, .any, .any, .any, .any, .any, .any, .any, .any, .any, .any, .any, .any, .any, .any, .any, .any, .any, .any, .any, .any, .any, .any, .any, .any, .any, .any, .any, .any, .any, .any, .any, .any, .any, .any, .any, .any, .any, .any, .any]
def f140_r15 : List LOp := [
⟨some 49, .move (.tmp 7), none⟩,
⟨some 50, .move (.tmp 6), none⟩,
⟨some 51, .binOp .add 3 (.tmp 49) (.tmp 50) 3, none⟩,
⟨some 9, .assign (.tmp 51), none⟩]
def f140_r16 : List LOp := [
⟨some 52, .move (.tmp 9), none⟩,
⟨some 53, .move (.tmp 1), none⟩,
⟨some 54, .binOp .lss 3 (.tmp 52) (.tmp 53) 3, none⟩]
def f140_r17 : List LOp := [
⟨some 55, .move (.tmp 0), none⟩,
⟨some 56, .move (.tmp 7), none⟩,
⟨some 57, .move (.tmp 9), none⟩,
⟨some 58, .move (.tmp 1), none⟩,
⟨some 59, .move (.tmp 2), none⟩,
⟨some 60, .call ⟨.value (.func 145), #[.tmp 55, .tmp 56, .tmp 57, .tmp 58, .tmp 59], #[25, 3, 3, 3, 120]⟩, none⟩]
def f140_r18 : List LOp := [
⟨some 61, .move (.tmp 6), none⟩,
⟨some 62, .binOp .mul 3 (.tmp 61) (.const (.int .i64 2)) 3, none⟩,
⟨some 6, .assign (.tmp 62), none⟩]
def f140_l19 : LC := (.seq (.seq (.reg f140_r8 [] none) (.cond (.tmp 30) .skip (.exit 2))) (.block 3 (.seq (.reg f140_r9 [] none) (.seq (.block 4 (.loop f140_l14)) (.seq (.seq (.reg f140_r15 [] none) (.seq (.reg f140_r16 [] none) (.cond (.tmp 54) (.reg f140_r17 [] none) .skip))) (.reg f140_r18 [] none))))))
def f140_i19 (t0 t1 t2 t6 : D) : List D := [t0, t1, t2, .any, .any, .any, t6, .any, .any, .any, .any, .any, .any, .any, .any, .any, .any, .any, .any, .any, .any, .any, .any, .any, .any, .any, .any, .any, .any, .any, .any, .any, .any, .any, .any, .any, .any, .any, .any, .any, .any, .any, .any, .any, .any, .any, .any, .any, .any, .any, .any, .any, .any, .any, .any, .any, .any, .any, .any, .any, .any, .any, .any]
def f140_c : LC := (.seq (.reg f140_r0 [] none) (.seq (.reg f140_r1 [] none) (.seq (.block 0 (.loop f140_l6)) (.seq (.reg f140_r7 [] none) (.block 2 (.loop f140_l19))))))
theorem f140_lc : Tryz.f140.body.map lc = some f140_c.st := by kernel_rfl
theorem f140_res : Tryz.f140.results.toList = [] := by kernel_rfl
theorem f140_nt : Tryz.f140.ntmps = 63 := by kernel_rfl
theorem f140_nm : (Tryz.f140.name == "runtime.NumGoroutine") = false := by kernel_rfl
/-! cmp.isNaN[uint64] -/
def f143_r0 : List LOp := [
⟨some 2, .assign (.const (.bool false)), none⟩]
def f143_r1 : List LOp := [
⟨some 3, .move (.tmp 0), none⟩,
⟨some 4, .move (.tmp 0), none⟩,
⟨some 5, .binOp .neq 22 (.tmp 3) (.tmp 4) 22, none⟩,
⟨some 2, .assign (.tmp 5), none⟩]
def f143_c : LC := (.seq (.reg f143_r0 [] none) (.seq (.reg f143_r1 [] none) .ret))
theorem f143_lc : Tryz.f143.body.map lc = some f143_c.st := by kernel_rfl
theorem f143_res : Tryz.f143.results.toList = [.tmp 2] := by kernel_rfl
theorem f143_nt : Tryz.f143.ntmps = 6 := by kernel_rfl
theorem f143_nm : (Tryz.f143.name == "runtime.NumGoroutine") = false := by kernel_rfl
/-! slices.insertionSortCmpFunc[quill/api.Re] -/
def f144_r0 : List LOp := [
⟨some 10, .move (.tmp 1), none⟩,
⟨some 11, .binOp .add 3 (.tmp 10) (.const (.int .i64 1)) 3, none⟩,
⟨some 8, .assign (.tmp 11), none⟩]
def f144_r1 : List LOp := [
⟨some 12, .move (.tmp 8), none⟩,
⟨some 13, .move (.tmp 2), none⟩,
⟨some 14, .binOp .lss 3 (.tmp 12) (.tmp 13) 3, none⟩]
def f144_r2 : List LOp := [
⟨some 17, .move (.tmp 8), none⟩,
⟨some 9, .assign (.tmp 17), none⟩]
def f144_r3 : List LOp := [
⟨some 18, .move (.tmp 9), none⟩,
⟨some 19, .move (.tmp 1), none⟩,
⟨some 20, .binOp .gtr 3 (.tmp 18) (.tmp 19) 3, none⟩,
⟨some 21, .move (.tmp 20), none⟩,
⟨some 22, .move (.tmp 3), some (3, true)⟩,
⟨some 23, .move (.tmp 0), some (3, true)⟩,
⟨some 24, .move (.tmp 9), some (3, true)⟩,
⟨some 25, .indexAddr 25 (.tmp 23) (.tmp 24), some (3, true)⟩,
⟨some 26, .load 27 (.tmp 25), some (3, true)⟩,
⟨some 27, .move (.tmp 0), some (3, true)⟩,
⟨some 28, .move (.tmp 9), some (3, true)⟩,
⟨some 29, .binOp .sub 3 (.tmp 28) (.const (.int .i64 1)) 3, some (3, true)⟩,
⟨some 30, .indexAddr 25 (.tmp 27) (.tmp 29), some (3, true)⟩,
⟨some 31, .load 27 (.tmp 30), some (3, true)⟩,
⟨some 32, .call ⟨.value (.tmp 22), #[.tmp 26, .tmp 31], #[27, 27]⟩, some (3, true)⟩,
⟨some 33, .binOp .lss 3 (.tmp 32) (.const (.int .i64 0)) 3, some (3, true)⟩,
⟨some 34, .pick (.tmp 21) (.tmp 33) (.const (.bool false)), none⟩]
def f144_r4 : List LOp := [
⟨some 37, .move (.tmp 0), none⟩,
⟨some 38, .move (.tmp 9), none⟩,
⟨some 39, .move (.tmp 0), none⟩,
⟨some 40, .move (.tmp 9), none⟩,
⟨some 41, .binOp .sub 3 (.tmp 40) (.const (.int .i64 1)) 3, none⟩,
⟨some 42, .move (.tmp 0), none⟩,
⟨some 43, .move (.tmp 9), none⟩,
⟨some 44, .binOp .sub 3 (.tmp 43) (.const (.int .i64 1)) 3, none⟩,
⟨some 45, .indexAddr 25 (.tmp 42) (.tmp 44), none⟩,
⟨some 46, .load 27 (.tmp 45), none⟩,
⟨some 47, .move (.tmp 0), none⟩,
⟨some 48, .move (.tmp 9), none⟩,
⟨some 49, .indexAddr 25 (.tmp 47) (.tmp 48), none⟩,
⟨some 50, .load 27 (.tmp 49), none⟩,
⟨some 51, .indexAddr 25 (.tmp 37) (.tmp 38), none⟩,
⟨none, .store 27 (.tmp 51) (.tmp 46), none⟩,
⟨some 52, .indexAddr 25 (.tmp 39) (.tmp 41), none⟩,
⟨none, .store 27 (.tmp 52) (.tmp 50), none⟩]
def f144_r5 : List LOp := [
⟨some 35, .move (.tmp 9), none⟩,
⟨some 36, .binOp .sub 3 (.tmp 35) (.const (.int .i64 1)) 3, none⟩,
⟨some 9, .assign (.tmp 36), none⟩]
def f144_l6 : LC := (.seq (.seq (.reg f144_r3 [] (some 14)) (.cond (.tmp 34) .skip (.exit 2))) (.seq (.block 3 (.regp f144_r4 [] [0, 1, 2, 3, 4, 5, 6, 7, 10, 11] 14)) (.reg f144_r5 [] none)))
def f144_i6 (t0 t1 t2 t3 t8 t9 : D) : List D := [t0, t1, t2, t3, .any, .any, .any, .any, t8, t9, .any, .any, .any, .any, .any, .any, .any, .any, .any, .any, .any, .any, .any, .any, .any, .any, .any, .any, .any, .any, .any, .any, .any, .any, .any, .any, .any, .any, .any, .any, .any, .any, .any, .any, .any, .any, .any, .any, .any, .any, .any, .any, .any]
def f144_r7 : List LOp := [
⟨some 15, .move (.tmp 8), none⟩,
⟨some 16, .binOp .add 3 (.tmp 15) (.const (.int .i64 1)) 3, none⟩,
⟨some 8, .assign (.tmp 16), none⟩]
def f144_l8 : LC := (.seq (.seq (.reg f144_r1 [] none) (.cond (.tmp 14) .skip (.exit 0))) (.seq (.block 1 (.seq (.reg f144_r2 [] none) (.block 2 (.loop f144_l6)))) (.reg f144_r7 [] none)))
def f144_i8 (t0 t1 t2 t3 t8 : D) : List D := [t0, t1, t2, t3, .any, .any, .any, .any, t8, .any, .any, .any, .any, .any, .any, .any, .any, .any, .any, .any, .any, .any, .any, .any, .any, .any, .any, .any, .any, .any, .any, .any, .any, .any, .any, .any, .any, .any, .any, .any, .any, .any, .any, .any, .any, .any, .any, .any, .any, .any, .any, .any, .any]
def f144_c : LC := (.seq (.reg f144_r0 [] none) (.block 0 (.loop f144_l8)))
theorem f144_lc : Tryz.f144.body.map lc = some f144_c.st := by kernel_rfl
theorem f144_res : Tryz.f144.results.toList = [] := by kernel_rfl
theorem f144_nt : Tryz.f144.ntmps = 53 := by kernel_rfl
theorem f144_nm : (Tryz.f144.name == "runtime.NumGoroutine") = false := by kernel_rfl
/-! slices.symMergeCmpFunc[quill/api.Re] -/
def f145_r0 : List LOp := [
⟨some 25, .move (.tmp 2), none⟩,
⟨some 26, .move (.tmp 1), none⟩,
⟨some 27, .binOp .sub 3 (.tmp 25) (.tmp 26) 3, none⟩,
⟨some 28, .binOp .eql 3 (.tmp 27) (.const (.int .i64 1)) 3, none⟩]
def f145_r1 : List LOp := [
⟨some 29, .move (.tmp 2), none⟩,
⟨some 10, .assign (.tmp 29), none⟩]
def f145_r2 : List LOp := [
⟨some 30, .move (.tmp 3), none⟩,
⟨some 11, .assign (.tmp 30), none⟩]
def f145_r3 : List LOp := [
⟨some 31, .move (.tmp 10), none⟩,
⟨some 32, .move (.tmp 11), none⟩,
⟨some 33, .binOp .lss 3 (.tmp 31) (.tmp 32) 3, none⟩]
def f145_r4 : List LOp := [
⟨some 34, .move (.tmp 10), none⟩,
⟨some 35, .move (.tmp 11), none⟩,
⟨some 36, .binOp .add 3 (.tmp 34) (.tmp 35) 3, none⟩,
⟨some 37, .convert 3 137 (.tmp 36), none⟩,
⟨some 38, .binOp .shr 137 (.tmp 37) (.const (.int .u64 1)) 137, none⟩,
⟨some 39, .convert 137 3 (.tmp 38), none⟩,
⟨some 12, .assign (.tmp 39), none⟩]
def f145_r5 : List LOp := [
⟨some 40, .move (.tmp 4), none⟩,
⟨some 41, .move (.tmp 0), none⟩,
⟨some 42, .move (.tmp 12), none⟩,
⟨some 43, .indexAddr 25 (.tmp 41) (.tmp 42), none⟩,
⟨some 44, .load 27 (.tmp 43), none⟩,
⟨some 45, .move (.tmp 0), none⟩,
⟨some 46, .move (.tmp 1), none⟩,
⟨some 47, .indexAddr 25 (.tmp 45) (.tmp 46), none⟩,
⟨some 48, .load 27 (.tmp 47), none⟩,
⟨some 49, .call ⟨.value (.tmp 40), #[.tmp 44, .tmp 48], #[27, 27]⟩, none⟩,
⟨some 50, .binOp .lss 3 (.tmp 49) (.const (.int .i64 0)) 3, none⟩]
def f145_r6 : List LOp := [
⟨some 51, .move (.tmp 12), none⟩,
⟨some 52, .binOp .add 3 (.tmp 51) (.const (.int .i64 1)) 3, none⟩,
⟨some 10, .assign (.tmp 52), none⟩]
def f145_r7 : List LOp := [
⟨some 53, .move (.tmp 12), none⟩,
⟨some 11, .assign (.tmp 53), none⟩]
def f145_l8 : LC := (.seq (.seq (.reg f145_r3 [] none) (.cond (.tmp 33) .skip (.exit 0))) (.block 1 (.seq (.reg f145_r4 [] none) (.seq (.reg f145_r5 [] (some 9)) (.cond (.tmp 50) (.reg f145_r6 [] none) (.reg f145_r7 [] none))))))
def f145_i8 (t0 t1 t4 t10 t11 : D) : List D := [t0, t1, .any, .any, t4, .any, .any, .any, .any, .any, t10, t11, .any, .any, .any, .any, .any, .any, .any, .any, .any, .any, .any, .any, .any, .any, .any, .any, .any, .any, .any, .any, .any, .any, .any, .any, .any, .any, .any, .any, .any, .any, .any, .any, .any, .any, .any, .any, .any, .any, .any, .any, .any, .any, .any, .any, .any, .any, .any, .any, .any, .any, .any, .any, .any, .any, .any, .any, .any, .any, .any, .any, .any, .any, .any, .any, .any, .any, .any, .any, .any, .any, .any, .any, .any, .any, .any, .any, .any, .any, .any, .any, .any, .any, .any, .any, .any, .any, .any, .any, .any, .any, .any, .any, .any, .any, .any, .any, .any, .any, .any, .any, .any, .any, .any, .any, .any, .any, .any, .any, .any, .any, .any, .any, .any, .any, .any, .any, .any, .any, .any, .any, .any, .any, .any, .any, .any, .any, .any, .any, .any, .any, .any, .any, .any, .any, .any, .any, .any, .any, .any, .any, .any, .any, .any, .any, .any, .any, .any, .any, .any, .any, .any, .any, .any, .any, .any, .any, .any, .any, .any, .any, .any, .any, .any, .any, .any, .any, .any, .any, .any, .any, .any, .any, .any, .any, .any, .any, .any, .any, .any, .any, .any, .any, .any, .any, .any, .any, .any, .any, .any, .any, .any, .any, .any, .any, .any, .any, .any, .any, .any, .any, .any, .any, .any, .any, .any, .any, .any, .any]
def f145_r9 : List LOp := [
⟨some 54, .move (.tmp 1), none⟩,
⟨some 13, .assign (.tmp 54), none⟩]
def f145_r10 : List LOp := [
⟨some 55, .move (.tmp 13), none⟩,
⟨some 56, .move (.tmp 10), none⟩,
⟨some 57, .binOp .sub 3 (.tmp 56) (.const (.int .i64 1)) 3, none⟩,
⟨some 58, .binOp .lss 3 (.tmp 55) (.tmp 57) 3, none⟩]
def f145_r11 : List LOp := [
⟨some 61, .move (.tmp 0), none⟩,
⟨some 62, .move (.tmp 13), none⟩,
⟨some 63, .move (.tmp 0), none⟩,
⟨some 64, .move (.tmp 13), none⟩,
⟨some 65, .binOp .add 3 (.tmp 64) (.const (.int .i64 1)) 3, none⟩,
⟨some 66, .move (.tmp 0), none⟩,
⟨some 67, .move (.tmp 13), none⟩,
⟨some 68, .binOp .add 3 (.tmp 67) (.const (.int .i64 1)) 3, none⟩,
⟨some 69, .indexAddr 25 (.tmp 66) (.tmp 68), none⟩,
⟨some 70, .load 27 (.tmp 69), none⟩,
⟨some 71, .move (.tmp 0), none⟩,
⟨some 72, .move (.tmp 13), none⟩,
⟨some 73, .indexAddr 25 (.tmp 71) (.tmp 72), none⟩,
⟨some 74, .load 27 (.tmp 73), none⟩,
⟨some 75, .indexAddr 25 (.tmp 61) (.tmp 62), none⟩,
⟨none, .store 27 (.tmp 75) (.tmp 70), none⟩,
⟨some 76, .indexAddr 25 (.tmp 63) (.tmp 65), none⟩,
⟨none, .store 27 (.tmp 76) (.tmp 74), none⟩]
def f145_r12 : List LOp := [
⟨some 59, .move (.tmp 13), none⟩,
⟨some 60, .binOp .add 3 (.tmp 59) (.const (.int .i64 1)) 3, none⟩,
⟨some 13, .assign (.tmp 60), none⟩]
def f145_l13 : LC := (.seq (.seq (.reg f145_r10 [] none) (.cond (.tmp 58) .skip (.exit 2))) (.seq (.block 3 (.regp f145_r11 [] [0, 1, 2, 3, 4, 5, 6, 7, 10, 11] 14)) (.reg f145_r12 [] none)))
def f145_i13 (t0 t10 t13 : D) : List D := [t0, .any, .any, .any, .any, .any, .any, .any, .any, .any, t10, .any, .any, t13, .any, .any, .any, .any, .any, .any, .any, .any, .any, .any, .any, .any, .any, .any, .any, .any, .any, .any, .any, .any, .any, .any, .any, .any, .any, .any, .any, .any, .any, .any, .any, .any, .any, .any, .any, .any, .any, .any, .any, .any, .any, .any, .any, .any, .any, .any, .any, .any, .any, .any, .any, .any, .any, .any, .any, .any, .any, .any, .any, .any, .any, .any, .any, .any, .any, .any, .any, .any, .any, .any, .any, .any, .any, .any, .any, .any, .any, .any, .any, .any, .any, .any, .any, .any, .any, .any, .any, .any, .any, .any, .any, .any, .any, .any, .any, .any, .any, .any, .any, .any, .any, .any, .any, .any, .any, .any, .any, .any, .any, .any, .any, .any, .any, .any, .any, .any, .any, .any, .any, .any, .any, .any, .any, .any, .any, .any, .any, .any, .any, .any, .any, .any, .any, .any, .any, .any, .any, .any, .any, .any, .any, .any, .any, .any, .any, .any, .any, .any, .any, .any, .any, .any, .any, .any, .any, .any, .any, .any, .any, .any, .any, .any, .any, .any, .any, .any, .any, .any, .any, .any, .any, .any, .any, .any, .any, .any, .any, .any, .any, .any, .any, .any, .any, .any, .any, .any, .any, .any, .any, .any, .any, .any, .any, .any, .any, .any, .any, .any, .any, .any, .any, .any, .any, .any, .any, .any]
def f145_r14 : List LOp := [
⟨some 77, .move (.tmp 3), none⟩,
⟨some 78, .move (.tmp 2), none⟩,
⟨some 79, .binOp .sub 3 (.tmp 77) (.tmp 78) 3, none⟩,
⟨some 80, .binOp .eql 3 (.tmp 79) (.const (.int .i64 1)) 3, none⟩]
def f145_r15 : List LOp := [
⟨some 81, .move (.tmp 1), none⟩,
⟨some 14, .assign (.tmp 81), none⟩]
def f145_r16 : List LOp := [
⟨some 82, .move (.tmp 2), none⟩,
⟨some 15, .assign (.tmp 82), none⟩]
def f145_r17 : List LOp := [
⟨some 83, .move (.tmp 14), none⟩,
⟨some 84, .move (.tmp 15), none⟩,
⟨some 85, .binOp .lss 3 (.tmp 83) (.tmp 84) 3, none⟩]
def f145_r18 : List LOp := [
⟨some 86, .move (.tmp 14), none⟩,
⟨some 87, .move (.tmp 15), none⟩,
⟨some 88, .binOp .add 3 (.tmp 86) (.tmp 87) 3, none⟩,
⟨some 89, .convert 3 137 (.tmp 88), none⟩,
⟨some 90, .binOp .shr 137 (.tmp 89) (.const (.int .u64 1)) 137, none⟩,
⟨some 91, .convert 137 3 (.tmp 90), none⟩,
⟨some 16, .assign (.tmp 91), none⟩]
def f145_r19 : List LOp := [
⟨some 92, .move (.tmp 4), none⟩,
⟨some 93, .move (.tmp 0), none⟩,
⟨some 94, .move (.tmp 2), none⟩,
⟨some 95, .indexAddr 25 (.tmp 93) (.tmp 94), none⟩,
⟨some 96, .load 27 (.tmp 95), none⟩,
⟨some 97, .move (.tmp 0), none⟩,
⟨some 98, .move (.tmp 16), none⟩,
⟨some 99, .indexAddr 25 (.tmp 97) (.tmp 98), none⟩,
⟨some 100, .load 27 (.tmp 99), none⟩,
⟨some 101, .call ⟨.value (.tmp 92), #[.tmp 96, .tmp 100], #[27, 27]⟩, none⟩,
⟨some 102, .binOp .lss 3 (.tmp 101) (.const (.int .i64 0)) 3, none⟩,
⟨some 103, .unOp .not 4 (.tmp 102), none⟩]
def f145_r20 : List LOp := [
⟨some 104, .move (.tmp 16), none⟩,
⟨some 105, .binOp .add 3 (.tmp 104) (.const (.int .i64 1)) 3, none⟩,
⟨some 14, .assign (.tmp 105), none⟩]
def f145_r21 : List LOp := [
⟨some 106, .move (.tmp 16), none⟩,
⟨some 15, .assign (.tmp 106), none⟩]
def f145_l22 : LC := (.seq (.seq (.reg f145_r17 [] none) (.cond (.tmp 85) .skip (.exit 4))) (.block 5 (.seq (.reg f145_r18 [] none) (.seq (.reg f145_r19 [] (some 9)) (.cond (.tmp 103) (.reg f145_r20 [] none) (.reg f145_r21 [] none))))))
def f145_i22 (t0 t2 t4 t14 t15 : D) : List D := [t0, .any, t2, .any, t4, .any, .any, .any, .any, .any, .any, .any, .any, .any, t14, t15, .any, .any, .any, .any, .any, .any, .any, .any, .any, .any, .any, .any, .any, .any, .any, .any, .any, .any, .any, .any, .any, .any, .any, .any, .any, .any, .any, .any, .any, .any, .any, .any, .any, .any, .any, .any, .any, .any, .any, .any, .any, .any, .any, .any, .any, .any, .any, .any, .any, .any, .any, .any, .any, .any, .any, .any, .any, .any, .any, .any, .any, .any, .any, .any, .any, .any, .any, .any, .any, .any, .any, .any, .any, .any, .any, .any, .any, .any, .any, .any, .any, .any, .any, .any, .any, .any, .any, .any, .any, .any, .any, .any, .any, .any, .any, .any, .any, .any, .any, .any, .any, .any, .any, .any, .any, .any, .any, .any, .any, .any, .any, .any, .any, .any, .any, .any, .any, .any, .any, .any, .any, .any, .any, .any, .any, .any, .any, .any, .any, .any, .any, .any, .any, .any, .any, .any, .any, .any, .any, .any, .any, .any, .any, .any, .any, .any, .any, .any, .any, .any, .any, .any, .any, .any, .any, .any, .any, .any, .any, .any, .any, .any, .any, .any, .any, .any, .any, .any, .any, .any, .any, .any, .any, .any, .any, .any, .any, .any, .any, .any, .any, .any, .any, .any, .any, .any, .any, .any, .any, .any, .any, .any, .any, .any, .any, .any, .any, .any, .any, .any, .any, .any, .any, .any]
def f145_r23 : List LOp := [
⟨some 107, .move (.tmp 2), none⟩,
⟨some 17, .assign (.tmp 107), none⟩]
def f145_r24 : List LOp := [
⟨some 108, .move (.tmp 17), none⟩,
⟨some 109, .move (.tmp 14), none⟩,
⟨some 110, .binOp .gtr 3 (.tmp 108) (.tmp 109) 3, none⟩]
def f145_r25 : List LOp := [
⟨some 113, .move (.tmp 0), none⟩,
⟨some 114, .move (.tmp 17), none⟩,
⟨some 115, .move (.tmp 0), none⟩,
⟨some 116, .move (.tmp 17), none⟩,
⟨some 117, .binOp .sub 3 (.tmp 116) (.const (.int .i64 1)) 3, none⟩,
⟨some 118, .move (.tmp 0), none⟩,
⟨some 119, .move (.tmp 17), none⟩,
⟨some 120, .binOp .sub 3 (.tmp 119) (.const (.int .i64 1)) 3, none⟩,
⟨some 121, .indexAddr 25 (.tmp 118) (.tmp 120), none⟩,
⟨some 122, .load 27 (.tmp 121), none⟩,
⟨some 123, .move (.tmp 0), none⟩,
⟨some 124, .move (.tmp 17), none⟩,
⟨some 125, .indexAddr 25 (.tmp 123) (.tmp 124), none⟩,
⟨some 126, .load 27 (.tmp 125), none⟩,
⟨some 127, .indexAddr 25 (.tmp 113) (.tmp 114), none⟩,
⟨none, .store 27 (.tmp 127) (.tmp 122), none⟩,
⟨some 128, .indexAddr 25 (.tmp 115) (.tmp 117), none⟩,
⟨none, .store 27 (.tmp 128) (.tmp 126), none⟩]
def f145_r26 : List LOp := [
⟨some 111, .move (.tmp 17), none⟩,
⟨some 112, .binOp .sub 3 (.tmp 111) (.const (.int .i64 1)) 3, none⟩,
⟨some 17, .assign (.tmp 112), none⟩]
def f145_l27 : LC := (.seq (.seq (.reg f145_r24 [] none) (.cond (.tmp 110) .skip (.exit 6))) (.seq (.block 7 (.regp f145_r25 [] [0, 1, 2, 3, 4, 5, 6, 7, 10, 11] 14)) (.reg f145_r26 [] none)))
def f145_i27 (t0 t14 t17 : D) : List D := [t0, .any, .any, .any, .any, .any, .any, .any, .any, .any, .any, .any, .any, .any, t14, .any, .any, t17, .any, .any, .any, .any, .any, .any, .any, .any, .any, .any, .any, .any, .any, .any, .any, .any, .any, .any, .any, .any, .any, .any, .any, .any, .any, .any, .any, .any, .any, .any, .any, .any, .any, .any, .any, .any, .any, .any, .any, .any, .any, .any, .any, .any, .any, .any, .any, .any, .any, .any, .any, .any, .any, .any, .any, .any, .any, .any, .any, .any, .any, .any, .any, .any, .any, .any, .any, .any, .any, .any, .any, .any, .any, .any, .any, .any, .any, .any, .any, .any, .any, .any, .any, .any, .any, .any, .any, .any, .any, .any, .any, .any, .any, .any, .any, .any, .any, .any, .any, .any, .any, .any, .any, .any, .any, .any, .any, .any, .any, .any, .any, .any, .any, .any, .any, .any, .any, .any, .any, .any, .any, .any, .any, .any, .any, .any, .any, .any, .any, .any, .any, .any, .any, .any, .any, .any, .any, .any, .any, .any, .any, .any, .any, .any, .any, .any, .any, .any, .any, .any, .any, .any, .any, .any, .any, .any, .any, .any, .any, .any, .any, .any, .any, .any, .any, .any, .any, .any, .any, .any, .any, .any, .any, .any, .any, .any, .any, .any, .any, .any, .any, .any, .any, .any, .any, .any, .any, .any, .any, .any, .any, .any, .any, .any, .any, .any, .any, .any, .any, .any, .any, .any]
def f145_r28 : List LOp := [
⟨some 129, .move (.tmp 1), none⟩,
⟨some 130, .move (.tmp 3), none⟩,
⟨some 131, .binOp .add 3 (.tmp 129) (.tmp 130) 3, none⟩,
⟨some 132, .convert 3 137 (.tmp 131), none⟩,
⟨some 133, .binOp .shr 137 (.tmp 132) (.const (.int .u64 1)) 137, none⟩,
⟨some 134, .convert 137 3 (.tmp 133), none⟩,
⟨some 18, .assign (.tmp 134), none⟩]
def f145_r29 : List LOp := [
⟨some 135, .move (.tmp 18), none⟩,
⟨some 136, .move (.tmp 2), none⟩,
⟨some 137, .binOp .add 3 (.tmp 135) (.tmp 136) 3, none⟩,
⟨some 19, .assign (.tmp 137), none⟩]
def f145_r30 : List LOp := [
⟨some 20, .assign (.const (.int .i64 0)), none⟩,
⟨some 21, .assign (.const (.int .i64 0)), none⟩]
def f145_r31 : List LOp := [
⟨some 138, .move (.tmp 2), none⟩,
⟨some 139, .move (.tmp 18), none⟩,
⟨some 140, .binOp .gtr 3 (.tmp 138) (.tmp 139) 3, none⟩]
def f145_r32 : List LOp := [
⟨some 141, .move (.tmp 19), none⟩,
⟨some 142, .move (.tmp 3), none⟩,
⟨some 143, .binOp .sub 3 (.tmp 141) (.tmp 142) 3, none⟩,
⟨some 20, .assign (.tmp 143), none⟩]
def f145_r33 : List LOp := [
⟨some 144, .move (.tmp 18), none⟩,
⟨some 21, .assign (.tmp 144), none⟩]
def f145_r34 : List LOp := [
⟨some 145, .move (.tmp 1), none⟩,
⟨some 20, .assign (.tmp 145), none⟩]
def f145_r35 : List LOp := [
⟨some 146, .move (.tmp 2), none⟩,
⟨some 21, .assign (.tmp 146), none⟩]
def f145_r36 : List LOp := [
⟨some 147, .move (.tmp 19), none⟩,
⟨some 148, .binOp .sub 3 (.tmp 147) (.const (.int .i64 1)) 3, none⟩,
⟨some 22, .assign (.tmp 148), none⟩]
def f145_r37 : List LOp := [
⟨some 149, .move (.tmp 20), none⟩,
⟨some 150, .move (.tmp 21), none⟩,
⟨some 151, .binOp .lss 3 (.tmp 149) (.tmp 150) 3, none⟩]
def f145_r38 : List LOp := [
⟨some 152, .move (.tmp 20), none⟩,
⟨some 153, .move (.tmp 21), none⟩,
⟨some 154, .binOp .add 3 (.tmp 152) (.tmp 153) 3, none⟩,
⟨some 155, .convert 3 137 (.tmp 154), none⟩,
⟨some 156, .binOp .shr 137 (.tmp 155) (.const (.int .u64 1)) 137, none⟩,
⟨some 157, .convert 137 3 (.tmp 156), none⟩,
⟨some 23, .assign (.tmp 157), none⟩]
def f145_r39 : List LOp := [
⟨some 158, .move (.tmp 4), none⟩,
⟨some 159, .move (.tmp 0), none⟩,
⟨some 160, .move (.tmp 22), none⟩,
⟨some 161, .move (.tmp 23), none⟩,
⟨some 162, .binOp .sub 3 (.tmp 160) (.tmp 161) 3, none⟩,
⟨some 163, .indexAddr 25 (.tmp 159) (.tmp 162), none⟩,
⟨some 164, .load 27 (.tmp 163), none⟩,
⟨some 165, .move (.tmp 0), none⟩,
⟨some 166, .move (.tmp 23), none⟩,
⟨some 167, .indexAddr 25 (.tmp 165) (.tmp 166), none⟩,
⟨some 168, .load 27 (.tmp 167), none⟩,
⟨some 169, .call ⟨.value (.tmp 158), #[.tmp 164, .tmp 168], #[27, 27]⟩, none⟩,
⟨some 170, .binOp .lss 3 (.tmp 169) (.const (.int .i64 0)) 3, none⟩,
⟨some 171, .unOp .not 4 (.tmp 170), none⟩]
def f145_r40 : List LOp := [
⟨some 172, .move (.tmp 23), none⟩,
⟨some 173, .binOp .add 3 (.tmp 172) (.const (.int .i64 1)) 3, none⟩,
⟨some 20, .assign (.tmp 173), none⟩]
def f145_r41 : List LOp := [
⟨some 174, .move (.tmp 23), none⟩,
⟨some 21, .assign (.tmp 174), none⟩]
def f145_l42 : LC := (.seq (.seq (.reg f145_r37 [] none) (.cond (.tmp 151) .skip (.exit 8))) (.block 9 (.seq (.reg f145_r38 [] none) (.seq (.reg f145_r39 [] (some 11)) (.cond (.tmp 171) (.reg f145_r40 [] none) (.reg f145_r41 [] none))))))
def f145_i42 (t0 t1 t2 t3 t4 t18 t19 t20 t21 t22 : D) : List D := [t0, t1, t2, t3, t4, .any, .any, .any, .any, .any, .any, .any, .any, .any, .any, .any, .any, .any, t18, t19, t20, t21, t22, .any, .any, .any, .any, .any, .any, .any, .any, .any, .any, .any, .any, .any, .any, .any, .any, .any, .any, .any, .any, .any, .any, .any, .any, .any, .any, .any, .any, .any, .any, .any, .any, .any, .any, .any, .any, .any, .any, .any, .any, .any, .any, .any, .any, .any, .any, .any, .any, .any, .any, .any, .any, .any, .any, .any, .any, .any, .any, .any, .any, .any, .any, .any, .any, .any, .any, .any, .any, .any, .any, .any, .any, .any, .any, .any, .any, .any, .any, .any, .any, .any, .any, .any, .any, .any, .any, .any, .any, .any, .any, .any, .any, .any, .any, .any, .any, .any, .any, .any, .any, .any, .any, .any, .any, .any, .any, .any, .any, .any, .any, .any, .any, .any, .any, .any, .any, .any, .any, .any, .any, .any, .any, .any, .any, .any, .any, .any, .any, .any, .any, .any, .any, .any, .any, .any, .any, .any, .any, .any, .any, .any, .any, .any, .any, .any, .any, .any, .any, .any, .any, .any, .any, .any, .any, .any, .any, .any, .any, .any, .any, .any, .any, .any, .any, .any, .any, .any, .any, .any, .any, .any, .any, .any, .any, .any, .any, .any, .any, .any, .any, .any, .any, .any, .any, .any, .any, .any, .any, .any, .any, .any, .any, .any, .any, .any, .any, .any]
def f145_r43 : List LOp := [
⟨some 175, .move (.tmp 19), none⟩,
⟨some 176, .move (.tmp 20), none⟩,
⟨some 177, .binOp .sub 3 (.tmp 175) (.tmp 176) 3, none⟩,
⟨some 24, .assign (.tmp 177), none⟩]
def f145_r44 : List LOp := [
⟨some 178, .move (.tmp 20), none⟩,
⟨some 179, .move (.tmp 2), none⟩,
⟨some 180, .binOp .lss 3 (.tmp 178) (.tmp 179) 3, none⟩,
⟨some 181, .move (.tmp 180), none⟩,
⟨some 182, .move (.tmp 2), some (3, true)⟩,
⟨some 183, .move (.tmp 24), some (3, true)⟩,
⟨some 184, .binOp .lss 3 (.tmp 182) (.tmp 183) 3, some (3, true)⟩,
⟨some 185, .pick (.tmp 181) (.tmp 184) (.const (.bool false)), none⟩]
def f145_r45 : List LOp := [
⟨some 186, .move (.tmp 0), none⟩,
⟨some 187, .move (.tmp 20), none⟩,
⟨some 188, .move (.tmp 2), none⟩,
⟨some 189, .move (.tmp 24), none⟩,
⟨some 190, .move (.tmp 4), none⟩,
⟨some 191, .call ⟨.value (.func 146), #[.tmp 186, .tmp 187, .tmp 188, .tmp 189, .tmp 190], #[25, 3, 3, 3, 120]⟩, none⟩]
def f145_r46 : List LOp := [
⟨some 192, .move (.tmp 1), none⟩,
⟨some 193, .move (.tmp 20), none⟩,
⟨some 194, .binOp .lss 3 (.tmp 192) (.tmp 193) 3, none⟩,
⟨some 195, .move (.tmp 194), none⟩,
⟨some 196, .move (.tmp 20), some (3, true)⟩,
⟨some 197, .move (.tmp 18), some (3, true)⟩,
⟨some 198, .binOp .lss 3 (.tmp 196) (.tmp 197) 3, some (3, true)⟩,
⟨some 199, .pick (.tmp 195) (.tmp 198) (.const (.bool false)), none⟩]
def f145_r47 : List LOp := [
⟨some 200, .move (.tmp 0), none⟩,
⟨some 201, .move (.tmp 1), none⟩,
⟨some 202, .move (.tmp 20), none⟩,
⟨some 203, .move (.tmp 18), none⟩,
⟨some 204, .move (.tmp 4), none⟩,
⟨some 205, .call ⟨.value (.func 145), #[.tmp 200, .tmp 201, .tmp 202, .tmp 203, .tmp 204], #[25, 3, 3, 3, 120]⟩, none⟩]
def f145_r48 : List LOp := [
⟨some 206, .move (.tmp 18), none⟩,
⟨some 207, .move (.tmp 24), none⟩,
⟨some 208, .binOp .lss 3 (.tmp 206) (.tmp 207) 3, none⟩,
⟨some 209, .move (.tmp 208), none⟩,
⟨some 210, .move (.tmp 24), some (3, true)⟩,
⟨some 211, .move (.tmp 3), some (3, true)⟩,
⟨some 212, .binOp .lss 3 (.tmp 210) (.tmp 211) 3, some (3, true)⟩,
⟨some 213, .pick (.tmp 209) (.tmp 212) (.const (.bool false)), none⟩]
def f145_r49 : List LOp := [
⟨some 214, .move (.tmp 0), none⟩,
⟨some 215, .move (.tmp 18), none⟩,
⟨some 216, .move (.tmp 24), none⟩,
⟨some 217, .move (.tmp 3), none⟩,
⟨some 218, .move (.tmp 4), none⟩,
⟨some 219, .call ⟨.value (.func 145), #[.tmp 214, .tmp 215, .tmp 216, .tmp 217, .tmp 218], #[25, 3, 3, 3, 120]⟩, none⟩]
def f145_c : LC := (.seq (.seq (.reg f145_r0 [] none) (.cond (.tmp 28) (.seq (.reg f145_r1 [] none) (.seq (.reg f145_r2 [] none) (.seq (.block 0 (.loop f145_l8)) (.seq (.seq (.reg f145_r9 [] none) (.block 2 (.loop f145_l13))) .ret)))) .skip)) (.seq (.seq (.reg f145_r14 [] none) (.cond (.tmp 80) (.seq (.reg f145_r15 [] none) (.seq (.reg f145_r16 [] none) (.seq (.block 4 (.loop f145_l22)) (.seq (.seq (.reg f145_r23 [] none) (.block 6 (.loop f145_l27))) .ret)))) .skip)) (.seq (.reg f145_r28 [] none) (.seq (.reg f145_r29 [] none) (.seq (.reg f145_r30 [] none) (.seq (.seq (.reg f145_r31 [] none) (.cond (.tmp 140) (.seq (.reg f145_r32 [] none) (.reg f145_r33 [] none)) (.seq (.reg f145_r34 [] none) (.reg f145_r35 [] none)))) (.seq (.reg f145_r36 [] none) (.seq (.block 8 (.loop f145_l42)) (.seq (.reg f145_r43 [] none) (.seq (.seq (.reg f145_r44 [] none) (.cond (.tmp 185) (.reg f145_r45 [] none) .skip)) (.seq (.seq (.reg f145_r46 [] none) (.cond (.tmp 199) (.reg f145_r47 [] none) .skip)) (.seq (.reg f145_r48 [] none) (.cond (.tmp 213) (.reg f145_r49 [] none) .skip)))))))))))))
theorem f145_lc : Tryz.f145.body.map lc = some f145_c.st := by kernel_rfl
theorem f145_res : Tryz.f145.results.toList = [] := by kernel_rfl
theorem f145_nt : Tryz.f145.ntmps = 220 := by kernel_rfl
theorem f145_nm : (Tryz.f145.name == "runtime.NumGoroutine") = false := by kernel_rfl
/-! slices.rotateCmpFunc[quill/api.Re] -/
def f146_r0 : List LOp := [
⟨some 12, .move (.tmp 2), none⟩,
⟨some 13, .move (.tmp 1), none⟩,
⟨some 14, .binOp .sub 3 (.tmp 12) (.tmp 13) 3, none⟩,
⟨some 10, .assign (.tmp 14), none⟩]
def f146_r1 : List LOp := [
⟨some 15, .move (.tmp 3), none⟩,
⟨some 16, .move (.tmp 2), none⟩,
⟨some 17, .binOp .sub 3 (.tmp 15) (.tmp 16) 3, none⟩,
⟨some 11, .assign (.tmp 17), none⟩]
def f146_r2 : List LOp := [
⟨some 18, .move (.tmp 10), none⟩,
⟨some 19, .move (.tmp 11), none⟩,
⟨some 20, .binOp .neq 3 (.tmp 18) (.tmp 19) 3, none⟩]
def f146_r3 : List LOp := [
⟨some 21, .move (.tmp 10), none⟩,
⟨some 22, .move (.tmp 11), none⟩,
⟨some 23, .binOp .gtr 3 (.tmp 21) (.tmp 22) 3, none⟩]
def f146_r4 : List LOp := [
⟨some 24, .move (.tmp 0), none⟩,
⟨some 25, .move (.tmp 2), none⟩,
⟨some 26, .move (.tmp 10), none⟩,
⟨some 27, .binOp .sub 3 (.tmp 25) (.tmp 26) 3, none⟩,
⟨some 28, .move (.tmp 2), none⟩,
⟨some 29, .move (.tmp 11), none⟩,
⟨some 30, .move (.tmp 4), none⟩,
⟨some 31, .call ⟨.value (.func 147), #[.tmp 24, .tmp 27, .tmp 28, .tmp 29, .tmp 30], #[25, 3, 3, 3, 120]⟩, none⟩]
def f146_r5 : List LOp := [
⟨some 32, .move (.tmp 10), none⟩,
⟨some 33, .move (.tmp 11), none⟩,
⟨some 34, .binOp .sub 3 (.tmp 32) (.tmp 33) 3, none⟩,
⟨some 10, .assign (.tmp 34), none⟩]
def f146_r6 : List LOp := [
⟨some 35, .move (.tmp 0), none⟩,
⟨some 36, .move (.tmp 2), none⟩,
⟨some 37, .move (.tmp 10), none⟩,
⟨some 38, .binOp .sub 3 (.tmp 36) (.tmp 37) 3, none⟩,
⟨some 39, .move (.tmp 2), none⟩,
⟨some 40, .move (.tmp 11), none⟩,
⟨some 41, .binOp .add 3 (.tmp 39) (.tmp 40) 3, none⟩,
⟨some 42, .move (.tmp 10), none⟩,
⟨some 43, .binOp .sub 3 (.tmp 41) (.tmp 42) 3, none⟩,
⟨some 44, .move (.tmp 10), none⟩,
⟨some 45, .move (.tmp 4), none⟩,
⟨some 46, .call ⟨.value (.func 147), #[.tmp 35, .tmp 38, .tmp 43, .tmp 44, .tmp 45], #[25, 3, 3, 3, 120]⟩, none⟩]
def f146_r7 : List LOp := [
⟨some 47, .move (.tmp 11), none⟩,
⟨some 48, .move (.tmp 10), none⟩,
⟨some 49, .binOp .sub 3 (.tmp 47) (.tmp 48) 3, none⟩,
⟨some 11, .assign (.tmp 49), none⟩]
def f146_l8 : LC := (.seq (.seq (.reg f146_r2 [] none) (.cond (.tmp 20) .skip (.exit 0))) (.block 1 (.seq (.reg f146_r3 [] none) (.cond (.tmp 23) (.seq (.reg f146_r4 [] none) (.reg f146_r5 [] none)) (.seq (.reg f146_r6 [] none) (.reg f146_r7 [] none))))))
def f146_i8 (t0 t2 t4 t10 t11 : D) : List D := [t0, .any, t2, .any, t4, .any, .any, .any, .any, .any, t10, t11, .any, .any, .any, .any, .any, .any, .any, .any, .any, .any, .any, .any, .any, .any, .any, .any, .any, .any, .any, .any, .any, .any, .any, .any, .any, .any, .any, .any, .any, .any, .any, .any, .any, .any, .any, .any, .any, .any, .any, .any, .any, .any, .any, .any, .any, .any]
def f146_r9 : List LOp := [
⟨some 50, .move (.tmp 0), none⟩,
⟨some 51, .move (.tmp 2), none⟩,
⟨some 52, .move (.tmp 10), none⟩,
⟨some 53, .binOp .sub 3 (.tmp 51) (.tmp 52) 3, none⟩,
⟨some 54, .move (.tmp 2), none⟩,
⟨some 55, .move (.tmp 10), none⟩,
⟨some 56, .move (.tmp 4), none⟩,
⟨some 57, .call ⟨.value (.func 147), #[.tmp 50, .tmp 53, .tmp 54, .tmp 55, .tmp 56], #[25, 3, 3, 3, 120]⟩, none⟩]
def f146_c : LC := (.seq (.reg f146_r0 [] none) (.seq (.reg f146_r1 [] none) (.seq (.block 0 (.loop f146_l8)) (.reg f146_r9 [] none))))
theorem f146_lc : Tryz.f146.body.map lc = some f146_c.st := by kernel_rfl
theorem f146_res : Tryz.f146.results.toList = [] := by kernel_rfl
theorem f146_nt : Tryz.f146.ntmps = 58 := by kernel_rfl
theorem f146_nm : (Tryz.f146.name == "runtime.NumGoroutine") = false := by kernel_rfl
/-! slices.swapRangeCmpFunc[quill/api.Re] -/
def f147_r0 : List LOp := [
⟨some 10, .assign (.const (.int .i64 0)), none⟩]
def f147_r1 : List LOp := [
⟨some 11, .move (.tmp 10), none⟩,
⟨some 12, .move (.tmp 3), none⟩,
⟨some 13, .binOp .lss 3 (.tmp 11) (.tmp 12) 3, none⟩]
def f147_r2 : List LOp := [
⟨some 16, .move (.tmp 0), none⟩,
⟨some 17, .move (.tmp 1), none⟩,
⟨some 18, .move (.tmp 10), none⟩,
⟨some 19, .binOp .add 3 (.tmp 17) (.tmp 18) 3, none⟩,
⟨some 20, .move (.tmp 0), none⟩,
⟨some 21, .move (.tmp 2), none⟩,
⟨some 22, .move (.tmp 10), none⟩,
⟨some 23, .binOp .add 3 (.tmp 21) (.tmp 22) 3, none⟩,
⟨some 24, .move (.tmp 0), none⟩,
⟨some 25, .move (.tmp 2), none⟩,
⟨some 26, .move (.tmp 10), none⟩,
⟨some 27, .binOp .add 3 (.tmp 25) (.tmp 26) 3, none⟩,
⟨some 28, .indexAddr 25 (.tmp 24) (.tmp 27), none⟩,
⟨some 29, .load 27 (.tmp 28), none⟩,
⟨some 30, .move (.tmp 0), none⟩,
⟨some 31, .move (.tmp 1), none⟩,
⟨some 32, .move (.tmp 10), none⟩,
⟨some 33, .binOp .add 3 (.tmp 31) (.tmp 32) 3, none⟩,
⟨some 34, .indexAddr 25 (.tmp 30) (.tmp 33), none⟩,
⟨some 35, .load 27 (.tmp 34), none⟩,
⟨some 36, .indexAddr 25 (.tmp 16) (.tmp 19), none⟩,
⟨none, .store 27 (.tmp 36) (.tmp 29), none⟩,
⟨some 37, .indexAddr 25 (.tmp 20) (.tmp 23), none⟩,
⟨none, .store 27 (.tmp 37) (.tmp 35), none⟩]
def f147_r3 : List LOp := [
⟨some 14, .move (.tmp 10), none⟩,
⟨some 15, .binOp .add 3 (.tmp 14) (.const (.int .i64 1)) 3, none⟩,
⟨some 10, .assign (.tmp 15), none⟩]
def f147_l4 : LC := (.seq (.seq (.reg f147_r1 [] none) (.cond (.tmp 13) .skip (.exit 0))) (.seq (.block 1 (.regp f147_r2 [] [0, 1, 2, 3, 4, 5, 6, 7, 8, 9, 10, 11, 14, 15, 16, 17] 20)) (.reg f147_r3 [] none)))
def f147_i4 (t0 t1 t2 t3 t10 : D) : List D := [t0, t1, t2, t3, .any, .any, .any, .any, .any, .any, t10, .any, .any, .any, .any, .any, .any, .any, .any, .any, .any, .any, .any, .any, .any, .any, .any, .any, .any, .any, .any, .any, .any, .any, .any, .any, .any, .any]
def f147_c : LC := (.seq (.reg f147_r0 [] none) (.block 0 (.loop f147_l4)))
theorem f147_lc : Tryz.f147.body.map lc = some f147_c.st := by kernel_rfl
theorem f147_res : Tryz.f147.results.toList = [] := by kernel_rfl
theorem f147_nt : Tryz.f147.ntmps = 38 := by kernel_rfl
theorem f147_nm : (Tryz.f147.name == "runtime.NumGoroutine") = false := by kernel_rfl
/-! gosem.cut.vars -/
attribute [go_sem] f5_r0 f5_r1 f5_r2 f5_r3 f5_r4 f5_r5 f5_r6 f5_r7 f5_r8 f5_r9 f5_r10 f5_r11 f5_r12 f5_r13 f5_l14 f5_i14 f5_r15 f5_c f6_r0 f6_r1 f6_r2 f6_r3 f6_r4 f6_r5 f6_r6 f6_r7 f6_r8 f6_r9 f6_r10 f6_r11 f6_r12 f6_c f9_r0 f9_r1 f9_r2 f9_r3 f9_c f10_r0 f10_r1 f10_r2 f10_r3 f10_r4 f10_r5 f10_r6 f10_c f12_r0 f12_r1 f12_r2 f12_r3 f12_r4 f12_c f14_r0 f14_r1 f14_r2 f14_r3 f14_r4 f14_r5 f14_r6 f14_r7 f14_r8 f14_l9 f14_i9 f14_r10 f14_c f15_r0 f15_r1 f15_r2 f15_r3 f15_r4 f15_r5 f15_r6 f15_r7 f15_r8 f15_r9 f15_r10 f15_r11 f15_l12 f15_i12 f15_r13 f15_c f17_r0 f17_r1 f17_r2 f17_r3 f17_r4 f17_c f19_r0 f19_r1 f19_r2 f19_r3 f19_r4 f19_c f20_r0 f20_r1 f20_c f21_r0 f21_r1 f21_c f30_r0 f30_r1 f30_r2 f30_r3 f30_r4 f30_r5 f30_r6 f30_r7 f30_r8 f30_r9 f30_r10 f30_r11 f30_r12 f30_r13 f30_r14 f30_r15 f30_c f33_r0 f33_r1 f33_r2 f33_r3 f33_c f36_r0 f36_r1 f36_r2 f36_r3 f36_r4 f36_r5 f36_r6 f36_r7 f36_r8 f36_r9 f36_r10 f36_r11 f36_r12 f36_l13 f36_i13 f36_r14 f36_r15 f36_r16 f36_r17 f36_r18 f36_r19 f36_r20 f36_r21 f36_r22 f36_r23 f36_l24 f36_i24 f36_r25 f36_r26 f36_r27 f36_r28 f36_r29 f36_r30 f36_r31 f36_r32 f36_r33 f36_r34 f36_r35 f36_r36 f36_r37 f36_r38 f36_r39 f36_l40 f36_i40 f36_l41 f36_i41 f36_r42 f36_c f37_r0 f37_r1 f37_r2 f37_r3 f37_c f39_r0 f39_r1 f39_c f40_r0 f40_r1 f40_r2 f40_r3 f40_r4 f40_r5 f40_r6 f40_r7 f40_r8 f40_r9 f40_c f51_r0 f51_r1 f51_c f56_r0 f56_r1 f56_c f58_r0 f58_r1 f58_r2 f58_r3 f58_r4 f58_r5 f58_r6 f58_r7 f58_r8 f58_c f74_r0 f74_r1 f74_r2 f74_r3 f74_r4 f74_r5 f74_r6 f74_r7 f74_r8 f74_r9 f74_c f75_r0 f75_r1 f75_r2 f75_r3 f75_r4 f75_r5 f75_c f76_r0 f76_r1 f76_r2 f76_r3 f76_r4 f76_r5 f76_r6 f76_r7 f76_c f83_r0 f83_r1 f83_c f94_r0 f94_r1 f94_r2 f94_r3 f94_r4 f94_r5 f94_r6 f94_r7 f94_r8 f94_r9 f94_r10 f94_l11 f94_i11 f94_r12 f94_r13 f94_c f95_r0 f95_r1 f95_r2 f95_r3 f95_r4 f95_r5 f95_r6 f95_r7 f95_r8 f95_r9 f95_r10 f95_l11 f95_i11 f95_r12 f95_c f96_r0 f96_r1 f96_r2 f96_r3 f96_c f99_r0 f99_r1 f99_r2 f99_r3 f99_r4 f99_r5 f99_r6 f99_r7 f99_l8 f99_i8 f99_r9 f99_c f100_r0 f100_r1 f100_c f114_r0 f114_r1 f114_c f115_r0 f115_r1 f115_c f116_r0 f116_r1 f116_r2 f116_r3 f116_c f117_r0 f117_r1 f117_c f123_r0 f123_r1 f123_r2 f123_r3 f123_r4 f123_r5 f123_r6 f123_r7 f123_l8 f123_i8 f123_r9 f123_c f124_r0 f124_r1 f124_r2 f124_r3 f124_r4 f124_r5 f124_r6 f124_r7 f124_r8 f124_r9 f124_r10 f124_r11 f124_r12 f124_r13 f124_c f125_r0 f125_r1 f125_c f126_r0 f126_r1 f126_r2 f126_r3 f126_r4 f126_r5 f126_r6 f126_r7 f126_r8 f126_r9 f126_r10 f126_l11 f126_i11 f126_r12 f126_r13 f126_r14 f126_c f127_r0 f127_r1 f127_c f128_r0 f128_c f129_r0 f129_r1 f129_r2 f129_r3 f129_r4 f129_l5 f129_i5 f129_c f136_r0 f136_r1 f136_c f137_r0 f137_r1 f137_r2 f137_r3 f137_r4 f137_r5 f137_r6 f137_r7 f137_r8 f137_r9 f137_r10 f137_l11 f137_i11 f137_r12 f137_r13 f137_r14 f137_c f138_r0 f138_r1 f138_r2 f138_r3 f138_r4 f138_r5 f138_r6 f138_r7 f138_r8 f138_r9 f138_r10 f138_r11 f138_r12 f138_r13 f138_c f139_r0 f139_r1 f139_r2 f139_r3 f139_a4 f139_b4 f139_r5 f139_c f140_r0 f140_r1 f140_r2 f140_r3 f140_r4 f140_r5 f140_l6 f140_i6 f140_r7 f140_r8 f140_r9 f140_r10 f140_r11 f140_r12 f140_r13 f140_l14 f140_i14 f140_r15 f140_r16 f140_r17 f140_r18 f140_l19 f140_i19 f140_c f143_r0 f143_r1 f143_c f144_r0 f144_r1 f144_r2 f144_r3 f144_r4 f144_r5 f144_l6 f144_i6 f144_r7 f144_l8 f144_i8 f144_c f145_r0 f145_r1 f145_r2 f145_r3 f145_r4 f145_r5 f145_r6 f145_r7 f145_l8 f145_i8 f145_r9 f145_r10 f145_r11 f145_r12 f145_l13 f145_i13 f145_r14 f145_r15 f145_r16 f145_r17 f145_r18 f145_r19 f145_r20 f145_r21 f145_l22 f145_i22 f145_r23 f145_r24 f145_r25 f145_r26 f145_l27 f145_i27 f145_r28 f145_r29 f145_r30 f145_r31 f145_r32 f145_r33 f145_r34 f145_r35 f145_r36 f145_r37 f145_r38 f145_r39 f145_r40 f145_r41 f145_l42 f145_i42 f145_r43 f145_r44 f145_r45 f145_r46 f145_r47 f145_r48 f145_r49 f145_c f146_r0 f146_r1 f146_r2 f146_r3 f146_r4 f146_r5 f146_r6 f146_r7 f146_l8 f146_i8 f146_r9 f146_c f147_r0 f147_r1 f147_r2 f147_r3 f147_l4 f147_i4 f147_c
end Go.Proofs.YtlejbkfefpfolaaGreatDoor.W
