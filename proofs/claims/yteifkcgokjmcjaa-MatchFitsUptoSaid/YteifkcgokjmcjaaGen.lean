/- Part of a program logic over data: rules of the walk, each proved. -/
import Derived.Test.YteifkcgokjmcjaaChecked
import Derived.Test.YteifkcgokjmcjaaAwpT
import Derived.KernelRfl
set_option linter.unusedVariables false
set_option linter.unusedSimpArgs false
set_option linter.unusedSectionVars false
set_option maxRecDepth 100000
namespace Go.Proofs.Yteifkcgokjmcjaa.W
open Go Go.Proofs Go.Proofs.Yteifkcgokjmcjaa.AWP

/-! ### types -/
def ti3 : TI := ⟨.int .i64, 1, 8, [.int .i64 0]⟩
def ti4 : TI := ⟨.bool, 1, 1, [.bool false]⟩
def ti5 : TI := ⟨.int .u8, 1, 1, [.int .u8 0]⟩
def ti9 : TI := ⟨.str, 1, 16, [.string .empty]⟩
def ti20 : TI := ⟨.other, 1, 16, [.nilIface]⟩
def ti23 : TI := ⟨.int .u64, 1, 8, [.int .u64 0]⟩
def ti25 : TI := ⟨.arr 4 23, 4, 32, [.int .u64 0, .int .u64 0, .int .u64 0, .int .u64 0]⟩
def ti26 : TI := ⟨.slice 28, 1, 24, [.slice none 0 0]⟩
def ti28 : TI := ⟨.struct [(0, 5), (1, 25), (5, 26)], 6, 64, [.int .u8 0, .int .u64 0, .int .u64 0, .int .u64 0, .int .u64 0, .slice none 0 0]⟩
def ti29 : TI := ⟨.int .i64, 1, 8, [.int .i64 0]⟩
def ti36 : TI := ⟨.other, 1, 8, [.nilFunc]⟩
def ti37 : TI := ⟨.slice 5, 1, 24, [.slice none 0 0]⟩
def ti41 : TI := ⟨.slice 9, 1, 24, [.slice none 0 0]⟩
def ti46 : TI := ⟨.slice 3, 1, 24, [.slice none 0 0]⟩
def ti50 : TI := ⟨.other, 1, 8, [.nilFunc]⟩
def ti67 : TI := ⟨.other, 1, 8, [.pointer none]⟩
def ti69 : TI := ⟨.struct [(0, 9), (1, 3)], 2, 24, [.string .empty, .int .i64 0]⟩
def ti72 : TI := ⟨.struct [(0, 28), (6, 3), (7, 4)], 8, 80, [.int .u8 0, .int .u64 0, .int .u64 0, .int .u64 0, .int .u64 0, .slice none 0 0, .int .i64 0, .bool false]⟩
def ti76 : TI := ⟨.slice 4, 1, 24, [.slice none 0 0]⟩
def ti77 : TI := ⟨.slice 4, 1, 24, [.slice none 0 0]⟩
def ti83 : TI := ⟨.slice 25, 1, 24, [.slice none 0 0]⟩
def ti88 : TI := ⟨.struct [(0, 3)], 1, 8, [.int .i64 0]⟩
def tab : List (Nat × TI) := [(3, ti3), (4, ti4), (5, ti5), (9, ti9), (20, ti20), (23, ti23), (25, ti25), (26, ti26), (28, ti28), (29, ti29), (36, ti36), (37, ti37), (41, ti41), (46, ti46), (50, ti50), (67, ti67), (69, ti69), (72, ti72), (76, ti76), (77, ti77), (83, ti83), (88, ti88)]
def T : Tab := fun t => (tab.find? fun p => p.1 == t).map (·.2)
theorem T3 : T 3 = some ti3 := rfl
theorem T4 : T 4 = some ti4 := rfl
theorem T5 : T 5 = some ti5 := rfl
theorem T9 : T 9 = some ti9 := rfl
theorem T20 : T 20 = some ti20 := rfl
theorem T23 : T 23 = some ti23 := rfl
theorem T25 : T 25 = some ti25 := rfl
theorem T26 : T 26 = some ti26 := rfl
theorem T28 : T 28 = some ti28 := rfl
theorem T29 : T 29 = some ti29 := rfl
theorem T36 : T 36 = some ti36 := rfl
theorem T37 : T 37 = some ti37 := rfl
theorem T41 : T 41 = some ti41 := rfl
theorem T46 : T 46 = some ti46 := rfl
theorem T50 : T 50 = some ti50 := rfl
theorem T67 : T 67 = some ti67 := rfl
theorem T69 : T 69 = some ti69 := rfl
theorem T72 : T 72 = some ti72 := rfl
theorem T76 : T 76 = some ti76 := rfl
theorem T77 : T 77 = some ti77 := rfl
theorem T83 : T 83 = some ti83 := rfl
theorem T88 : T 88 = some ti88 := rfl
theorem tab_ok : tabB Try.prog tab = true := by kernel_rfl
theorem hT : TabOk Try.prog T := by
  intro t i h
  unfold T at h
  simp only [Option.map_eq_some_iff] at h
  obtain ⟨p, hp, rfl⟩ := h
  have h1 := List.find?_some hp
  have h2 := List.mem_of_find?_eq_some hp
  simp only [beq_iff_eq] at h1
  obtain ⟨t', i'⟩ := p
  subst h1
  exact tabB_ok tab_ok t' i' h2
theorem hm : Try.prog.follows .mixedOrders = true := by kernel_rfl

/-! quill/quilllaw06.ReadIs -/
def f3_r0 : List LOp := [
  ⟨some 2, .assign (.const (.bool false)), none⟩]
def f3_r1 : List LOp := [
  ⟨some 9, .move (.tmp 0), none⟩,
  ⟨some 10, .call { callee := .builtin .len, args := #[.tmp 9], argTypes := #[9] }, none⟩,
  ⟨some 11, .binOp .gtr 3 (.tmp 10) (.const (.int .i64 1000)) 3, none⟩]
def f3_r2 : List LOp := [
  ⟨some 12, .call { callee := .value (.func 14), args := #[], argTypes := #[] }, none⟩,
  ⟨some 2, .assign (.tmp 12), none⟩]
def f3_r3 : List LOp := [
  ⟨some 14, .move (.tmp 0), none⟩,
  ⟨some 15, .call { callee := .value (.func 15), args := #[.tmp 14], argTypes := #[9] }, none⟩,
  ⟨some 13, .move (.tmp 15), none⟩,
  ⟨some 16, .extract (.tmp 13) 0, none⟩,
  ⟨some 17, .extract (.tmp 13) 1, none⟩,
  ⟨some 18, .extract (.tmp 13) 2, none⟩,
  ⟨some 3, .alloc 28, none⟩,
  ⟨none, .store 28 (.tmp 3) (.tmp 16), none⟩,
  ⟨some 4, .assign (.tmp 17), none⟩,
  ⟨some 5, .assign (.tmp 18), none⟩]
def f3_r4 : List LOp := [
  ⟨some 20, .move (.tmp 0), none⟩,
  ⟨some 21, .call { callee := .value (.func 16), args := #[.tmp 20], argTypes := #[9] }, none⟩,
  ⟨some 19, .move (.tmp 21), none⟩,
  ⟨some 22, .extract (.tmp 19) 0, none⟩,
  ⟨some 23, .extract (.tmp 19) 1, none⟩,
  ⟨some 24, .extract (.tmp 19) 2, none⟩,
  ⟨some 6, .alloc 28, none⟩,
  ⟨none, .store 28 (.tmp 6) (.tmp 22), none⟩,
  ⟨some 7, .assign (.tmp 23), none⟩,
  ⟨some 8, .assign (.tmp 24), none⟩]
def f3_r5 : List LOp := [
  ⟨some 25, .move (.tmp 5), none⟩,
  ⟨some 26, .move (.tmp 8), none⟩,
  ⟨some 27, .binOp .eql 3 (.tmp 25) (.tmp 26) 3, none⟩,
  ⟨some 28, .move (.tmp 27), none⟩,
  ⟨some 29, .move (.tmp 4), some (3, true)⟩,
  ⟨some 30, .move (.tmp 7), some (3, true)⟩,
  ⟨some 31, .binOp .eql 3 (.tmp 29) (.tmp 30) 3, some (3, true)⟩,
  ⟨some 32, .pick (.tmp 28) (.tmp 31) (.const (.bool false)), none⟩,
  ⟨some 33, .move (.tmp 32), none⟩,
  ⟨some 34, .load 28 (.tmp 3), some (8, true)⟩,
  ⟨some 35, .load 28 (.tmp 6), some (8, true)⟩,
  ⟨some 36, .call { callee := .value (.func 17), args := #[.tmp 34, .tmp 35], argTypes := #[28, 28] }, some (8, true)⟩,
  ⟨some 37, .pick (.tmp 33) (.tmp 36) (.const (.bool false)), none⟩,
  ⟨some 38, .move (.tmp 37), none⟩,
  ⟨some 39, .move (.tmp 0), some (13, true)⟩,
  ⟨some 40, .buildSlice 41 1 #[(0, .tmp 39)], some (13, true)⟩,
  ⟨some 41, .call { callee := .value (.func 18), args := #[.tmp 40], argTypes := #[41] }, some (13, true)⟩,
  ⟨some 42, .move (.tmp 8), some (13, true)⟩,
  ⟨some 43, .binOp .eql 3 (.tmp 42) (.const (.int .i64 0)) 3, some (13, true)⟩,
  ⟨some 44, .binOp .eql 4 (.tmp 41) (.tmp 43) 4, some (13, true)⟩,
  ⟨some 45, .pick (.tmp 38) (.tmp 44) (.const (.bool false)), none⟩,
  ⟨some 46, .move (.tmp 45), none⟩,
  ⟨some 47, .call { callee := .value (.func 14), args := #[], argTypes := #[] }, some (21, true)⟩,
  ⟨some 48, .pick (.tmp 46) (.tmp 47) (.const (.bool false)), none⟩,
  ⟨some 2, .assign (.tmp 48), none⟩]
def f3_c : LC := (.seq (.reg f3_r0 [] none) (.seq (.seq (.reg f3_r1 [] none) (.cond (.tmp 11) (.seq (.reg f3_r2 [] none) .ret) .skip)) (.seq (.reg f3_r3 [] none) (.seq (.reg f3_r4 [] none) (.seq (.reg f3_r5 [] none) .ret)))))
theorem f3_lc : Try.f3.body.map lc = some f3_c.st := by kernel_rfl
theorem f3_res : Try.f3.results.toList = [.tmp 2] := by kernel_rfl
theorem f3_nt : Try.f3.ntmps = 49 := by kernel_rfl
theorem f3_nm : (Try.f3.name == "runtime.NumGoroutine") = false := by kernel_rfl

/-! quill/quilllaw06.ReadMost -/
def f4_r0 : List LOp := [
  ⟨some 4, .assign (.const (.bool false)), none⟩]
def f4_r1 : List LOp := [
  ⟨some 12, .move (.tmp 0), none⟩,
  ⟨some 13, .binOp .rem 5 (.tmp 12) (.const (.int .u8 7)) 5, none⟩,
  ⟨some 14, .convert 5 3 (.tmp 13), none⟩,
  ⟨some 15, .binOp .add 3 (.const (.int .i64 997)) (.tmp 14) 3, none⟩,
  ⟨some 5, .assign (.tmp 15), none⟩]
def f4_r2 : List LOp := [
  ⟨some 16, .move (.tmp 1), none⟩]
def f4_r3 : List LOp := [
  ⟨some 17, .move (.tmp 0), none⟩,
  ⟨some 18, .binOp .rem 5 (.tmp 17) (.const (.int .u8 7)) 5, none⟩,
  ⟨some 19, .convert 5 3 (.tmp 18), none⟩,
  ⟨some 20, .binOp .add 3 (.const (.int .i64 65533)) (.tmp 19) 3, none⟩,
  ⟨some 5, .assign (.tmp 20), none⟩]
def f4_r4 : List LOp := [
  ⟨some 21, .move (.tmp 5), none⟩,
  ⟨some 22, .makeSlice 37 (.tmp 21) (.tmp 21), none⟩,
  ⟨some 6, .assign (.tmp 22), none⟩]
def f4_r5 : List LOp := [
  ⟨some 7, .assign (.const (.int .i64 0)), none⟩]
def f4_r6 : List LOp := [
  ⟨some 23, .move (.tmp 7), none⟩,
  ⟨some 24, .move (.tmp 6), none⟩,
  ⟨some 25, .call { callee := .builtin .len, args := #[.tmp 24], argTypes := #[37] }, none⟩,
  ⟨some 26, .binOp .lss 3 (.tmp 23) (.tmp 25) 3, none⟩]
def f4_r7 : List LOp := [
  ⟨some 29, .move (.tmp 6), none⟩,
  ⟨some 30, .move (.tmp 7), none⟩,
  ⟨some 31, .indexAddr 37 (.tmp 29) (.tmp 30), none⟩,
  ⟨none, .store 5 (.tmp 31) (.const (.int .u8 97)), none⟩]
def f4_r8 : List LOp := [
  ⟨some 27, .move (.tmp 7), none⟩,
  ⟨some 28, .binOp .add 3 (.tmp 27) (.const (.int .i64 1)) 3, none⟩,
  ⟨some 7, .assign (.tmp 28), none⟩]
def f4_l9 : LC := (.seq (.seq (.reg f4_r6 [] none) (.cond (.tmp 26) .skip (.exit 0))) (.seq (.block 1 (.reg f4_r7 [] none)) (.reg f4_r8 [] none)))
def f4_i9 (t5 t6 t7 : D) : List D := [.any, .any, .any, .any, .any, t5, t6, t7, .any, .any, .any, .any, .any, .any, .any, .any, .any, .any, .any, .any, .any, .any, .any, .any, .any, .any, .any, .any, .any, .any, .any, .any, .any, .any, .any, .any, .any, .any, .any, .any, .any, .any, .any, .any, .any, .any, .any, .any, .any, .any, .any, .any, .any, .any, .any, .any, .any, .any, .any, .any, .any, .any]
def f4_r10 : List LOp := [
  ⟨some 33, .move (.tmp 6), none⟩,
  ⟨some 34, .convert 37 9 (.tmp 33), none⟩,
  ⟨some 35, .call { callee := .value (.func 15), args := #[.tmp 34], argTypes := #[9] }, none⟩,
  ⟨some 32, .move (.tmp 35), none⟩,
  ⟨some 36, .extract (.tmp 32) 0, none⟩,
  ⟨some 37, .extract (.tmp 32) 1, none⟩,
  ⟨some 38, .extract (.tmp 32) 2, none⟩,
  ⟨some 8, .alloc 28, none⟩,
  ⟨none, .store 28 (.tmp 8) (.tmp 36), none⟩,
  ⟨some 9, .assign (.tmp 37), none⟩,
  ⟨some 10, .assign (.tmp 38), none⟩]
def f4_r11 : List LOp := [
  ⟨some 11, .assign (.const (.int .i64 0)), none⟩]
def f4_r12 : List LOp := [
  ⟨some 39, .move (.tmp 5), none⟩,
  ⟨some 40, .binOp .gtr 3 (.tmp 39) (.const (.int .i64 65536)) 3, none⟩]
def f4_r13 : List LOp := [
  ⟨some 11, .assign (.const (.int .i64 3)), none⟩]
def f4_r14 : List LOp := [
  ⟨some 41, .move (.tmp 5), none⟩,
  ⟨some 42, .binOp .gtr 3 (.tmp 41) (.const (.int .i64 1000)) 3, none⟩]
def f4_r15 : List LOp := [
  ⟨some 11, .assign (.const (.int .i64 4)), none⟩]
def f4_r16 : List LOp := [
  ⟨some 43, .move (.tmp 10), none⟩,
  ⟨some 44, .move (.tmp 11), none⟩,
  ⟨some 45, .binOp .eql 29 (.tmp 43) (.tmp 44) 29, none⟩,
  ⟨some 46, .move (.tmp 45), none⟩,
  ⟨some 47, .move (.tmp 9), some (3, true)⟩,
  ⟨some 48, .binOp .eql 3 (.tmp 47) (.const (.int .i64 0)) 3, some (3, true)⟩,
  ⟨some 49, .pick (.tmp 46) (.tmp 48) (.const (.bool false)), none⟩,
  ⟨some 50, .move (.tmp 49), none⟩,
  ⟨some 51, .move (.tmp 10), some (7, true)⟩,
  ⟨some 52, .binOp .eql 29 (.tmp 51) (.const (.int .i64 0)) 29, some (7, true)⟩,
  ⟨some 53, .move (.tmp 52), some (7, true)⟩,
  ⟨some 54, .load 28 (.tmp 8), some (10, false)⟩,
  ⟨some 55, .build 28 #[], some (10, false)⟩,
  ⟨some 56, .call { callee := .value (.func 17), args := #[.tmp 54, .tmp 55], argTypes := #[28, 28] }, some (10, false)⟩,
  ⟨some 57, .pick (.tmp 53) (.const (.bool true)) (.tmp 56), some (7, true)⟩,
  ⟨some 58, .pick (.tmp 50) (.tmp 57) (.const (.bool false)), none⟩,
  ⟨some 59, .move (.tmp 58), none⟩,
  ⟨some 60, .call { callee := .value (.func 14), args := #[], argTypes := #[] }, some (16, true)⟩,
  ⟨some 61, .pick (.tmp 59) (.tmp 60) (.const (.bool false)), none⟩,
  ⟨some 4, .assign (.tmp 61), none⟩]
def f4_c : LC := (.seq (.reg f4_r0 [] none) (.seq (.reg f4_r1 [] none) (.seq (.seq (.reg f4_r2 [] none) (.cond (.tmp 16) (.reg f4_r3 [] none) .skip)) (.seq (.reg f4_r4 [1] none) (.seq (.seq (.reg f4_r5 [] none) (.block 0 (.loop f4_l9))) (.seq (.reg f4_r10 [] none) (.seq (.reg f4_r11 [] none) (.seq (.seq (.reg f4_r12 [] none) (.cond (.tmp 40) (.reg f4_r13 [] none) (.seq (.reg f4_r14 [] none) (.cond (.tmp 42) (.reg f4_r15 [] none) .skip)))) (.seq (.reg f4_r16 [] none) .ret)))))))))
theorem f4_lc : Try.f4.body.map lc = some f4_c.st := by kernel_rfl
theorem f4_res : Try.f4.results.toList = [.tmp 4] := by kernel_rfl
theorem f4_nt : Try.f4.ntmps = 62 := by kernel_rfl
theorem f4_nm : (Try.f4.name == "runtime.NumGoroutine") = false := by kernel_rfl

/-! quill/quilllaw06.ReadRound -/
def f5_r0 : List LOp := [
  ⟨some 4, .assign (.const (.bool false)), none⟩]
def f5_r1 : List LOp := [
  ⟨some 17, .move (.tmp 0), none⟩,
  ⟨some 18, .call { callee := .builtin .len, args := #[.tmp 17], argTypes := #[9] }, none⟩,
  ⟨some 19, .binOp .gtr 3 (.tmp 18) (.const (.int .i64 200)) 3, none⟩,
  ⟨some 20, .move (.tmp 19), none⟩,
  ⟨some 21, .move (.tmp 1), some (3, false)⟩,
  ⟨some 22, .call { callee := .builtin .len, args := #[.tmp 21], argTypes := #[9] }, some (3, false)⟩,
  ⟨some 23, .binOp .gtr 3 (.tmp 22) (.const (.int .i64 200)) 3, some (3, false)⟩,
  ⟨some 24, .pick (.tmp 20) (.const (.bool true)) (.tmp 23), none⟩]
def f5_r2 : List LOp := [
  ⟨some 25, .call { callee := .value (.func 14), args := #[], argTypes := #[] }, none⟩,
  ⟨some 4, .assign (.tmp 25), none⟩]
def f5_r3 : List LOp := [
  ⟨some 27, .move (.tmp 0), none⟩,
  ⟨some 28, .call { callee := .value (.func 15), args := #[.tmp 27], argTypes := #[9] }, none⟩,
  ⟨some 26, .move (.tmp 28), none⟩,
  ⟨some 29, .extract (.tmp 26) 0, none⟩,
  ⟨some 30, .extract (.tmp 26) 1, none⟩,
  ⟨some 31, .extract (.tmp 26) 2, none⟩,
  ⟨some 5, .alloc 28, none⟩,
  ⟨none, .store 28 (.tmp 5) (.tmp 29), none⟩,
  ⟨some 6, .assign (.tmp 30), none⟩,
  ⟨some 7, .assign (.tmp 31), none⟩]
def f5_r4 : List LOp := [
  ⟨some 33, .move (.tmp 1), none⟩,
  ⟨some 34, .call { callee := .value (.func 15), args := #[.tmp 33], argTypes := #[9] }, none⟩,
  ⟨some 32, .move (.tmp 34), none⟩,
  ⟨some 35, .extract (.tmp 32) 0, none⟩,
  ⟨some 36, .extract (.tmp 32) 1, none⟩,
  ⟨some 37, .extract (.tmp 32) 2, none⟩,
  ⟨some 8, .alloc 28, none⟩,
  ⟨none, .store 28 (.tmp 8) (.tmp 35), none⟩,
  ⟨some 9, .assign (.tmp 36), none⟩,
  ⟨some 10, .assign (.tmp 37), none⟩]
def f5_r5 : List LOp := [
  ⟨some 38, .move (.tmp 7), none⟩,
  ⟨some 39, .binOp .neq 29 (.tmp 38) (.const (.int .i64 0)) 29, none⟩,
  ⟨some 40, .move (.tmp 39), none⟩,
  ⟨some 41, .move (.tmp 10), some (2, false)⟩,
  ⟨some 42, .binOp .neq 29 (.tmp 41) (.const (.int .i64 0)) 29, some (2, false)⟩,
  ⟨some 43, .pick (.tmp 40) (.const (.bool true)) (.tmp 42), none⟩]
def f5_r6 : List LOp := [
  ⟨some 44, .call { callee := .value (.func 14), args := #[], argTypes := #[] }, none⟩,
  ⟨some 4, .assign (.tmp 44), none⟩]
def f5_r7 : List LOp := [
  ⟨some 46, .move (.tmp 0), none⟩,
  ⟨some 47, .binOp .add 9 (.const (.string { data := #[40] })) (.tmp 46) 9, none⟩,
  ⟨some 48, .binOp .add 9 (.tmp 47) (.const (.string { data := #[41] })) 9, none⟩,
  ⟨some 49, .call { callee := .value (.func 15), args := #[.tmp 48], argTypes := #[9] }, none⟩,
  ⟨some 45, .move (.tmp 49), none⟩,
  ⟨some 50, .extract (.tmp 45) 0, none⟩,
  ⟨some 51, .extract (.tmp 45) 1, none⟩,
  ⟨some 52, .extract (.tmp 45) 2, none⟩,
  ⟨some 11, .alloc 28, none⟩,
  ⟨none, .store 28 (.tmp 11) (.tmp 50), none⟩,
  ⟨some 12, .assign (.tmp 51), none⟩,
  ⟨some 13, .assign (.tmp 52), none⟩]
def f5_r8 : List LOp := [
  ⟨some 54, .move (.tmp 0), none⟩,
  ⟨some 55, .binOp .add 9 (.const (.string { data := #[40] })) (.tmp 54) 9, none⟩,
  ⟨some 56, .binOp .add 9 (.tmp 55) (.const (.string { data := #[41, 124, 40] })) 9, none⟩,
  ⟨some 57, .move (.tmp 1), none⟩,
  ⟨some 58, .binOp .add 9 (.tmp 56) (.tmp 57) 9, none⟩,
  ⟨some 59, .binOp .add 9 (.tmp 58) (.const (.string { data := #[41] })) 9, none⟩,
  ⟨some 60, .call { callee := .value (.func 15), args := #[.tmp 59], argTypes := #[9] }, none⟩,
  ⟨some 53, .move (.tmp 60), none⟩,
  ⟨some 61, .extract (.tmp 53) 0, none⟩,
  ⟨some 62, .extract (.tmp 53) 1, none⟩,
  ⟨some 63, .extract (.tmp 53) 2, none⟩,
  ⟨some 14, .alloc 28, none⟩,
  ⟨none, .store 28 (.tmp 14) (.tmp 61), none⟩,
  ⟨some 15, .assign (.tmp 62), none⟩,
  ⟨some 16, .assign (.tmp 63), none⟩]
def f5_r9 : List LOp := [
  ⟨some 64, .move (.tmp 13), none⟩,
  ⟨some 65, .binOp .eql 29 (.tmp 64) (.const (.int .i64 0)) 29, none⟩,
  ⟨some 66, .move (.tmp 65), none⟩,
  ⟨some 67, .move (.tmp 16), some (2, true)⟩,
  ⟨some 68, .binOp .eql 29 (.tmp 67) (.const (.int .i64 0)) 29, some (2, true)⟩,
  ⟨some 69, .pick (.tmp 66) (.tmp 68) (.const (.bool false)), none⟩,
  ⟨some 70, .move (.tmp 69), none⟩,
  ⟨some 71, .load 28 (.tmp 11), some (6, true)⟩,
  ⟨some 72, .load 28 (.tmp 5), some (6, true)⟩,
  ⟨some 73, .call { callee := .value (.func 17), args := #[.tmp 71, .tmp 72], argTypes := #[28, 28] }, some (6, true)⟩,
  ⟨some 74, .pick (.tmp 70) (.tmp 73) (.const (.bool false)), none⟩,
  ⟨some 75, .move (.tmp 74), none⟩,
  ⟨some 76, .load 28 (.tmp 14), some (11, true)⟩,
  ⟨some 77, .load 28 (.tmp 5), some (11, true)⟩,
  ⟨some 78, .load 28 (.tmp 8), some (11, true)⟩,
  ⟨some 79, .call { callee := .value (.func 19), args := #[.const (.int .u8 5), .tmp 77, .tmp 78], argTypes := #[5, 28, 28] }, some (11, true)⟩,
  ⟨some 80, .call { callee := .value (.func 17), args := #[.tmp 76, .tmp 79], argTypes := #[28, 28] }, some (11, true)⟩,
  ⟨some 81, .pick (.tmp 75) (.tmp 80) (.const (.bool false)), none⟩,
  ⟨some 82, .move (.tmp 81), none⟩,
  ⟨some 83, .call { callee := .value (.func 14), args := #[], argTypes := #[] }, some (18, true)⟩,
  ⟨some 84, .pick (.tmp 82) (.tmp 83) (.const (.bool false)), none⟩,
  ⟨some 4, .assign (.tmp 84), none⟩]
def f5_c : LC := (.seq (.reg f5_r0 [] none) (.seq (.seq (.reg f5_r1 [] none) (.cond (.tmp 24) (.seq (.reg f5_r2 [] none) .ret) .skip)) (.seq (.reg f5_r3 [] none) (.seq (.reg f5_r4 [] none) (.seq (.seq (.reg f5_r5 [] none) (.cond (.tmp 43) (.seq (.reg f5_r6 [] none) .ret) .skip)) (.seq (.reg f5_r7 [] none) (.seq (.reg f5_r8 [] none) (.seq (.reg f5_r9 [] (some 21)) .ret))))))))
theorem f5_lc : Try.f5.body.map lc = some f5_c.st := by kernel_rfl
theorem f5_res : Try.f5.results.toList = [.tmp 4] := by kernel_rfl
theorem f5_nt : Try.f5.ntmps = 85 := by kernel_rfl
theorem f5_nm : (Try.f5.name == "runtime.NumGoroutine") = false := by kernel_rfl

/-! quill/quilllaw06.ReadAll -/
def f6_r0 : List LOp := [
  ⟨some 2, .assign (.const (.bool false)), none⟩]
def f6_r1 : List LOp := [
  ⟨some 14, .move (.tmp 0), none⟩,
  ⟨some 15, .call { callee := .builtin .len, args := #[.tmp 14], argTypes := #[41] }, none⟩,
  ⟨some 16, .binOp .gtr 3 (.tmp 15) (.const (.int .i64 20)) 3, none⟩]
def f6_r2 : List LOp := [
  ⟨some 17, .call { callee := .value (.func 14), args := #[], argTypes := #[] }, none⟩,
  ⟨some 2, .assign (.tmp 17), none⟩]
def f6_r3 : List LOp := [
  ⟨some 18, .buildSlice 26 0 #[], none⟩,
  ⟨some 3, .assign (.tmp 18), none⟩]
def f6_r4 : List LOp := [
  ⟨some 4, .assign (.const (.int .i64 0)), none⟩,
  ⟨some 5, .assign (.const (.int .i64 0)), none⟩]
def f6_r5 : List LOp := [
  ⟨some 6, .assign (.const (.int .i64 0)), none⟩]
def f6_r6 : List LOp := [
  ⟨some 19, .move (.tmp 6), none⟩,
  ⟨some 20, .move (.tmp 0), none⟩,
  ⟨some 21, .call { callee := .builtin .len, args := #[.tmp 20], argTypes := #[41] }, none⟩,
  ⟨some 22, .binOp .lss 3 (.tmp 19) (.tmp 21) 3, none⟩]
def f6_r7 : List LOp := [
  ⟨some 25, .move (.tmp 0), none⟩,
  ⟨some 26, .move (.tmp 6), none⟩,
  ⟨some 27, .indexAddr 41 (.tmp 25) (.tmp 26), none⟩,
  ⟨some 28, .load 9 (.tmp 27), none⟩,
  ⟨some 29, .call { callee := .builtin .len, args := #[.tmp 28], argTypes := #[9] }, none⟩,
  ⟨some 30, .binOp .gtr 3 (.tmp 29) (.const (.int .i64 200)) 3, none⟩]
def f6_r8 : List LOp := [
  ⟨some 31, .call { callee := .value (.func 14), args := #[], argTypes := #[] }, none⟩,
  ⟨some 2, .assign (.tmp 31), none⟩]
def f6_r9 : List LOp := [
  ⟨some 33, .move (.tmp 0), none⟩,
  ⟨some 34, .move (.tmp 6), none⟩,
  ⟨some 35, .indexAddr 41 (.tmp 33) (.tmp 34), none⟩,
  ⟨some 36, .load 9 (.tmp 35), none⟩,
  ⟨some 37, .call { callee := .value (.func 16), args := #[.tmp 36], argTypes := #[9] }, none⟩,
  ⟨some 32, .move (.tmp 37), none⟩,
  ⟨some 38, .extract (.tmp 32) 0, none⟩,
  ⟨some 39, .extract (.tmp 32) 1, none⟩,
  ⟨some 40, .extract (.tmp 32) 2, none⟩,
  ⟨some 7, .alloc 28, none⟩,
  ⟨none, .store 28 (.tmp 7) (.tmp 38), none⟩,
  ⟨some 8, .assign (.tmp 39), none⟩,
  ⟨some 9, .assign (.tmp 40), none⟩]
def f6_r10 : List LOp := [
  ⟨some 41, .move (.tmp 5), none⟩,
  ⟨some 42, .binOp .eql 3 (.tmp 41) (.const (.int .i64 0)) 3, none⟩,
  ⟨some 43, .move (.tmp 42), none⟩,
  ⟨some 44, .move (.tmp 9), some (2, true)⟩,
  ⟨some 45, .binOp .neq 3 (.tmp 44) (.const (.int .i64 0)) 3, some (2, true)⟩,
  ⟨some 46, .pick (.tmp 43) (.tmp 45) (.const (.bool false)), none⟩]
def f6_r11 : List LOp := [
  ⟨some 47, .move (.tmp 6), none⟩,
  ⟨some 48, .move (.tmp 9), none⟩,
  ⟨some 4, .assign (.tmp 47), none⟩,
  ⟨some 5, .assign (.tmp 48), none⟩]
def f6_r12 : List LOp := [
  ⟨some 49, .move (.tmp 3), none⟩,
  ⟨some 50, .load 28 (.tmp 7), none⟩,
  ⟨some 51, .buildSlice 26 1 #[(0, .tmp 50)], none⟩,
  ⟨some 52, .call { callee := .builtin .append, args := #[.tmp 49, .tmp 51], argTypes := #[26, 26] }, none⟩,
  ⟨some 3, .assign (.tmp 52), none⟩]
def f6_r13 : List LOp := [
  ⟨some 23, .move (.tmp 6), none⟩,
  ⟨some 24, .binOp .add 3 (.tmp 23) (.const (.int .i64 1)) 3, none⟩,
  ⟨some 6, .assign (.tmp 24), none⟩]
def f6_l14 : LC := (.seq (.seq (.reg f6_r6 [] none) (.cond (.tmp 22) .skip (.exit 0))) (.seq (.block 1 (.seq (.seq (.reg f6_r7 [] none) (.cond (.tmp 30) (.seq (.reg f6_r8 [] none) .ret) .skip)) (.seq (.reg f6_r9 [] none) (.seq (.seq (.reg f6_r10 [] none) (.cond (.tmp 46) (.reg f6_r11 [] none) .skip)) (.reg f6_r12 [] none))))) (.reg f6_r13 [] none)))
def f6_i14 (t0 t3 t4 t5 t6 : D) : List D := [t0, .any, .any, t3, t4, t5, t6, .any, .any, .any, .any, .any, .any, .any, .any, .any, .any, .any, .any, .any, .any, .any, .any, .any, .any, .any, .any, .any, .any, .any, .any, .any, .any, .any, .any, .any, .any, .any, .any, .any, .any, .any, .any, .any, .any, .any, .any, .any, .any, .any, .any, .any, .any, .any, .any, .any, .any, .any, .any, .any, .any, .any, .any, .any, .any, .any, .any, .any, .any, .any, .any, .any, .any, .any, .any, .any, .any, .any, .any, .any, .any, .any, .any, .any, .any, .any, .any, .any, .any, .any, .any, .any, .any, .any, .any, .any, .any, .any, .any, .any, .any, .any, .any, .any]
def f6_r15 : List LOp := [
  ⟨some 54, .move (.tmp 0), none⟩,
  ⟨some 55, .call { callee := .value (.func 20), args := #[.tmp 54], argTypes := #[41] }, none⟩,
  ⟨some 53, .move (.tmp 55), none⟩,
  ⟨some 56, .extract (.tmp 53) 0, none⟩,
  ⟨some 57, .extract (.tmp 53) 1, none⟩,
  ⟨some 58, .extract (.tmp 53) 2, none⟩,
  ⟨some 10, .assign (.tmp 56), none⟩,
  ⟨some 11, .assign (.tmp 57), none⟩,
  ⟨some 12, .assign (.tmp 58), none⟩]
def f6_r16 : List LOp := [
  ⟨some 59, .move (.tmp 12), none⟩,
  ⟨some 60, .move (.tmp 5), none⟩,
  ⟨some 61, .binOp .neq 3 (.tmp 59) (.tmp 60) 3, none⟩,
  ⟨some 62, .move (.tmp 61), none⟩,
  ⟨some 63, .move (.tmp 11), some (3, false)⟩,
  ⟨some 64, .move (.tmp 4), some (3, false)⟩,
  ⟨some 65, .binOp .neq 3 (.tmp 63) (.tmp 64) 3, some (3, false)⟩,
  ⟨some 66, .pick (.tmp 62) (.const (.bool true)) (.tmp 65), none⟩,
  ⟨some 67, .move (.tmp 66), none⟩,
  ⟨some 68, .move (.tmp 0), some (8, false)⟩,
  ⟨some 69, .call { callee := .value (.func 18), args := #[.tmp 68], argTypes := #[41] }, some (8, false)⟩,
  ⟨some 70, .move (.tmp 5), some (8, false)⟩,
  ⟨some 71, .binOp .eql 3 (.tmp 70) (.const (.int .i64 0)) 3, some (8, false)⟩,
  ⟨some 72, .binOp .neq 4 (.tmp 69) (.tmp 71) 4, some (8, false)⟩,
  ⟨some 73, .pick (.tmp 67) (.const (.bool true)) (.tmp 72), none⟩]
def f6_r17 : List LOp := [
  ⟨some 2, .assign (.const (.bool false)), none⟩]
def f6_r18 : List LOp := [
  ⟨some 74, .move (.tmp 5), none⟩,
  ⟨some 75, .binOp .neq 3 (.tmp 74) (.const (.int .i64 0)) 3, none⟩]
def f6_r19 : List LOp := [
  ⟨some 76, .move (.tmp 10), none⟩,
  ⟨some 77, .call { callee := .builtin .len, args := #[.tmp 76], argTypes := #[26] }, none⟩,
  ⟨some 78, .binOp .eql 3 (.tmp 77) (.const (.int .i64 0)) 3, none⟩,
  ⟨some 79, .move (.tmp 78), none⟩,
  ⟨some 80, .call { callee := .value (.func 14), args := #[], argTypes := #[] }, some (3, true)⟩,
  ⟨some 81, .pick (.tmp 79) (.tmp 80) (.const (.bool false)), none⟩,
  ⟨some 2, .assign (.tmp 81), none⟩]
def f6_r20 : List LOp := [
  ⟨some 82, .move (.tmp 10), none⟩,
  ⟨some 83, .call { callee := .builtin .len, args := #[.tmp 82], argTypes := #[26] }, none⟩,
  ⟨some 84, .move (.tmp 3), none⟩,
  ⟨some 85, .call { callee := .builtin .len, args := #[.tmp 84], argTypes := #[26] }, none⟩,
  ⟨some 86, .binOp .neq 3 (.tmp 83) (.tmp 85) 3, none⟩]
def f6_r21 : List LOp := [
  ⟨some 2, .assign (.const (.bool false)), none⟩]
def f6_r22 : List LOp := [
  ⟨some 13, .assign (.const (.int .i64 0)), none⟩]
def f6_r23 : List LOp := [
  ⟨some 87, .move (.tmp 13), none⟩,
  ⟨some 88, .move (.tmp 10), none⟩,
  ⟨some 89, .call { callee := .builtin .len, args := #[.tmp 88], argTypes := #[26] }, none⟩,
  ⟨some 90, .binOp .lss 3 (.tmp 87) (.tmp 89) 3, none⟩]
def f6_r24 : List LOp := [
  ⟨some 93, .move (.tmp 10), none⟩,
  ⟨some 94, .move (.tmp 13), none⟩,
  ⟨some 95, .indexAddr 26 (.tmp 93) (.tmp 94), none⟩,
  ⟨some 96, .load 28 (.tmp 95), none⟩,
  ⟨some 97, .move (.tmp 3), none⟩,
  ⟨some 98, .move (.tmp 13), none⟩,
  ⟨some 99, .indexAddr 26 (.tmp 97) (.tmp 98), none⟩,
  ⟨some 100, .load 28 (.tmp 99), none⟩,
  ⟨some 101, .call { callee := .value (.func 17), args := #[.tmp 96, .tmp 100], argTypes := #[28, 28] }, none⟩,
  ⟨some 102, .unOp .not 4 (.tmp 101), none⟩]
def f6_r25 : List LOp := [
  ⟨some 2, .assign (.const (.bool false)), none⟩]
def f6_r26 : List LOp := [
  ⟨some 91, .move (.tmp 13), none⟩,
  ⟨some 92, .binOp .add 3 (.tmp 91) (.const (.int .i64 1)) 3, none⟩,
  ⟨some 13, .assign (.tmp 92), none⟩]
def f6_l27 : LC := (.seq (.seq (.reg f6_r23 [] none) (.cond (.tmp 90) .skip (.exit 2))) (.seq (.block 3 (.seq (.reg f6_r24 [] (some 8)) (.cond (.tmp 102) (.seq (.reg f6_r25 [] none) .ret) .skip))) (.reg f6_r26 [] none)))
def f6_i27 (t3 t10 t13 : D) : List D := [.any, .any, .any, t3, .any, .any, .any, .any, .any, .any, t10, .any, .any, t13, .any, .any, .any, .any, .any, .any, .any, .any, .any, .any, .any, .any, .any, .any, .any, .any, .any, .any, .any, .any, .any, .any, .any, .any, .any, .any, .any, .any, .any, .any, .any, .any, .any, .any, .any, .any, .any, .any, .any, .any, .any, .any, .any, .any, .any, .any, .any, .any, .any, .any, .any, .any, .any, .any, .any, .any, .any, .any, .any, .any, .any, .any, .any, .any, .any, .any, .any, .any, .any, .any, .any, .any, .any, .any, .any, .any, .any, .any, .any, .any, .any, .any, .any, .any, .any, .any, .any, .any, .any, .any]
def f6_r28 : List LOp := [
  ⟨some 103, .call { callee := .value (.func 14), args := #[], argTypes := #[] }, none⟩,
  ⟨some 2, .assign (.tmp 103), none⟩]
def f6_c : LC := (.seq (.reg f6_r0 [] none) (.seq (.seq (.reg f6_r1 [] none) (.cond (.tmp 16) (.seq (.reg f6_r2 [] none) .ret) .skip)) (.seq (.reg f6_r3 [0] none) (.seq (.reg f6_r4 [] none) (.seq (.seq (.reg f6_r5 [] none) (.block 0 (.loop f6_l14))) (.seq (.reg f6_r15 [] none) (.seq (.seq (.reg f6_r16 [] none) (.cond (.tmp 73) (.seq (.reg f6_r17 [] none) .ret) .skip)) (.seq (.seq (.reg f6_r18 [] none) (.cond (.tmp 75) (.seq (.reg f6_r19 [] none) .ret) .skip)) (.seq (.seq (.reg f6_r20 [] none) (.cond (.tmp 86) (.seq (.reg f6_r21 [] none) .ret) .skip)) (.seq (.seq (.reg f6_r22 [] none) (.block 2 (.loop f6_l27))) (.seq (.reg f6_r28 [] none) .ret)))))))))))
theorem f6_lc : Try.f6.body.map lc = some f6_c.st := by kernel_rfl
theorem f6_res : Try.f6.results.toList = [.tmp 2] := by kernel_rfl
theorem f6_nt : Try.f6.ntmps = 104 := by kernel_rfl
theorem f6_nm : (Try.f6.name == "runtime.NumGoroutine") = false := by kernel_rfl

/-! quill/quilllaw06.awake -/
def f14_r0 : List LOp := [
  ⟨some 0, .assign (.const (.bool false)), none⟩]
def f14_r1 : List LOp := [
  ⟨some 5, .call { callee := .value (.func 15), args := #[.const (.string { data := #[97, 40, 98, 124] })], argTypes := #[9] }, none⟩,
  ⟨some 4, .move (.tmp 5), none⟩,
  ⟨some 6, .extract (.tmp 4) 0, none⟩,
  ⟨some 7, .extract (.tmp 4) 1, none⟩,
  ⟨some 8, .extract (.tmp 4) 2, none⟩,
  ⟨some 1, .alloc 28, none⟩,
  ⟨none, .store 28 (.tmp 1) (.tmp 6), none⟩,
  ⟨some 2, .assign (.tmp 7), none⟩,
  ⟨some 3, .assign (.tmp 8), none⟩]
def f14_r2 : List LOp := [
  ⟨some 9, .move (.tmp 3), none⟩,
  ⟨some 10, .binOp .eql 29 (.tmp 9) (.const (.int .i64 2)) 29, none⟩,
  ⟨some 11, .move (.tmp 10), none⟩,
  ⟨some 12, .move (.tmp 2), some (2, true)⟩,
  ⟨some 13, .binOp .eql 3 (.tmp 12) (.const (.int .i64 4)) 3, some (2, true)⟩,
  ⟨some 14, .pick (.tmp 11) (.tmp 13) (.const (.bool false)), none⟩,
  ⟨some 15, .move (.tmp 14), none⟩,
  ⟨some 16, .buildSlice 41 1 #[(0, .const (.string { data := #[97, 40, 98, 124, 99, 41, 97, 42] }))], some (6, true)⟩,
  ⟨some 17, .call { callee := .value (.func 18), args := #[.tmp 16], argTypes := #[41] }, some (6, true)⟩,
  ⟨some 18, .pick (.tmp 15) (.tmp 17) (.const (.bool false)), none⟩,
  ⟨some 0, .assign (.tmp 18), none⟩]
def f14_c : LC := (.seq (.reg f14_r0 [] none) (.seq (.reg f14_r1 [] none) (.seq (.reg f14_r2 [] none) .ret)))
theorem f14_lc : Try.f14.body.map lc = some f14_c.st := by kernel_rfl
theorem f14_res : Try.f14.results.toList = [.tmp 0] := by kernel_rfl
theorem f14_nt : Try.f14.ntmps = 19 := by kernel_rfl
theorem f14_nm : (Try.f14.name == "runtime.NumGoroutine") = false := by kernel_rfl

/-! quill/read.Read -/
def f15_r0 : List LOp := [
  ⟨some 2, .alloc 28, none⟩,
  ⟨some 3, .assign (.const (.int .i64 0)), none⟩,
  ⟨some 4, .assign (.const (.int .i64 0)), none⟩]
def f15_r1 : List LOp := [
  ⟨some 8, .move (.tmp 0), none⟩,
  ⟨some 9, .call { callee := .builtin .len, args := #[.tmp 8], argTypes := #[9] }, none⟩,
  ⟨some 10, .binOp .gtr 3 (.tmp 9) (.const (.int .i64 65536)) 3, none⟩]
def f15_r2 : List LOp := [
  ⟨some 11, .build 28 #[], none⟩,
  ⟨none, .store 28 (.tmp 2) (.tmp 11), none⟩,
  ⟨some 3, .assign (.const (.int .i64 0)), none⟩,
  ⟨some 4, .assign (.const (.int .i64 3)), none⟩]
def f15_r3 : List LOp := [
  ⟨some 13, .move (.tmp 0), none⟩,
  ⟨some 14, .build 69 #[(0, .tmp 13)], none⟩,
  ⟨some 15, .box 69 (.tmp 14), none⟩,
  ⟨some 16, .call { callee := .value (.func 45), args := #[.tmp 15], argTypes := #[67] }, none⟩,
  ⟨some 12, .move (.tmp 16), none⟩,
  ⟨some 17, .extract (.tmp 12) 0, none⟩,
  ⟨some 18, .extract (.tmp 12) 1, none⟩,
  ⟨some 19, .extract (.tmp 12) 2, none⟩,
  ⟨some 5, .alloc 28, none⟩,
  ⟨none, .store 28 (.tmp 5) (.tmp 17), none⟩,
  ⟨some 6, .assign (.tmp 18), none⟩,
  ⟨some 7, .assign (.tmp 19), none⟩]
def f15_r4 : List LOp := [
  ⟨some 20, .move (.tmp 7), none⟩,
  ⟨some 21, .binOp .eql 29 (.tmp 20) (.const (.int .i64 0)) 29, none⟩,
  ⟨some 22, .move (.tmp 21), none⟩,
  ⟨some 23, .load 28 (.tmp 5), some (2, true)⟩,
  ⟨some 24, .buildSlice 26 1 #[(0, .tmp 23)], some (2, true)⟩,
  ⟨some 25, .call { callee := .value (.func 46), args := #[.tmp 24], argTypes := #[26] }, some (2, true)⟩,
  ⟨some 26, .unOp .not 4 (.tmp 25), some (2, true)⟩,
  ⟨some 27, .pick (.tmp 22) (.tmp 26) (.const (.bool false)), none⟩]
def f15_r5 : List LOp := [
  ⟨some 28, .build 28 #[], none⟩,
  ⟨none, .store 28 (.tmp 2) (.tmp 28), none⟩,
  ⟨some 3, .assign (.const (.int .i64 0)), none⟩,
  ⟨some 4, .assign (.const (.int .i64 4)), none⟩]
def f15_r6 : List LOp := [
  ⟨some 29, .load 28 (.tmp 5), none⟩,
  ⟨some 30, .move (.tmp 6), none⟩,
  ⟨some 31, .move (.tmp 7), none⟩,
  ⟨none, .store 28 (.tmp 2) (.tmp 29), none⟩,
  ⟨some 3, .assign (.tmp 30), none⟩,
  ⟨some 4, .assign (.tmp 31), none⟩]
def f15_c : LC := (.seq (.reg f15_r0 [] none) (.seq (.seq (.reg f15_r1 [] none) (.cond (.tmp 10) (.seq (.reg f15_r2 [] none) .ret) .skip)) (.seq (.reg f15_r3 [2] none) (.seq (.seq (.reg f15_r4 [] none) (.cond (.tmp 27) (.seq (.reg f15_r5 [] none) .ret) .skip)) (.seq (.reg f15_r6 [] none) .ret)))))
theorem f15_lc : Try.f15.body.map lc = some f15_c.st := by kernel_rfl
theorem f15_res : Try.f15.results.toList = [.cell 2 28, .tmp 3, .tmp 4] := by kernel_rfl
theorem f15_nt : Try.f15.ntmps = 32 := by kernel_rfl
theorem f15_nm : (Try.f15.name == "runtime.NumGoroutine") = false := by kernel_rfl

/-! quill/quillref06.Read -/
def f16_r0 : List LOp := [
  ⟨some 2, .alloc 28, none⟩,
  ⟨some 3, .assign (.const (.int .i64 0)), none⟩,
  ⟨some 4, .assign (.const (.int .i64 0)), none⟩]
def f16_r1 : List LOp := [
  ⟨some 7, .build 28 #[], none⟩,
  ⟨some 5, .alloc 28, none⟩,
  ⟨none, .store 28 (.tmp 5) (.tmp 7), none⟩]
def f16_r2 : List LOp := [
  ⟨some 8, .move (.tmp 0), none⟩,
  ⟨some 9, .call { callee := .builtin .len, args := #[.tmp 8], argTypes := #[9] }, none⟩,
  ⟨some 10, .binOp .gtr 3 (.tmp 9) (.const (.int .i64 65536)) 3, none⟩]
def f16_r3 : List LOp := [
  ⟨some 11, .load 28 (.tmp 5), none⟩,
  ⟨none, .store 28 (.tmp 2) (.tmp 11), none⟩,
  ⟨some 3, .assign (.const (.int .i64 0)), none⟩,
  ⟨some 4, .assign (.const (.int .i64 3)), none⟩]
def f16_r4 : List LOp := [
  ⟨some 12, .move (.tmp 0), none⟩,
  ⟨some 13, .call { callee := .value (.func 47), args := #[.tmp 12, .const (.int .i64 0)], argTypes := #[9, 3] }, none⟩,
  ⟨some 6, .alloc 72, none⟩,
  ⟨none, .store 72 (.tmp 6) (.tmp 13), none⟩]
def f16_r5 : List LOp := [
  ⟨some 14, .fieldAddr 72 (.tmp 6) 2, none⟩,
  ⟨some 15, .load 4 (.tmp 14), none⟩]
def f16_r6 : List LOp := [
  ⟨some 16, .load 28 (.tmp 5), none⟩,
  ⟨some 17, .fieldAddr 72 (.tmp 6) 1, none⟩,
  ⟨some 18, .load 3 (.tmp 17), none⟩,
  ⟨none, .store 28 (.tmp 2) (.tmp 16), none⟩,
  ⟨some 3, .assign (.tmp 18), none⟩,
  ⟨some 4, .assign (.const (.int .i64 2)), none⟩]
def f16_r7 : List LOp := [
  ⟨some 19, .fieldAddr 72 (.tmp 6) 1, none⟩,
  ⟨some 20, .load 3 (.tmp 19), none⟩,
  ⟨some 21, .move (.tmp 0), none⟩,
  ⟨some 22, .call { callee := .builtin .len, args := #[.tmp 21], argTypes := #[9] }, none⟩,
  ⟨some 23, .binOp .lss 3 (.tmp 20) (.tmp 22) 3, none⟩]
def f16_r8 : List LOp := [
  ⟨some 24, .load 28 (.tmp 5), none⟩,
  ⟨some 25, .fieldAddr 72 (.tmp 6) 1, none⟩,
  ⟨some 26, .load 3 (.tmp 25), none⟩,
  ⟨none, .store 28 (.tmp 2) (.tmp 24), none⟩,
  ⟨some 3, .assign (.tmp 26), none⟩,
  ⟨some 4, .assign (.const (.int .i64 2)), none⟩]
def f16_r9 : List LOp := [
  ⟨some 27, .fieldAddr 72 (.tmp 6) 0, none⟩,
  ⟨some 28, .load 28 (.tmp 27), none⟩,
  ⟨some 29, .call { callee := .value (.func 30), args := #[.tmp 28], argTypes := #[28] }, none⟩,
  ⟨some 30, .unOp .not 4 (.tmp 29), none⟩]
def f16_r10 : List LOp := [
  ⟨some 31, .load 28 (.tmp 5), none⟩,
  ⟨none, .store 28 (.tmp 2) (.tmp 31), none⟩,
  ⟨some 3, .assign (.const (.int .i64 0)), none⟩,
  ⟨some 4, .assign (.const (.int .i64 4)), none⟩]
def f16_r11 : List LOp := [
  ⟨some 32, .fieldAddr 72 (.tmp 6) 0, none⟩,
  ⟨some 33, .load 28 (.tmp 32), none⟩,
  ⟨none, .store 28 (.tmp 2) (.tmp 33), none⟩,
  ⟨some 3, .assign (.const (.int .i64 0)), none⟩,
  ⟨some 4, .assign (.const (.int .i64 0)), none⟩]
def f16_c : LC := (.seq (.reg f16_r0 [] none) (.seq (.reg f16_r1 [] none) (.seq (.seq (.reg f16_r2 [] none) (.cond (.tmp 10) (.seq (.reg f16_r3 [] none) .ret) .skip)) (.seq (.reg f16_r4 [] none) (.seq (.seq (.reg f16_r5 [] none) (.cond (.tmp 15) (.seq (.regq f16_r6 [] 0 (.both (.op 0 (.both (.op 1 (.both (.op 2 (.op 3 (.op 4 (.op 5 .done)))) (.op 3 (.op 2 (.op 4 (.op 5 .done)))))) (.op 3 (.op 1 (.op 2 (.op 4 (.op 5 .done))))))) (.op 1 (.both (.op 0 (.both (.op 2 (.op 3 (.op 4 (.op 5 .done)))) (.op 3 (.op 2 (.op 4 (.op 5 .done)))))) (.op 2 (.op 0 (.op 3 (.op 4 (.op 5 .done))))))))) .ret) .skip)) (.seq (.seq (.reg f16_r7 [] none) (.cond (.tmp 23) (.seq (.regq f16_r8 [] 0 (.both (.op 0 (.both (.op 1 (.both (.op 2 (.op 3 (.op 4 (.op 5 .done)))) (.op 3 (.op 2 (.op 4 (.op 5 .done)))))) (.op 3 (.op 1 (.op 2 (.op 4 (.op 5 .done))))))) (.op 1 (.both (.op 0 (.both (.op 2 (.op 3 (.op 4 (.op 5 .done)))) (.op 3 (.op 2 (.op 4 (.op 5 .done)))))) (.op 2 (.op 0 (.op 3 (.op 4 (.op 5 .done))))))))) .ret) .skip)) (.seq (.seq (.reg f16_r9 [] none) (.cond (.tmp 30) (.seq (.reg f16_r10 [] none) .ret) .skip)) (.seq (.reg f16_r11 [] none) .ret))))))))
theorem f16_lc : Try.f16.body.map lc = some f16_c.st := by kernel_rfl
theorem f16_res : Try.f16.results.toList = [.cell 2 28, .tmp 3, .tmp 4] := by kernel_rfl
theorem f16_nt : Try.f16.ntmps = 34 := by kernel_rfl
theorem f16_nm : (Try.f16.name == "runtime.NumGoroutine") = false := by kernel_rfl

/-! quill/quillref03.Same -/
def f17_r0 : List LOp := [
  ⟨some 2, .box 28 (.tmp 0), none⟩,
  ⟨some 3, .box 28 (.tmp 1), none⟩,
  ⟨some 4, .assign (.const (.bool false)), none⟩]
def f17_r1 : List LOp := [
  ⟨some 6, .fieldAddr 28 (.tmp 2) 0, none⟩,
  ⟨some 7, .load 5 (.tmp 6), none⟩,
  ⟨some 8, .fieldAddr 28 (.tmp 3) 0, none⟩,
  ⟨some 9, .load 5 (.tmp 8), none⟩,
  ⟨some 10, .binOp .neq 5 (.tmp 7) (.tmp 9) 5, none⟩,
  ⟨some 11, .move (.tmp 10), none⟩,
  ⟨some 12, .fieldAddr 28 (.tmp 2) 1, some (5, false)⟩,
  ⟨some 13, .load 25 (.tmp 12), some (5, false)⟩,
  ⟨some 14, .fieldAddr 28 (.tmp 3) 1, some (5, false)⟩,
  ⟨some 15, .load 25 (.tmp 14), some (5, false)⟩,
  ⟨some 16, .binOp .neq 25 (.tmp 13) (.tmp 15) 25, some (5, false)⟩,
  ⟨some 17, .pick (.tmp 11) (.const (.bool true)) (.tmp 16), none⟩,
  ⟨some 18, .move (.tmp 17), none⟩,
  ⟨some 19, .fieldAddr 28 (.tmp 2) 2, some (12, false)⟩,
  ⟨some 20, .load 26 (.tmp 19), some (12, false)⟩,
  ⟨some 21, .call { callee := .builtin .len, args := #[.tmp 20], argTypes := #[26] }, some (12, false)⟩,
  ⟨some 22, .fieldAddr 28 (.tmp 3) 2, some (12, false)⟩,
  ⟨some 23, .load 26 (.tmp 22), some (12, false)⟩,
  ⟨some 24, .call { callee := .builtin .len, args := #[.tmp 23], argTypes := #[26] }, some (12, false)⟩,
  ⟨some 25, .binOp .neq 3 (.tmp 21) (.tmp 24) 3, some (12, false)⟩,
  ⟨some 26, .pick (.tmp 18) (.const (.bool true)) (.tmp 25), none⟩]
def f17_r2 : List LOp := [
  ⟨some 4, .assign (.const (.bool false)), none⟩]
def f17_r3 : List LOp := [
  ⟨some 27, .fieldAddr 28 (.tmp 2) 2, none⟩,
  ⟨some 28, .load 26 (.tmp 27), none⟩,
  ⟨some 29, .call { callee := .builtin .len, args := #[.tmp 28], argTypes := #[26] }, none⟩,
  ⟨some 30, .move (.const (.int .i64 0)), none⟩]
def f17_r4 : List LOp := [
  ⟨some 31, .binOp .lss 3 (.tmp 30) (.tmp 29) 3, none⟩]
def f17_r5 : List LOp := [
  ⟨some 32, .move (.tmp 30), none⟩,
  ⟨some 5, .assign (.tmp 32), none⟩]
def f17_r6 : List LOp := [
  ⟨some 33, .fieldAddr 28 (.tmp 2) 2, none⟩,
  ⟨some 34, .load 26 (.tmp 33), none⟩,
  ⟨some 35, .move (.tmp 5), none⟩,
  ⟨some 36, .indexAddr 26 (.tmp 34) (.tmp 35), none⟩,
  ⟨some 37, .load 28 (.tmp 36), none⟩,
  ⟨some 38, .fieldAddr 28 (.tmp 3) 2, none⟩,
  ⟨some 39, .load 26 (.tmp 38), none⟩,
  ⟨some 40, .move (.tmp 5), none⟩,
  ⟨some 41, .indexAddr 26 (.tmp 39) (.tmp 40), none⟩,
  ⟨some 42, .load 28 (.tmp 41), none⟩,
  ⟨some 43, .call { callee := .value (.func 17), args := #[.tmp 37, .tmp 42], argTypes := #[28, 28] }, none⟩,
  ⟨some 44, .unOp .not 4 (.tmp 43), none⟩]
def f17_r7 : List LOp := [
  ⟨some 4, .assign (.const (.bool false)), none⟩]
def f17_r8 : List LOp := [
  ⟨some 45, .binOp .add 3 (.tmp 30) (.const (.int .i64 1)) 3, none⟩,
  ⟨some 30, .move (.tmp 45), none⟩]
def f17_l9 : LC := (.seq (.reg f17_r4 [] none) (.seq (.cond (.tmp 31) .skip (.exit 0)) (.seq (.block 1 (.seq (.reg f17_r5 [] none) (.seq (.reg f17_r6 [] (some 10)) (.cond (.tmp 44) (.seq (.reg f17_r7 [] none) .ret) .skip)))) (.reg f17_r8 [] none))))
def f17_i9 (t2 t3 t29 t30 : D) : List D := [.any, .any, t2, t3, .any, .any, .any, .any, .any, .any, .any, .any, .any, .any, .any, .any, .any, .any, .any, .any, .any, .any, .any, .any, .any, .any, .any, .any, .any, t29, t30, .any, .any, .any, .any, .any, .any, .any, .any, .any, .any, .any, .any, .any, .any, .any]
def f17_r10 : List LOp := [
  ⟨some 4, .assign (.const (.bool true)), none⟩]
def f17_c : LC := (.seq (.reg f17_r0 [] none) (.seq (.seq (.reg f17_r1 [] none) (.cond (.tmp 26) (.seq (.reg f17_r2 [] none) .ret) .skip)) (.seq (.seq (.reg f17_r3 [] none) (.block 0 (.loop f17_l9))) (.seq (.reg f17_r10 [] none) .ret))))
theorem f17_lc : Try.f17.body.map lc = some f17_c.st := by kernel_rfl
theorem f17_res : Try.f17.results.toList = [.tmp 4] := by kernel_rfl
theorem f17_nt : Try.f17.ntmps = 46 := by kernel_rfl
theorem f17_nm : (Try.f17.name == "runtime.NumGoroutine") = false := by kernel_rfl

/-! quill/read.Form -/
def f18_r0 : List LOp := [
  ⟨some 2, .assign (.const (.bool false)), none⟩]
def f18_r1 : List LOp := [
  ⟨some 3, .move (.tmp 0), none⟩,
  ⟨some 4, .call { callee := .value (.func 48), args := #[.tmp 3, .func 49], argTypes := #[41, 36] }, none⟩,
  ⟨some 5, .unOp .not 4 (.tmp 4), none⟩,
  ⟨some 2, .assign (.tmp 5), none⟩]
def f18_c : LC := (.seq (.reg f18_r0 [] none) (.seq (.reg f18_r1 [] none) .ret))
theorem f18_lc : Try.f18.body.map lc = some f18_c.st := by kernel_rfl
theorem f18_res : Try.f18.results.toList = [.tmp 2] := by kernel_rfl
theorem f18_nt : Try.f18.ntmps = 6 := by kernel_rfl
theorem f18_nm : (Try.f18.name == "runtime.NumGoroutine") = false := by kernel_rfl

/-! quill/quillref03.Two -/
def f19_r0 : List LOp := [
  ⟨some 4, .box 28 (.tmp 1), none⟩,
  ⟨some 5, .box 28 (.tmp 2), none⟩,
  ⟨some 6, .alloc 28, none⟩]
def f19_r1 : List LOp := [
  ⟨some 7, .move (.tmp 0), none⟩,
  ⟨some 8, .load 28 (.tmp 4), none⟩,
  ⟨some 9, .load 28 (.tmp 5), none⟩,
  ⟨some 10, .buildSlice 26 2 #[(0, .tmp 8), (1, .tmp 9)], none⟩,
  ⟨some 11, .build 28 #[(0, .tmp 7), (2, .tmp 10)], none⟩,
  ⟨none, .store 28 (.tmp 6) (.tmp 11), none⟩]
def f19_c : LC := (.seq (.reg f19_r0 [] none) (.seq (.reg f19_r1 [] none) .ret))
theorem f19_lc : Try.f19.body.map lc = some f19_c.st := by kernel_rfl
theorem f19_res : Try.f19.results.toList = [.cell 6 28] := by kernel_rfl
theorem f19_nt : Try.f19.ntmps = 12 := by kernel_rfl
theorem f19_nm : (Try.f19.name == "runtime.NumGoroutine") = false := by kernel_rfl

/-! quill/read.All -/
def f20_r0 : List LOp := [
  ⟨some 2, .assign (.const (.slice none 0 0)), none⟩,
  ⟨some 3, .assign (.const (.int .i64 0)), none⟩,
  ⟨some 4, .assign (.const (.int .i64 0)), none⟩]
def f20_r1 : List LOp := [
  ⟨some 5, .assign (.const (.slice none 0 0)), none⟩]
def f20_r2 : List LOp := [
  ⟨some 11, .move (.tmp 0), none⟩,
  ⟨some 12, .call { callee := .builtin .len, args := #[.tmp 11], argTypes := #[41] }, none⟩,
  ⟨some 13, .move (.const (.int .i64 0)), none⟩]
def f20_r3 : List LOp := [
  ⟨some 14, .binOp .lss 3 (.tmp 13) (.tmp 12) 3, none⟩]
def f20_r4 : List LOp := [
  ⟨some 15, .move (.tmp 13), none⟩,
  ⟨some 16, .indexAddr 41 (.tmp 11) (.tmp 13), none⟩,
  ⟨some 17, .load 9 (.tmp 16), none⟩,
  ⟨some 6, .assign (.tmp 15), none⟩,
  ⟨some 7, .assign (.tmp 17), none⟩]
def f20_r5 : List LOp := [
  ⟨some 19, .move (.tmp 7), none⟩,
  ⟨some 20, .call { callee := .value (.func 15), args := #[.tmp 19], argTypes := #[9] }, none⟩,
  ⟨some 18, .move (.tmp 20), none⟩,
  ⟨some 21, .extract (.tmp 18) 0, none⟩,
  ⟨some 22, .extract (.tmp 18) 1, none⟩,
  ⟨some 23, .extract (.tmp 18) 2, none⟩,
  ⟨some 8, .alloc 28, none⟩,
  ⟨none, .store 28 (.tmp 8) (.tmp 21), none⟩,
  ⟨some 9, .assign (.tmp 22), none⟩,
  ⟨some 10, .assign (.tmp 23), none⟩]
def f20_r6 : List LOp := [
  ⟨some 24, .move (.tmp 10), none⟩,
  ⟨some 25, .binOp .neq 29 (.tmp 24) (.const (.int .i64 0)) 29, none⟩]
def f20_r7 : List LOp := [
  ⟨some 26, .move (.tmp 6), none⟩,
  ⟨some 27, .move (.tmp 10), none⟩,
  ⟨some 2, .assign (.const (.slice none 0 0)), none⟩,
  ⟨some 3, .assign (.tmp 26), none⟩,
  ⟨some 4, .assign (.tmp 27), none⟩]
def f20_r8 : List LOp := [
  ⟨some 28, .move (.tmp 5), none⟩,
  ⟨some 29, .load 28 (.tmp 8), none⟩,
  ⟨some 30, .buildSlice 26 1 #[(0, .tmp 29)], none⟩,
  ⟨some 31, .call { callee := .builtin .append, args := #[.tmp 28, .tmp 30], argTypes := #[26, 26] }, none⟩,
  ⟨some 5, .assign (.tmp 31), none⟩]
def f20_r9 : List LOp := [
  ⟨some 32, .binOp .add 3 (.tmp 13) (.const (.int .i64 1)) 3, none⟩,
  ⟨some 13, .move (.tmp 32), none⟩]
def f20_l10 : LC := (.seq (.reg f20_r3 [] none) (.seq (.cond (.tmp 14) .skip (.exit 0)) (.seq (.block 1 (.seq (.reg f20_r4 [] none) (.seq (.reg f20_r5 [] none) (.seq (.seq (.reg f20_r6 [] none) (.cond (.tmp 25) (.seq (.reg f20_r7 [] none) .ret) .skip)) (.reg f20_r8 [] none))))) (.reg f20_r9 [] none))))
def f20_i10 (t5 t11 t12 t13 : D) : List D := [.any, .any, .any, .any, .any, t5, .any, .any, .any, .any, .any, t11, t12, t13, .any, .any, .any, .any, .any, .any, .any, .any, .any, .any, .any, .any, .any, .any, .any, .any, .any, .any, .any, .any]
def f20_r11 : List LOp := [
  ⟨some 33, .move (.tmp 5), none⟩,
  ⟨some 2, .assign (.tmp 33), none⟩,
  ⟨some 3, .assign (.const (.int .i64 0)), none⟩,
  ⟨some 4, .assign (.const (.int .i64 0)), none⟩]
def f20_c : LC := (.seq (.reg f20_r0 [] none) (.seq (.reg f20_r1 [] none) (.seq (.seq (.reg f20_r2 [] none) (.block 0 (.loop f20_l10))) (.seq (.reg f20_r11 [] none) .ret))))
theorem f20_lc : Try.f20.body.map lc = some f20_c.st := by kernel_rfl
theorem f20_res : Try.f20.results.toList = [.tmp 2, .tmp 3, .tmp 4] := by kernel_rfl
theorem f20_nt : Try.f20.ntmps = 34 := by kernel_rfl
theorem f20_nm : (Try.f20.name == "runtime.NumGoroutine") = false := by kernel_rfl

/-! quill/quillref03.May -/
def f30_r0 : List LOp := [
  ⟨some 1, .box 28 (.tmp 0), none⟩,
  ⟨some 2, .assign (.const (.bool false)), none⟩]
def f30_r1 : List LOp := [
  ⟨some 6, .load 28 (.tmp 1), none⟩,
  ⟨some 7, .call { callee := .value (.func 61), args := #[.tmp 6], argTypes := #[28] }, none⟩,
  ⟨some 3, .assign (.tmp 7), none⟩]
def f30_r2 : List LOp := [
  ⟨some 8, .move (.tmp 3), none⟩,
  ⟨some 9, .call { callee := .builtin .len, args := #[.tmp 8], argTypes := #[26] }, none⟩,
  ⟨some 10, .move (.const (.int .i64 0)), none⟩]
def f30_r3 : List LOp := [
  ⟨some 11, .binOp .lss 3 (.tmp 10) (.tmp 9) 3, none⟩]
def f30_r4 : List LOp := [
  ⟨some 12, .move (.tmp 10), none⟩,
  ⟨some 4, .assign (.tmp 12), none⟩]
def f30_r5 : List LOp := [
  ⟨some 13, .move (.tmp 3), none⟩,
  ⟨some 14, .move (.tmp 4), none⟩,
  ⟨some 15, .indexAddr 26 (.tmp 13) (.tmp 14), none⟩,
  ⟨some 16, .fieldAddr 28 (.tmp 15) 1, none⟩,
  ⟨some 17, .load 25 (.tmp 16), none⟩,
  ⟨some 18, .build 25 #[], none⟩,
  ⟨some 19, .binOp .eql 25 (.tmp 17) (.tmp 18) 25, none⟩,
  ⟨some 5, .assign (.tmp 19), none⟩]
def f30_r6 : List LOp := [
  ⟨some 20, .move (.tmp 3), none⟩,
  ⟨some 21, .move (.tmp 4), none⟩,
  ⟨some 22, .indexAddr 26 (.tmp 20) (.tmp 21), none⟩,
  ⟨some 23, .fieldAddr 28 (.tmp 22) 0, none⟩,
  ⟨some 24, .load 5 (.tmp 23), none⟩,
  ⟨some 25, .binOp .lss 5 (.tmp 24) (.const (.int .u8 1)) 5, none⟩,
  ⟨some 26, .move (.tmp 25), none⟩,
  ⟨some 27, .move (.tmp 3), some (6, false)⟩,
  ⟨some 28, .move (.tmp 4), some (6, false)⟩,
  ⟨some 29, .indexAddr 26 (.tmp 27) (.tmp 28), some (6, false)⟩,
  ⟨some 30, .fieldAddr 28 (.tmp 29) 0, some (6, false)⟩,
  ⟨some 31, .load 5 (.tmp 30), some (6, false)⟩,
  ⟨some 32, .binOp .gtr 5 (.tmp 31) (.const (.int .u8 6)) 5, some (6, false)⟩,
  ⟨some 33, .pick (.tmp 26) (.const (.bool true)) (.tmp 32), none⟩,
  ⟨some 34, .move (.tmp 33), none⟩,
  ⟨some 35, .move (.tmp 3), some (14, false)⟩,
  ⟨some 36, .move (.tmp 4), some (14, false)⟩,
  ⟨some 37, .indexAddr 26 (.tmp 35) (.tmp 36), some (14, false)⟩,
  ⟨some 38, .fieldAddr 28 (.tmp 37) 0, some (14, false)⟩,
  ⟨some 39, .load 5 (.tmp 38), some (14, false)⟩,
  ⟨some 40, .binOp .eql 5 (.tmp 39) (.const (.int .u8 3)) 5, some (14, false)⟩,
  ⟨some 41, .move (.tmp 5), some (14, false)⟩,
  ⟨some 42, .binOp .eql 4 (.tmp 40) (.tmp 41) 4, some (14, false)⟩,
  ⟨some 43, .pick (.tmp 34) (.const (.bool true)) (.tmp 42), none⟩]
def f30_r7 : List LOp := [
  ⟨some 2, .assign (.const (.bool false)), none⟩]
def f30_r8 : List LOp := [
  ⟨some 44, .move (.tmp 3), none⟩,
  ⟨some 45, .move (.tmp 4), none⟩,
  ⟨some 46, .indexAddr 26 (.tmp 44) (.tmp 45), none⟩,
  ⟨some 47, .fieldAddr 28 (.tmp 46) 2, none⟩,
  ⟨some 48, .load 26 (.tmp 47), none⟩,
  ⟨some 49, .call { callee := .builtin .len, args := #[.tmp 48], argTypes := #[26] }, none⟩,
  ⟨some 50, .buildSlice 46 6 #[(0, .const (.int .i64 0)), (1, .const (.int .i64 0)), (2, .const (.int .i64 0)), (3, .const (.int .i64 2)), (4, .const (.int .i64 2)), (5, .const (.int .i64 1))], none⟩,
  ⟨some 51, .move (.tmp 3), none⟩,
  ⟨some 52, .move (.tmp 4), none⟩,
  ⟨some 53, .indexAddr 26 (.tmp 51) (.tmp 52), none⟩,
  ⟨some 54, .fieldAddr 28 (.tmp 53) 0, none⟩,
  ⟨some 55, .load 5 (.tmp 54), none⟩,
  ⟨some 56, .binOp .sub 5 (.tmp 55) (.const (.int .u8 1)) 5, none⟩,
  ⟨some 57, .indexAddr 46 (.tmp 50) (.tmp 56), none⟩,
  ⟨some 58, .load 3 (.tmp 57), none⟩,
  ⟨some 59, .binOp .neq 3 (.tmp 49) (.tmp 58) 3, none⟩]
def f30_r9 : List LOp := [
  ⟨some 2, .assign (.const (.bool false)), none⟩]
def f30_r10 : List LOp := [
  ⟨some 60, .binOp .add 3 (.tmp 10) (.const (.int .i64 1)) 3, none⟩,
  ⟨some 10, .move (.tmp 60), none⟩]
def f30_l11 : LC := (.seq (.reg f30_r3 [] none) (.seq (.cond (.tmp 11) .skip (.exit 0)) (.seq (.block 1 (.seq (.reg f30_r4 [] none) (.seq (.reg f30_r5 [] none) (.seq (.seq (.reg f30_r6 [] none) (.cond (.tmp 43) (.seq (.reg f30_r7 [] none) .ret) .skip)) (.seq (.reg f30_r8 [] (some 16)) (.cond (.tmp 59) (.seq (.reg f30_r9 [] none) .ret) .skip)))))) (.reg f30_r10 [] none))))
def f30_i11 (t3 t9 t10 : D) : List D := [.any, .any, .any, t3, .any, .any, .any, .any, .any, t9, t10, .any, .any, .any, .any, .any, .any, .any, .any, .any, .any, .any, .any, .any, .any, .any, .any, .any, .any, .any, .any, .any, .any, .any, .any, .any, .any, .any, .any, .any, .any, .any, .any, .any, .any, .any, .any, .any, .any, .any, .any, .any, .any, .any, .any, .any, .any, .any, .any, .any, .any, .any, .any, .any]
def f30_r12 : List LOp := [
  ⟨some 61, .move (.tmp 3), none⟩,
  ⟨some 62, .call { callee := .builtin .len, args := #[.tmp 61], argTypes := #[26] }, none⟩,
  ⟨some 63, .binOp .leq 3 (.tmp 62) (.const (.int .i64 2000)) 3, none⟩,
  ⟨some 2, .assign (.tmp 63), none⟩]
def f30_c : LC := (.seq (.reg f30_r0 [] none) (.seq (.reg f30_r1 [] none) (.seq (.seq (.reg f30_r2 [] none) (.block 0 (.loop f30_l11))) (.seq (.reg f30_r12 [] none) .ret))))
theorem f30_lc : Try.f30.body.map lc = some f30_c.st := by kernel_rfl
theorem f30_res : Try.f30.results.toList = [.tmp 2] := by kernel_rfl
theorem f30_nt : Try.f30.ntmps = 64 := by kernel_rfl
theorem f30_nm : (Try.f30.name == "runtime.NumGoroutine") = false := by kernel_rfl

/-! quill/quillref03.Many -/
def f31_r0 : List LOp := [
  ⟨some 1, .box 28 (.tmp 0), none⟩,
  ⟨some 2, .alloc 28, none⟩]
def f31_r1 : List LOp := [
  ⟨some 3, .load 28 (.tmp 1), none⟩,
  ⟨some 4, .buildSlice 26 1 #[(0, .tmp 3)], none⟩,
  ⟨some 5, .build 28 #[(0, .const (.int .u8 6)), (2, .tmp 4)], none⟩,
  ⟨none, .store 28 (.tmp 2) (.tmp 5), none⟩]
def f31_c : LC := (.seq (.reg f31_r0 [] none) (.seq (.reg f31_r1 [] none) .ret))
theorem f31_lc : Try.f31.body.map lc = some f31_c.st := by kernel_rfl
theorem f31_res : Try.f31.results.toList = [.cell 2 28] := by kernel_rfl
theorem f31_nt : Try.f31.ntmps = 6 := by kernel_rfl
theorem f31_nm : (Try.f31.name == "runtime.NumGoroutine") = false := by kernel_rfl

/-! quill/set.Join -/
def f33_r0 : List LOp := [
  ⟨some 2, .alloc 25, none⟩]
def f33_r1 : List LOp := [
  ⟨some 3, .alloc 25, none⟩]
def f33_r2 : List LOp := [
  ⟨some 7, .move (.tmp 0), none⟩,
  ⟨some 8, .call { callee := .builtin .len, args := #[.tmp 7], argTypes := #[83] }, none⟩,
  ⟨some 9, .move (.const (.int .i64 0)), none⟩]
def f33_r3 : List LOp := [
  ⟨some 10, .binOp .lss 3 (.tmp 9) (.tmp 8) 3, none⟩]
def f33_r4 : List LOp := [
  ⟨some 11, .indexAddr 83 (.tmp 7) (.tmp 9), none⟩,
  ⟨some 12, .load 25 (.tmp 11), none⟩,
  ⟨some 5, .alloc 25, none⟩,
  ⟨none, .store 25 (.tmp 5) (.tmp 12), none⟩]
def f33_r5 : List LOp := [
  ⟨some 13, .move (.const (.int .i64 0)), none⟩]
def f33_r6 : List LOp := [
  ⟨some 14, .binOp .lss 3 (.tmp 13) (.const (.int .i64 4)) 3, none⟩]
def f33_r7 : List LOp := [
  ⟨some 15, .move (.tmp 13), none⟩,
  ⟨some 6, .assign (.tmp 15), none⟩]
def f33_r8 : List LOp := [
  ⟨some 16, .move (.tmp 6), none⟩,
  ⟨some 17, .indexAddr 25 (.tmp 3) (.tmp 16), none⟩,
  ⟨some 18, .load 23 (.tmp 17), none⟩,
  ⟨some 19, .move (.tmp 6), none⟩,
  ⟨some 20, .indexAddr 25 (.tmp 5) (.tmp 19), none⟩,
  ⟨some 21, .load 23 (.tmp 20), none⟩,
  ⟨some 22, .binOp .or 23 (.tmp 18) (.tmp 21) 23, none⟩,
  ⟨some 23, .indexAddr 25 (.tmp 3) (.tmp 16), none⟩,
  ⟨none, .store 23 (.tmp 23) (.tmp 22), none⟩]
def f33_r9 : List LOp := [
  ⟨some 24, .binOp .add 3 (.tmp 13) (.const (.int .i64 1)) 3, none⟩,
  ⟨some 13, .move (.tmp 24), none⟩]
def f33_l10 : LC := (.seq (.reg f33_r6 [] none) (.seq (.cond (.tmp 14) .skip (.exit 2)) (.seq (.block 3 (.seq (.reg f33_r7 [] none) (.reg f33_r8 [] (some 6)))) (.reg f33_r9 [] none))))
def f33_i10 (t2 t3 t5 t7 t8 t9 t13 : D) : List D := [.any, .any, t2, t3, .any, t5, .any, t7, t8, t9, .any, .any, .any, t13, .any, .any, .any, .any, .any, .any, .any, .any, .any, .any, .any, .any, .any]
def f33_r11 : List LOp := [
  ⟨some 25, .binOp .add 3 (.tmp 9) (.const (.int .i64 1)) 3, none⟩,
  ⟨some 9, .move (.tmp 25), none⟩]
def f33_l12 : LC := (.seq (.reg f33_r3 [] none) (.seq (.cond (.tmp 10) .skip (.exit 0)) (.seq (.block 1 (.seq (.reg f33_r4 [] none) (.seq (.reg f33_r5 [] none) (.block 2 (.loop f33_l10))))) (.reg f33_r11 [] none))))
def f33_i12 (t2 t3 t7 t8 t9 : D) : List D := [.any, .any, t2, t3, .any, .any, .any, t7, t8, t9, .any, .any, .any, .any, .any, .any, .any, .any, .any, .any, .any, .any, .any, .any, .any, .any, .any]
def f33_r13 : List LOp := [
  ⟨some 26, .load 25 (.tmp 3), none⟩,
  ⟨none, .store 25 (.tmp 2) (.tmp 26), none⟩]
def f33_c : LC := (.seq (.reg f33_r0 [] none) (.seq (.reg f33_r1 [] none) (.seq (.seq (.reg f33_r2 [] none) (.block 0 (.loop f33_l12))) (.seq (.reg f33_r13 [] none) .ret))))
theorem f33_lc : Try.f33.body.map lc = some f33_c.st := by kernel_rfl
theorem f33_res : Try.f33.results.toList = [.cell 2 25] := by kernel_rfl
theorem f33_nt : Try.f33.ntmps = 27 := by kernel_rfl
theorem f33_nm : (Try.f33.name == "runtime.NumGoroutine") = false := by kernel_rfl

/-! (*quill/read.reader).whole -/
def f45_r0 : List LOp := [
  ⟨some 2, .alloc 28, none⟩,
  ⟨some 3, .alloc 3, none⟩,
  ⟨some 4, .alloc 29, none⟩]
def f45_r1 : List LOp := [
  ⟨some 5, .makeFunc (.func 69) #[] #[.tmp 2, .tmp 3, .tmp 4], none⟩,
  ⟨none, .defer { callee := .value (.tmp 5), args := #[], argTypes := #[] }, none⟩]
def f45_r2 : List LOp := [
  ⟨some 6, .move (.tmp 0), none⟩,
  ⟨some 7, .call { callee := .value (.func 70), args := #[.tmp 6], argTypes := #[67] }, none⟩,
  ⟨none, .store 28 (.tmp 2) (.tmp 7), none⟩]
def f45_r3 : List LOp := [
  ⟨some 8, .move (.tmp 0), none⟩,
  ⟨some 9, .nilCheck (.tmp 8), none⟩,
  ⟨some 10, .fieldAddr 69 (.tmp 9) 1, none⟩,
  ⟨some 11, .load 3 (.tmp 10), none⟩,
  ⟨some 12, .move (.tmp 0), none⟩,
  ⟨some 13, .nilCheck (.tmp 12), none⟩,
  ⟨some 14, .fieldAddr 69 (.tmp 13) 0, none⟩,
  ⟨some 15, .load 9 (.tmp 14), none⟩,
  ⟨some 16, .call { callee := .builtin .len, args := #[.tmp 15], argTypes := #[9] }, none⟩,
  ⟨some 17, .binOp .lss 3 (.tmp 11) (.tmp 16) 3, none⟩]
def f45_r4 : List LOp := [
  ⟨some 18, .move (.tmp 0), none⟩,
  ⟨some 19, .nilCheck (.tmp 18), none⟩,
  ⟨some 20, .fieldAddr 69 (.tmp 19) 1, none⟩,
  ⟨some 21, .load 3 (.tmp 20), none⟩,
  ⟨some 22, .build 88 #[(0, .tmp 21)], none⟩,
  ⟨some 23, .makeInterface 88 (.tmp 22), none⟩,
  ⟨none, .panic (.tmp 23), none⟩]
def f45_r5 : List LOp := [
  ⟨some 24, .load 28 (.tmp 2), none⟩,
  ⟨none, .store 28 (.tmp 2) (.tmp 24), none⟩,
  ⟨none, .store 3 (.tmp 3) (.const (.int .i64 0)), none⟩,
  ⟨none, .store 29 (.tmp 4) (.const (.int .i64 0)), none⟩]
def f45_c : LC := (.seq (.reg f45_r0 [] none) (.seq (.reg f45_r1 [] none) (.seq (.reg f45_r2 [] none) (.seq (.seq (.reg f45_r3 [] (some 9)) (.cond (.tmp 17) (.reg f45_r4 [] none) .skip)) (.seq (.reg f45_r5 [] none) .ret)))))
theorem f45_lc : Try.f45.body.map lc = some f45_c.st := by kernel_rfl
theorem f45_res : Try.f45.results.toList = [.cell 2 28, .cell 3 3, .cell 4 29] := by kernel_rfl
theorem f45_nt : Try.f45.ntmps = 25 := by kernel_rfl
theorem f45_nm : (Try.f45.name == "runtime.NumGoroutine") = false := by kernel_rfl

/-! quill/rex.May -/
def f46_r0 : List LOp := [
  ⟨some 2, .assign (.const (.bool false)), none⟩]
def f46_r1 : List LOp := [
  ⟨some 3, .move (.tmp 0), none⟩,
  ⟨some 4, .call { callee := .value (.func 56), args := #[.tmp 3, .func 71], argTypes := #[26, 50] }, none⟩,
  ⟨some 5, .unOp .not 4 (.tmp 4), none⟩,
  ⟨some 2, .assign (.tmp 5), none⟩]
def f46_c : LC := (.seq (.reg f46_r0 [] none) (.seq (.reg f46_r1 [] none) .ret))
theorem f46_lc : Try.f46.body.map lc = some f46_c.st := by kernel_rfl
theorem f46_res : Try.f46.results.toList = [.tmp 2] := by kernel_rfl
theorem f46_nt : Try.f46.ntmps = 6 := by kernel_rfl
theorem f46_nm : (Try.f46.name == "runtime.NumGoroutine") = false := by kernel_rfl

/-! quill/quillref06.alt -/
def f47_r0 : List LOp := [
  ⟨some 4, .alloc 72, none⟩]
def f47_r1 : List LOp := [
  ⟨some 7, .buildSlice 26 0 #[], none⟩,
  ⟨some 5, .assign (.tmp 7), none⟩]
def f47_r2 : List LOp := [
  ⟨some 8, .move (.tmp 0), none⟩,
  ⟨some 9, .move (.tmp 1), none⟩,
  ⟨some 10, .call { callee := .value (.func 74), args := #[.tmp 8, .tmp 9], argTypes := #[9, 3] }, none⟩,
  ⟨some 6, .alloc 72, none⟩,
  ⟨none, .store 72 (.tmp 6) (.tmp 10), none⟩]
def f47_r3 : List LOp := [
  ⟨some 11, .fieldAddr 72 (.tmp 6) 2, none⟩,
  ⟨some 12, .load 4 (.tmp 11), none⟩]
def f47_r4 : List LOp := [
  ⟨some 13, .load 72 (.tmp 6), none⟩,
  ⟨none, .store 72 (.tmp 4) (.tmp 13), none⟩]
def f47_r5 : List LOp := [
  ⟨some 14, .move (.tmp 5), none⟩,
  ⟨some 15, .fieldAddr 72 (.tmp 6) 0, none⟩,
  ⟨some 16, .load 28 (.tmp 15), none⟩,
  ⟨some 17, .buildSlice 26 1 #[(0, .tmp 16)], none⟩,
  ⟨some 18, .call { callee := .builtin .append, args := #[.tmp 14, .tmp 17], argTypes := #[26, 26] }, none⟩,
  ⟨some 5, .assign (.tmp 18), none⟩]
def f47_r6 : List LOp := [
  ⟨some 19, .fieldAddr 72 (.tmp 6) 1, none⟩,
  ⟨some 20, .load 3 (.tmp 19), none⟩,
  ⟨some 1, .assign (.tmp 20), none⟩]
def f47_r7 : List LOp := [
  ⟨some 21, .move (.tmp 0), none⟩,
  ⟨some 22, .move (.tmp 1), none⟩,
  ⟨some 23, .call { callee := .value (.func 75), args := #[.tmp 21, .tmp 22, .const (.int .u8 124)], argTypes := #[9, 3, 5] }, none⟩,
  ⟨some 24, .unOp .not 4 (.tmp 23), none⟩]
def f47_r8 : List LOp := [
  ⟨some 25, .move (.tmp 5), none⟩,
  ⟨some 26, .call { callee := .value (.func 76), args := #[.const (.int .u8 5), .tmp 25], argTypes := #[5, 26] }, none⟩,
  ⟨some 27, .move (.tmp 1), none⟩,
  ⟨some 28, .build 72 #[(0, .tmp 26), (1, .tmp 27)], none⟩,
  ⟨none, .store 72 (.tmp 4) (.tmp 28), none⟩]
def f47_r9 : List LOp := [
  ⟨some 29, .move (.tmp 1), none⟩,
  ⟨some 30, .binOp .add 3 (.tmp 29) (.const (.int .i64 1)) 3, none⟩,
  ⟨some 1, .assign (.tmp 30), none⟩]
def f47_l10 : LC := (.block 1 (.seq (.reg f47_r2 [] none) (.seq (.seq (.reg f47_r3 [] none) (.cond (.tmp 12) (.seq (.reg f47_r4 [] none) .ret) .skip)) (.seq (.reg f47_r5 [] none) (.seq (.reg f47_r6 [] none) (.seq (.seq (.reg f47_r7 [] none) (.cond (.tmp 24) (.seq (.reg f47_r8 [] none) .ret) .skip)) (.reg f47_r9 [] none)))))))
def f47_i10 (t0 t1 t4 t5 : D) : List D := [t0, t1, .any, .any, t4, t5, .any, .any, .any, .any, .any, .any, .any, .any, .any, .any, .any, .any, .any, .any, .any, .any, .any, .any, .any, .any, .any, .any, .any, .any, .any]
def f47_c : LC := (.seq (.reg f47_r0 [] none) (.seq (.reg f47_r1 [0] none) (.block 0 (.loop f47_l10))))
theorem f47_lc : Try.f47.body.map lc = some f47_c.st := by kernel_rfl
theorem f47_res : Try.f47.results.toList = [.cell 4 72] := by kernel_rfl
theorem f47_nt : Try.f47.ntmps = 31 := by kernel_rfl
theorem f47_nm : (Try.f47.name == "runtime.NumGoroutine") = false := by kernel_rfl

/-! slices.ContainsFunc[[]string,string] -/
def f48_r0 : List LOp := [
  ⟨some 4, .assign (.const (.bool false)), none⟩]
def f48_r1 : List LOp := [
  ⟨some 5, .move (.tmp 0), none⟩,
  ⟨some 6, .move (.tmp 1), none⟩,
  ⟨some 7, .call { callee := .value (.func 77), args := #[.tmp 5, .tmp 6], argTypes := #[41, 36] }, none⟩,
  ⟨some 8, .binOp .geq 3 (.tmp 7) (.const (.int .i64 0)) 3, none⟩,
  ⟨some 4, .assign (.tmp 8), none⟩]
def f48_c : LC := (.seq (.reg f48_r0 [] none) (.seq (.reg f48_r1 [] none) .ret))
theorem f48_lc : Try.f48.body.map lc = some f48_c.st := by kernel_rfl
theorem f48_res : Try.f48.results.toList = [.tmp 4] := by kernel_rfl
theorem f48_nt : Try.f48.ntmps = 9 := by kernel_rfl
theorem f48_nm : (Try.f48.name == "runtime.NumGoroutine") = false := by kernel_rfl

/-! quill/read.Form$1 -/
def f49_r0 : List LOp := [
  ⟨some 2, .assign (.const (.bool false)), none⟩]
def f49_r1 : List LOp := [
  ⟨some 7, .move (.tmp 0), none⟩,
  ⟨some 8, .call { callee := .value (.func 15), args := #[.tmp 7], argTypes := #[9] }, none⟩,
  ⟨some 6, .move (.tmp 8), none⟩,
  ⟨some 9, .extract (.tmp 6) 0, none⟩,
  ⟨some 10, .extract (.tmp 6) 1, none⟩,
  ⟨some 11, .extract (.tmp 6) 2, none⟩,
  ⟨some 3, .alloc 28, none⟩,
  ⟨none, .store 28 (.tmp 3) (.tmp 9), none⟩,
  ⟨some 4, .assign (.tmp 10), none⟩,
  ⟨some 5, .assign (.tmp 11), none⟩]
def f49_r2 : List LOp := [
  ⟨some 12, .move (.tmp 5), none⟩,
  ⟨some 13, .binOp .neq 29 (.tmp 12) (.const (.int .i64 0)) 29, none⟩,
  ⟨some 2, .assign (.tmp 13), none⟩]
def f49_c : LC := (.seq (.reg f49_r0 [] none) (.seq (.reg f49_r1 [] none) (.seq (.reg f49_r2 [] none) .ret)))
theorem f49_lc : Try.f49.body.map lc = some f49_c.st := by kernel_rfl
theorem f49_res : Try.f49.results.toList = [.tmp 2] := by kernel_rfl
theorem f49_nt : Try.f49.ntmps = 14 := by kernel_rfl
theorem f49_nm : (Try.f49.name == "runtime.NumGoroutine") = false := by kernel_rfl

/-! quill/set.Of -/
def f53_r0 : List LOp := [
  ⟨some 2, .alloc 25, none⟩]
def f53_r1 : List LOp := [
  ⟨some 3, .alloc 25, none⟩]
def f53_r2 : List LOp := [
  ⟨some 6, .move (.tmp 0), none⟩,
  ⟨some 7, .call { callee := .builtin .len, args := #[.tmp 6], argTypes := #[37] }, none⟩,
  ⟨some 8, .move (.const (.int .i64 0)), none⟩]
def f53_r3 : List LOp := [
  ⟨some 9, .binOp .lss 3 (.tmp 8) (.tmp 7) 3, none⟩]
def f53_r4 : List LOp := [
  ⟨some 10, .indexAddr 37 (.tmp 6) (.tmp 8), none⟩,
  ⟨some 11, .load 5 (.tmp 10), none⟩,
  ⟨some 5, .assign (.tmp 11), none⟩]
def f53_r5 : List LOp := [
  ⟨some 12, .move (.tmp 5), none⟩,
  ⟨some 13, .binOp .quo 5 (.tmp 12) (.const (.int .u8 64)) 5, none⟩,
  ⟨some 14, .indexAddr 25 (.tmp 3) (.tmp 13), none⟩,
  ⟨some 15, .load 23 (.tmp 14), none⟩,
  ⟨some 16, .move (.tmp 5), none⟩,
  ⟨some 17, .binOp .rem 5 (.tmp 16) (.const (.int .u8 64)) 5, none⟩,
  ⟨some 18, .binOp .shl 23 (.const (.int .u64 1)) (.tmp 17) 5, none⟩,
  ⟨some 19, .binOp .or 23 (.tmp 15) (.tmp 18) 23, none⟩,
  ⟨some 20, .indexAddr 25 (.tmp 3) (.tmp 13), none⟩,
  ⟨none, .store 23 (.tmp 20) (.tmp 19), none⟩]
def f53_r6 : List LOp := [
  ⟨some 21, .binOp .add 3 (.tmp 8) (.const (.int .i64 1)) 3, none⟩,
  ⟨some 8, .move (.tmp 21), none⟩]
def f53_l7 : LC := (.seq (.reg f53_r3 [] none) (.seq (.cond (.tmp 9) .skip (.exit 0)) (.seq (.block 1 (.seq (.reg f53_r4 [] none) (.reg f53_r5 [] none))) (.reg f53_r6 [] none))))
def f53_i7 (t2 t3 t6 t7 t8 : D) : List D := [.any, .any, t2, t3, .any, .any, t6, t7, t8, .any, .any, .any, .any, .any, .any, .any, .any, .any, .any, .any, .any, .any, .any]
def f53_r8 : List LOp := [
  ⟨some 22, .load 25 (.tmp 3), none⟩,
  ⟨none, .store 25 (.tmp 2) (.tmp 22), none⟩]
def f53_c : LC := (.seq (.reg f53_r0 [] none) (.seq (.reg f53_r1 [] none) (.seq (.seq (.reg f53_r2 [] none) (.block 0 (.loop f53_l7))) (.seq (.reg f53_r8 [] none) .ret))))
theorem f53_lc : Try.f53.body.map lc = some f53_c.st := by kernel_rfl
theorem f53_res : Try.f53.results.toList = [.cell 2 25] := by kernel_rfl
theorem f53_nt : Try.f53.ntmps = 23 := by kernel_rfl
theorem f53_nm : (Try.f53.name == "runtime.NumGoroutine") = false := by kernel_rfl

/-! slices.ContainsFunc[[]quill/api.Re,quill/api.Re] -/
def f56_r0 : List LOp := [
  ⟨some 4, .assign (.const (.bool false)), none⟩]
def f56_r1 : List LOp := [
  ⟨some 5, .move (.tmp 0), none⟩,
  ⟨some 6, .move (.tmp 1), none⟩,
  ⟨some 7, .call { callee := .value (.func 66), args := #[.tmp 5, .tmp 6], argTypes := #[26, 50] }, none⟩,
  ⟨some 8, .binOp .geq 3 (.tmp 7) (.const (.int .i64 0)) 3, none⟩,
  ⟨some 4, .assign (.tmp 8), none⟩]
def f56_c : LC := (.seq (.reg f56_r0 [] none) (.seq (.reg f56_r1 [] none) .ret))
theorem f56_lc : Try.f56.body.map lc = some f56_c.st := by kernel_rfl
theorem f56_res : Try.f56.results.toList = [.tmp 4] := by kernel_rfl
theorem f56_nt : Try.f56.ntmps = 9 := by kernel_rfl
theorem f56_nm : (Try.f56.name == "runtime.NumGoroutine") = false := by kernel_rfl

/-! quill/quillref03.All -/
def f61_r0 : List LOp := [
  ⟨some 1, .box 28 (.tmp 0), none⟩,
  ⟨some 2, .assign (.const (.slice none 0 0)), none⟩]
def f61_r1 : List LOp := [
  ⟨some 5, .load 28 (.tmp 1), none⟩,
  ⟨some 6, .buildSlice 26 1 #[(0, .tmp 5)], none⟩,
  ⟨some 3, .assign (.tmp 6), none⟩]
def f61_r2 : List LOp := [
  ⟨some 7, .fieldAddr 28 (.tmp 1) 2, none⟩,
  ⟨some 8, .load 26 (.tmp 7), none⟩,
  ⟨some 9, .call { callee := .builtin .len, args := #[.tmp 8], argTypes := #[26] }, none⟩,
  ⟨some 10, .move (.const (.int .i64 0)), none⟩]
def f61_r3 : List LOp := [
  ⟨some 11, .binOp .lss 3 (.tmp 10) (.tmp 9) 3, none⟩]
def f61_r4 : List LOp := [
  ⟨some 12, .move (.tmp 10), none⟩,
  ⟨some 4, .assign (.tmp 12), none⟩]
def f61_r5 : List LOp := [
  ⟨some 13, .move (.tmp 3), none⟩,
  ⟨some 14, .fieldAddr 28 (.tmp 1) 2, none⟩,
  ⟨some 15, .load 26 (.tmp 14), none⟩,
  ⟨some 16, .move (.tmp 4), none⟩,
  ⟨some 17, .indexAddr 26 (.tmp 15) (.tmp 16), none⟩,
  ⟨some 18, .load 28 (.tmp 17), none⟩,
  ⟨some 19, .call { callee := .value (.func 61), args := #[.tmp 18], argTypes := #[28] }, none⟩,
  ⟨some 20, .call { callee := .builtin .append, args := #[.tmp 13, .tmp 19], argTypes := #[26, 26] }, none⟩,
  ⟨some 3, .assign (.tmp 20), none⟩]
def f61_r6 : List LOp := [
  ⟨some 21, .binOp .add 3 (.tmp 10) (.const (.int .i64 1)) 3, none⟩,
  ⟨some 10, .move (.tmp 21), none⟩]
def f61_l7 : LC := (.seq (.reg f61_r3 [] none) (.seq (.cond (.tmp 11) .skip (.exit 0)) (.seq (.block 1 (.seq (.reg f61_r4 [] none) (.reg f61_r5 [] none))) (.reg f61_r6 [] none))))
def f61_i7 (t1 t3 t9 t10 : D) : List D := [.any, t1, .any, t3, .any, .any, .any, .any, .any, t9, t10, .any, .any, .any, .any, .any, .any, .any, .any, .any, .any, .any, .any]
def f61_r8 : List LOp := [
  ⟨some 22, .move (.tmp 3), none⟩,
  ⟨some 2, .assign (.tmp 22), none⟩]
def f61_c : LC := (.seq (.reg f61_r0 [] none) (.seq (.reg f61_r1 [1] none) (.seq (.seq (.reg f61_r2 [] none) (.block 0 (.loop f61_l7))) (.seq (.reg f61_r8 [] none) .ret))))
theorem f61_lc : Try.f61.body.map lc = some f61_c.st := by kernel_rfl
theorem f61_res : Try.f61.results.toList = [.tmp 2] := by kernel_rfl
theorem f61_nt : Try.f61.ntmps = 23 := by kernel_rfl
theorem f61_nm : (Try.f61.name == "runtime.NumGoroutine") = false := by kernel_rfl

/-! slices.IndexFunc[[]quill/api.Re,quill/api.Re] -/
def f66_r0 : List LOp := [
  ⟨some 4, .assign (.const (.int .i64 0)), none⟩]
def f66_r1 : List LOp := [
  ⟨some 6, .move (.tmp 0), none⟩,
  ⟨some 7, .call { callee := .builtin .len, args := #[.tmp 6], argTypes := #[26] }, none⟩,
  ⟨some 8, .move (.const (.int .i64 0)), none⟩]
def f66_r2 : List LOp := [
  ⟨some 9, .binOp .lss 3 (.tmp 8) (.tmp 7) 3, none⟩]
def f66_r3 : List LOp := [
  ⟨some 10, .move (.tmp 8), none⟩,
  ⟨some 5, .assign (.tmp 10), none⟩]
def f66_r4 : List LOp := [
  ⟨some 11, .move (.tmp 1), none⟩,
  ⟨some 12, .move (.tmp 0), none⟩,
  ⟨some 13, .move (.tmp 5), none⟩,
  ⟨some 14, .indexAddr 26 (.tmp 12) (.tmp 13), none⟩,
  ⟨some 15, .load 28 (.tmp 14), none⟩,
  ⟨some 16, .call { callee := .value (.tmp 11), args := #[.tmp 15], argTypes := #[28] }, none⟩]
def f66_r5 : List LOp := [
  ⟨some 17, .move (.tmp 5), none⟩,
  ⟨some 4, .assign (.tmp 17), none⟩]
def f66_r6 : List LOp := [
  ⟨some 18, .binOp .add 3 (.tmp 8) (.const (.int .i64 1)) 3, none⟩,
  ⟨some 8, .move (.tmp 18), none⟩]
def f66_l7 : LC := (.seq (.reg f66_r2 [] none) (.seq (.cond (.tmp 9) .skip (.exit 0)) (.seq (.block 1 (.seq (.reg f66_r3 [] none) (.seq (.reg f66_r4 [] none) (.cond (.tmp 16) (.seq (.reg f66_r5 [] none) .ret) .skip)))) (.reg f66_r6 [] none))))
def f66_i7 (t0 t1 t7 t8 : D) : List D := [t0, t1, .any, .any, .any, .any, .any, t7, t8, .any, .any, .any, .any, .any, .any, .any, .any, .any, .any]
def f66_r8 : List LOp := [
  ⟨some 4, .assign (.const (.int .i64 (-1))), none⟩]
def f66_c : LC := (.seq (.reg f66_r0 [] none) (.seq (.seq (.reg f66_r1 [] none) (.block 0 (.loop f66_l7))) (.seq (.reg f66_r8 [] none) .ret)))
theorem f66_lc : Try.f66.body.map lc = some f66_c.st := by kernel_rfl
theorem f66_res : Try.f66.results.toList = [.tmp 4] := by kernel_rfl
theorem f66_nt : Try.f66.ntmps = 19 := by kernel_rfl
theorem f66_nm : (Try.f66.name == "runtime.NumGoroutine") = false := by kernel_rfl

/-! (*quill/read.reader).whole$1 -/
def f69_r0 : List LOp := [
  ⟨some 6, .call { callee := .builtin .recover, args := #[], argTypes := #[] }, none⟩]
def f69_r1 : List LOp := [
  ⟨some 8, .binOp .eql 20 (.tmp 6) (.const .nilIface) 20, none⟩]
def f69_r2 : List LOp := [
  ⟨some 3, .assign (.tmp 6), none⟩]
def f69_r3 : List LOp := [
  ⟨some 9, .typeAssert (.tmp 6) 20 88 true, none⟩,
  ⟨some 10, .extract (.tmp 9) 1, none⟩,
  ⟨some 11, .extract (.tmp 9) 0, none⟩]
def f69_r4 : List LOp := [
  ⟨some 4, .alloc 88, none⟩,
  ⟨none, .store 88 (.tmp 4) (.tmp 11), none⟩]
def f69_r5 : List LOp := [
  ⟨some 12, .build 28 #[], none⟩,
  ⟨some 13, .fieldAddr 88 (.tmp 4) 0, none⟩,
  ⟨some 14, .load 3 (.tmp 13), none⟩,
  ⟨none, .store 28 (.tmp 0) (.tmp 12), none⟩,
  ⟨none, .store 3 (.tmp 1) (.tmp 14), none⟩,
  ⟨none, .store 29 (.tmp 2) (.const (.int .i64 2)), none⟩]
def f69_r6 : List LOp := [
  ⟨some 5, .assign (.tmp 6), none⟩]
def f69_r7 : List LOp := [
  ⟨some 7, .move (.tmp 5), none⟩,
  ⟨none, .panic (.tmp 7), none⟩]
def f69_c : LC := (.seq (.reg f69_r0 [] none) (.block 0 (.seq (.reg f69_r1 [] none) (.cond (.tmp 8) (.reg f69_r2 [] none) (.seq (.reg f69_r3 [] none) (.cond (.tmp 10) (.seq (.reg f69_r4 [] none) (.regq f69_r5 [] 0 (.both (.op 0 (.both (.op 1 (.both (.op 2 (.op 3 (.op 4 (.op 5 .done)))) (.op 3 (.op 2 (.op 4 (.op 5 .done)))))) (.op 3 (.op 1 (.op 2 (.op 4 (.op 5 .done))))))) (.op 1 (.both (.op 0 (.both (.op 2 (.op 3 (.op 4 (.op 5 .done)))) (.op 3 (.op 2 (.op 4 (.op 5 .done)))))) (.op 2 (.op 0 (.op 3 (.op 4 (.op 5 .done)))))))))) (.seq (.reg f69_r6 [] none) (.reg f69_r7 [] none))))))))
theorem f69_lc : Try.f69.body.map lc = some f69_c.st := by kernel_rfl
theorem f69_res : Try.f69.results.toList = [] := by kernel_rfl
theorem f69_nt : Try.f69.ntmps = 15 := by kernel_rfl
theorem f69_nm : (Try.f69.name == "runtime.NumGoroutine") = false := by kernel_rfl

/-! (*quill/read.reader).alt -/
def f70_r0 : List LOp := [
  ⟨some 2, .alloc 28, none⟩]
def f70_r1 : List LOp := [
  ⟨some 4, .move (.tmp 0), none⟩,
  ⟨some 5, .call { callee := .value (.func 83), args := #[.tmp 4], argTypes := #[67] }, none⟩,
  ⟨some 6, .buildSlice 26 1 #[(0, .tmp 5)], none⟩,
  ⟨some 3, .assign (.tmp 6), none⟩]
def f70_r2 : List LOp := [
  ⟨some 7, .move (.tmp 0), none⟩,
  ⟨some 8, .call { callee := .value (.func 84), args := #[.tmp 7, .const (.string { data := #[124] })], argTypes := #[67, 9] }, none⟩]
def f70_r3 : List LOp := [
  ⟨some 9, .move (.tmp 0), none⟩,
  ⟨some 10, .nilCheck (.tmp 9), none⟩,
  ⟨some 11, .fieldAddr 69 (.tmp 10) 1, none⟩,
  ⟨some 12, .load 3 (.tmp 11), none⟩,
  ⟨some 13, .binOp .add 3 (.tmp 12) (.const (.int .i64 1)) 3, none⟩,
  ⟨some 14, .nilCheck (.tmp 9), none⟩,
  ⟨some 15, .fieldAddr 69 (.tmp 14) 1, none⟩,
  ⟨none, .store 3 (.tmp 15) (.tmp 13), none⟩]
def f70_r4 : List LOp := [
  ⟨some 16, .move (.tmp 3), none⟩,
  ⟨some 17, .move (.tmp 0), none⟩,
  ⟨some 18, .call { callee := .value (.func 83), args := #[.tmp 17], argTypes := #[67] }, none⟩,
  ⟨some 19, .buildSlice 26 1 #[(0, .tmp 18)], none⟩,
  ⟨some 20, .call { callee := .builtin .append, args := #[.tmp 16, .tmp 19], argTypes := #[26, 26] }, none⟩,
  ⟨some 3, .assign (.tmp 20), none⟩]
def f70_l5 : LC := (.seq (.seq (.reg f70_r2 [] none) (.cond (.tmp 8) .skip (.exit 0))) (.block 1 (.seq (.reg f70_r3 [] none) (.reg f70_r4 [] none))))
def f70_i5 (t0 t2 t3 : D) : List D := [t0, .any, t2, t3, .any, .any, .any, .any, .any, .any, .any, .any, .any, .any, .any, .any, .any, .any, .any, .any, .any, .any, .any]
def f70_r6 : List LOp := [
  ⟨some 21, .move (.tmp 3), none⟩,
  ⟨some 22, .call { callee := .value (.func 85), args := #[.tmp 21], argTypes := #[26] }, none⟩,
  ⟨none, .store 28 (.tmp 2) (.tmp 22), none⟩]
def f70_c : LC := (.seq (.reg f70_r0 [] none) (.seq (.reg f70_r1 [2] none) (.seq (.block 0 (.loop f70_l5)) (.seq (.reg f70_r6 [] none) .ret))))
theorem f70_lc : Try.f70.body.map lc = some f70_c.st := by kernel_rfl
theorem f70_res : Try.f70.results.toList = [.cell 2 28] := by kernel_rfl
theorem f70_nt : Try.f70.ntmps = 23 := by kernel_rfl
theorem f70_nm : (Try.f70.name == "runtime.NumGoroutine") = false := by kernel_rfl

/-! quill/rex.May$1 -/
def f71_r0 : List LOp := [
  ⟨some 1, .box 28 (.tmp 0), none⟩,
  ⟨some 2, .assign (.const (.bool false)), none⟩]
def f71_r1 : List LOp := [
  ⟨some 3, .load 28 (.tmp 1), none⟩,
  ⟨some 4, .call { callee := .value (.func 72), args := #[.tmp 3], argTypes := #[28] }, none⟩,
  ⟨some 5, .unOp .not 4 (.tmp 4), none⟩,
  ⟨some 6, .move (.tmp 5), none⟩,
  ⟨some 7, .load 28 (.tmp 1), some (3, false)⟩,
  ⟨some 8, .buildSlice 26 1 #[(0, .tmp 7)], some (3, false)⟩,
  ⟨some 9, .call { callee := .value (.func 73), args := #[.tmp 8], argTypes := #[26] }, some (3, false)⟩,
  ⟨some 10, .binOp .gtr 3 (.tmp 9) (.const (.int .i64 2000)) 3, some (3, false)⟩,
  ⟨some 11, .pick (.tmp 6) (.const (.bool true)) (.tmp 10), none⟩,
  ⟨some 2, .assign (.tmp 11), none⟩]
def f71_c : LC := (.seq (.reg f71_r0 [] none) (.seq (.reg f71_r1 [] none) .ret))
theorem f71_lc : Try.f71.body.map lc = some f71_c.st := by kernel_rfl
theorem f71_res : Try.f71.results.toList = [.tmp 2] := by kernel_rfl
theorem f71_nt : Try.f71.ntmps = 12 := by kernel_rfl
theorem f71_nm : (Try.f71.name == "runtime.NumGoroutine") = false := by kernel_rfl

/-! quill/rex.nodes -/
def f72_r0 : List LOp := [
  ⟨some 1, .box 28 (.tmp 0), none⟩,
  ⟨some 2, .assign (.const (.bool false)), none⟩]
def f72_r1 : List LOp := [
  ⟨some 3, .load 28 (.tmp 1), none⟩,
  ⟨some 4, .call { callee := .value (.func 86), args := #[.tmp 3], argTypes := #[28] }, none⟩,
  ⟨some 5, .move (.tmp 4), none⟩,
  ⟨some 6, .fieldAddr 28 (.tmp 1) 2, some (2, true)⟩,
  ⟨some 7, .load 26 (.tmp 6), some (2, true)⟩,
  ⟨some 8, .call { callee := .value (.func 56), args := #[.tmp 7, .func 87], argTypes := #[26, 50] }, some (2, true)⟩,
  ⟨some 9, .unOp .not 4 (.tmp 8), some (2, true)⟩,
  ⟨some 10, .pick (.tmp 5) (.tmp 9) (.const (.bool false)), none⟩,
  ⟨some 2, .assign (.tmp 10), none⟩]
def f72_c : LC := (.seq (.reg f72_r0 [] none) (.seq (.reg f72_r1 [] none) .ret))
theorem f72_lc : Try.f72.body.map lc = some f72_c.st := by kernel_rfl
theorem f72_res : Try.f72.results.toList = [.tmp 2] := by kernel_rfl
theorem f72_nt : Try.f72.ntmps = 11 := by kernel_rfl
theorem f72_nm : (Try.f72.name == "runtime.NumGoroutine") = false := by kernel_rfl

/-! quill/rex.Size -/
def f73_r0 : List LOp := [
  ⟨some 2, .assign (.const (.int .i64 0)), none⟩]
def f73_r1 : List LOp := [
  ⟨some 6, .move (.tmp 0), none⟩,
  ⟨some 7, .call { callee := .builtin .len, args := #[.tmp 6], argTypes := #[26] }, none⟩,
  ⟨some 3, .assign (.tmp 7), none⟩]
def f73_r2 : List LOp := [
  ⟨some 8, .move (.tmp 0), none⟩,
  ⟨some 9, .call { callee := .builtin .len, args := #[.tmp 8], argTypes := #[26] }, none⟩,
  ⟨some 10, .move (.const (.int .i64 0)), none⟩]
def f73_r3 : List LOp := [
  ⟨some 11, .binOp .lss 3 (.tmp 10) (.tmp 9) 3, none⟩]
def f73_r4 : List LOp := [
  ⟨some 12, .indexAddr 26 (.tmp 8) (.tmp 10), none⟩,
  ⟨some 13, .load 28 (.tmp 12), none⟩,
  ⟨some 5, .alloc 28, none⟩,
  ⟨none, .store 28 (.tmp 5) (.tmp 13), none⟩]
def f73_r5 : List LOp := [
  ⟨some 14, .move (.tmp 3), none⟩,
  ⟨some 15, .fieldAddr 28 (.tmp 5) 2, none⟩,
  ⟨some 16, .load 26 (.tmp 15), none⟩,
  ⟨some 17, .call { callee := .value (.func 73), args := #[.tmp 16], argTypes := #[26] }, none⟩,
  ⟨some 18, .binOp .add 3 (.tmp 14) (.tmp 17) 3, none⟩,
  ⟨some 3, .assign (.tmp 18), none⟩]
def f73_r6 : List LOp := [
  ⟨some 19, .binOp .add 3 (.tmp 10) (.const (.int .i64 1)) 3, none⟩,
  ⟨some 10, .move (.tmp 19), none⟩]
def f73_l7 : LC := (.seq (.reg f73_r3 [] none) (.seq (.cond (.tmp 11) .skip (.exit 0)) (.seq (.block 1 (.seq (.reg f73_r4 [] none) (.reg f73_r5 [] none))) (.reg f73_r6 [] none))))
def f73_i7 (t3 t8 t9 t10 : D) : List D := [.any, .any, .any, t3, .any, .any, .any, .any, t8, t9, t10, .any, .any, .any, .any, .any, .any, .any, .any, .any, .any]
def f73_r8 : List LOp := [
  ⟨some 20, .move (.tmp 3), none⟩,
  ⟨some 2, .assign (.tmp 20), none⟩]
def f73_c : LC := (.seq (.reg f73_r0 [] none) (.seq (.reg f73_r1 [] none) (.seq (.seq (.reg f73_r2 [] none) (.block 0 (.loop f73_l7))) (.seq (.reg f73_r8 [] none) .ret))))
theorem f73_lc : Try.f73.body.map lc = some f73_c.st := by kernel_rfl
theorem f73_res : Try.f73.results.toList = [.tmp 2] := by kernel_rfl
theorem f73_nt : Try.f73.ntmps = 21 := by kernel_rfl
theorem f73_nm : (Try.f73.name == "runtime.NumGoroutine") = false := by kernel_rfl

/-! quill/quillref06.row -/
def f74_r0 : List LOp := [
  ⟨some 4, .alloc 72, none⟩]
def f74_r1 : List LOp := [
  ⟨some 7, .buildSlice 26 0 #[], none⟩,
  ⟨some 5, .assign (.tmp 7), none⟩]
def f74_r2 : List LOp := [
  ⟨some 8, .move (.tmp 5), none⟩,
  ⟨some 9, .call { callee := .builtin .len, args := #[.tmp 8], argTypes := #[26] }, none⟩,
  ⟨some 10, .binOp .eql 3 (.tmp 9) (.const (.int .i64 0)) 3, none⟩,
  ⟨some 11, .move (.tmp 10), none⟩,
  ⟨some 12, .move (.tmp 0), some (3, false)⟩,
  ⟨some 13, .move (.tmp 1), some (3, false)⟩,
  ⟨some 14, .call { callee := .value (.func 75), args := #[.tmp 12, .tmp 13, .const (.int .u8 46)], argTypes := #[9, 3, 5] }, some (3, false)⟩,
  ⟨some 15, .pick (.tmp 11) (.const (.bool true)) (.tmp 14), none⟩,
  ⟨some 16, .move (.tmp 15), none⟩,
  ⟨some 17, .move (.tmp 0), some (8, false)⟩,
  ⟨some 18, .move (.tmp 1), some (8, false)⟩,
  ⟨some 19, .call { callee := .value (.func 75), args := #[.tmp 17, .tmp 18, .const (.int .u8 91)], argTypes := #[9, 3, 5] }, some (8, false)⟩,
  ⟨some 20, .pick (.tmp 16) (.const (.bool true)) (.tmp 19), none⟩,
  ⟨some 21, .move (.tmp 20), none⟩,
  ⟨some 22, .move (.tmp 0), some (13, false)⟩,
  ⟨some 23, .move (.tmp 1), some (13, false)⟩,
  ⟨some 24, .call { callee := .value (.func 75), args := #[.tmp 22, .tmp 23, .const (.int .u8 40)], argTypes := #[9, 3, 5] }, some (13, false)⟩,
  ⟨some 25, .pick (.tmp 21) (.const (.bool true)) (.tmp 24), none⟩,
  ⟨some 26, .move (.tmp 25), none⟩,
  ⟨some 27, .move (.tmp 0), some (18, false)⟩,
  ⟨some 28, .move (.tmp 1), some (18, false)⟩,
  ⟨some 29, .call { callee := .value (.func 88), args := #[.tmp 27, .tmp 28], argTypes := #[9, 3] }, some (18, false)⟩,
  ⟨some 30, .pick (.tmp 26) (.const (.bool true)) (.tmp 29), none⟩]
def f74_r3 : List LOp := [
  ⟨some 31, .move (.tmp 0), none⟩,
  ⟨some 32, .move (.tmp 1), none⟩,
  ⟨some 33, .call { callee := .value (.func 89), args := #[.tmp 31, .tmp 32], argTypes := #[9, 3] }, none⟩,
  ⟨some 6, .alloc 72, none⟩,
  ⟨none, .store 72 (.tmp 6) (.tmp 33), none⟩]
def f74_r4 : List LOp := [
  ⟨some 34, .fieldAddr 72 (.tmp 6) 2, none⟩,
  ⟨some 35, .load 4 (.tmp 34), none⟩]
def f74_r5 : List LOp := [
  ⟨some 36, .load 72 (.tmp 6), none⟩,
  ⟨none, .store 72 (.tmp 4) (.tmp 36), none⟩]
def f74_r6 : List LOp := [
  ⟨some 37, .fieldAddr 72 (.tmp 6) 1, none⟩,
  ⟨some 38, .load 3 (.tmp 37), none⟩,
  ⟨some 1, .assign (.tmp 38), none⟩]
def f74_r7 : List LOp := [
  ⟨some 39, .move (.tmp 0), none⟩,
  ⟨some 40, .move (.tmp 1), none⟩,
  ⟨some 41, .call { callee := .value (.func 75), args := #[.tmp 39, .tmp 40, .const (.int .u8 42)], argTypes := #[9, 3, 5] }, none⟩]
def f74_r8 : List LOp := [
  ⟨some 42, .fieldAddr 72 (.tmp 6) 0, none⟩,
  ⟨some 43, .load 28 (.tmp 42), none⟩,
  ⟨some 44, .call { callee := .value (.func 31), args := #[.tmp 43], argTypes := #[28] }, none⟩,
  ⟨some 45, .fieldAddr 72 (.tmp 6) 0, none⟩,
  ⟨none, .store 28 (.tmp 45) (.tmp 44), none⟩]
def f74_r9 : List LOp := [
  ⟨some 46, .move (.tmp 1), none⟩,
  ⟨some 47, .binOp .add 3 (.tmp 46) (.const (.int .i64 1)) 3, none⟩,
  ⟨some 1, .assign (.tmp 47), none⟩]
def f74_l10 : LC := (.seq (.seq (.reg f74_r7 [] none) (.cond (.tmp 41) .skip (.exit 2))) (.block 3 (.seq (.reg f74_r8 [] none) (.reg f74_r9 [] none))))
def f74_i10 (t0 t1 t4 t5 t6 : D) : List D := [t0, t1, .any, .any, t4, t5, t6, .any, .any, .any, .any, .any, .any, .any, .any, .any, .any, .any, .any, .any, .any, .any, .any, .any, .any, .any, .any, .any, .any, .any, .any, .any, .any, .any, .any, .any, .any, .any, .any, .any, .any, .any, .any, .any, .any, .any, .any, .any, .any, .any, .any, .any, .any, .any, .any, .any, .any]
def f74_r11 : List LOp := [
  ⟨some 48, .move (.tmp 5), none⟩,
  ⟨some 49, .fieldAddr 72 (.tmp 6) 0, none⟩,
  ⟨some 50, .load 28 (.tmp 49), none⟩,
  ⟨some 51, .buildSlice 26 1 #[(0, .tmp 50)], none⟩,
  ⟨some 52, .call { callee := .builtin .append, args := #[.tmp 48, .tmp 51], argTypes := #[26, 26] }, none⟩,
  ⟨some 5, .assign (.tmp 52), none⟩]
def f74_l12 : LC := (.seq (.seq (.reg f74_r2 [] none) (.cond (.tmp 30) .skip (.exit 0))) (.block 1 (.seq (.reg f74_r3 [] none) (.seq (.seq (.reg f74_r4 [] none) (.cond (.tmp 35) (.seq (.reg f74_r5 [] none) .ret) .skip)) (.seq (.reg f74_r6 [] none) (.seq (.block 2 (.loop f74_l10)) (.reg f74_r11 [] none)))))))
def f74_i12 (t0 t1 t4 t5 : D) : List D := [t0, t1, .any, .any, t4, t5, .any, .any, .any, .any, .any, .any, .any, .any, .any, .any, .any, .any, .any, .any, .any, .any, .any, .any, .any, .any, .any, .any, .any, .any, .any, .any, .any, .any, .any, .any, .any, .any, .any, .any, .any, .any, .any, .any, .any, .any, .any, .any, .any, .any, .any, .any, .any, .any, .any, .any, .any]
def f74_r13 : List LOp := [
  ⟨some 53, .move (.tmp 5), none⟩,
  ⟨some 54, .call { callee := .value (.func 76), args := #[.const (.int .u8 4), .tmp 53], argTypes := #[5, 26] }, none⟩,
  ⟨some 55, .move (.tmp 1), none⟩,
  ⟨some 56, .build 72 #[(0, .tmp 54), (1, .tmp 55)], none⟩,
  ⟨none, .store 72 (.tmp 4) (.tmp 56), none⟩]
def f74_c : LC := (.seq (.reg f74_r0 [] none) (.seq (.reg f74_r1 [0] none) (.seq (.block 0 (.loop f74_l12)) (.seq (.reg f74_r13 [] none) .ret))))
theorem f74_lc : Try.f74.body.map lc = some f74_c.st := by kernel_rfl
theorem f74_res : Try.f74.results.toList = [.cell 4 72] := by kernel_rfl
theorem f74_nt : Try.f74.ntmps = 57 := by kernel_rfl
theorem f74_nm : (Try.f74.name == "runtime.NumGoroutine") = false := by kernel_rfl

/-! quill/quillref06.is -/
def f75_r0 : List LOp := [
  ⟨some 6, .assign (.const (.bool false)), none⟩]
def f75_r1 : List LOp := [
  ⟨some 7, .move (.tmp 1), none⟩,
  ⟨some 8, .move (.tmp 0), none⟩,
  ⟨some 9, .call { callee := .builtin .len, args := #[.tmp 8], argTypes := #[9] }, none⟩,
  ⟨some 10, .binOp .lss 3 (.tmp 7) (.tmp 9) 3, none⟩,
  ⟨some 11, .move (.tmp 10), none⟩,
  ⟨some 12, .move (.tmp 0), some (4, true)⟩,
  ⟨some 13, .move (.tmp 1), some (4, true)⟩,
  ⟨some 14, .index 9 (.tmp 12) (.tmp 13), some (4, true)⟩,
  ⟨some 15, .move (.tmp 2), some (4, true)⟩,
  ⟨some 16, .binOp .eql 5 (.tmp 14) (.tmp 15) 5, some (4, true)⟩,
  ⟨some 17, .pick (.tmp 11) (.tmp 16) (.const (.bool false)), none⟩,
  ⟨some 6, .assign (.tmp 17), none⟩]
def f75_c : LC := (.seq (.reg f75_r0 [] none) (.seq (.reg f75_r1 [] none) .ret))
theorem f75_lc : Try.f75.body.map lc = some f75_c.st := by kernel_rfl
theorem f75_res : Try.f75.results.toList = [.tmp 6] := by kernel_rfl
theorem f75_nt : Try.f75.ntmps = 18 := by kernel_rfl
theorem f75_nm : (Try.f75.name == "runtime.NumGoroutine") = false := by kernel_rfl

/-! quill/quillref03.Fold -/
def f76_r0 : List LOp := [
  ⟨some 4, .alloc 28, none⟩]
def f76_r1 : List LOp := [
  ⟨some 5, .move (.tmp 1), none⟩,
  ⟨some 6, .call { callee := .builtin .len, args := #[.tmp 5], argTypes := #[26] }, none⟩,
  ⟨some 7, .binOp .eql 3 (.tmp 6) (.const (.int .i64 0)) 3, none⟩]
def f76_r2 : List LOp := [
  ⟨some 8, .move (.tmp 0), none⟩,
  ⟨some 9, .binOp .eql 5 (.tmp 8) (.const (.int .u8 4)) 5, none⟩]
def f76_r3 : List LOp := [
  ⟨some 10, .call { callee := .value (.func 90), args := #[.const (.int .u8 2)], argTypes := #[5] }, none⟩,
  ⟨none, .store 28 (.tmp 4) (.tmp 10), none⟩]
def f76_r4 : List LOp := [
  ⟨some 11, .call { callee := .value (.func 90), args := #[.const (.int .u8 1)], argTypes := #[5] }, none⟩,
  ⟨none, .store 28 (.tmp 4) (.tmp 11), none⟩]
def f76_r5 : List LOp := [
  ⟨some 12, .move (.tmp 1), none⟩,
  ⟨some 13, .call { callee := .builtin .len, args := #[.tmp 12], argTypes := #[26] }, none⟩,
  ⟨some 14, .binOp .eql 3 (.tmp 13) (.const (.int .i64 1)) 3, none⟩]
def f76_r6 : List LOp := [
  ⟨some 15, .move (.tmp 1), none⟩,
  ⟨some 16, .indexAddr 26 (.tmp 15) (.const (.int .i64 0)), none⟩,
  ⟨some 17, .load 28 (.tmp 16), none⟩,
  ⟨none, .store 28 (.tmp 4) (.tmp 17), none⟩]
def f76_r7 : List LOp := [
  ⟨some 18, .move (.tmp 0), none⟩,
  ⟨some 19, .move (.tmp 1), none⟩,
  ⟨some 20, .indexAddr 26 (.tmp 19) (.const (.int .i64 0)), none⟩,
  ⟨some 21, .load 28 (.tmp 20), none⟩,
  ⟨some 22, .move (.tmp 0), none⟩,
  ⟨some 23, .move (.tmp 1), none⟩,
  ⟨some 24, .slice 26 (.tmp 23) (some (.const (.int .i64 1))) none none, none⟩,
  ⟨some 25, .call { callee := .value (.func 76), args := #[.tmp 22, .tmp 24], argTypes := #[5, 26] }, none⟩,
  ⟨some 26, .call { callee := .value (.func 19), args := #[.tmp 18, .tmp 21, .tmp 25], argTypes := #[5, 28, 28] }, none⟩,
  ⟨none, .store 28 (.tmp 4) (.tmp 26), none⟩]
def f76_c : LC := (.seq (.reg f76_r0 [] none) (.seq (.seq (.reg f76_r1 [] none) (.cond (.tmp 7) (.seq (.seq (.reg f76_r2 [] none) (.cond (.tmp 9) (.seq (.reg f76_r3 [] none) .ret) .skip)) (.seq (.reg f76_r4 [] none) .ret)) .skip)) (.seq (.seq (.reg f76_r5 [] none) (.cond (.tmp 14) (.seq (.reg f76_r6 [] none) .ret) .skip)) (.seq (.reg f76_r7 [] (some 8)) .ret))))
theorem f76_lc : Try.f76.body.map lc = some f76_c.st := by kernel_rfl
theorem f76_res : Try.f76.results.toList = [.cell 4 28] := by kernel_rfl
theorem f76_nt : Try.f76.ntmps = 27 := by kernel_rfl
theorem f76_nm : (Try.f76.name == "runtime.NumGoroutine") = false := by kernel_rfl

/-! slices.IndexFunc[[]string,string] -/
def f77_r0 : List LOp := [
  ⟨some 4, .assign (.const (.int .i64 0)), none⟩]
def f77_r1 : List LOp := [
  ⟨some 6, .move (.tmp 0), none⟩,
  ⟨some 7, .call { callee := .builtin .len, args := #[.tmp 6], argTypes := #[41] }, none⟩,
  ⟨some 8, .move (.const (.int .i64 0)), none⟩]
def f77_r2 : List LOp := [
  ⟨some 9, .binOp .lss 3 (.tmp 8) (.tmp 7) 3, none⟩]
def f77_r3 : List LOp := [
  ⟨some 10, .move (.tmp 8), none⟩,
  ⟨some 5, .assign (.tmp 10), none⟩]
def f77_r4 : List LOp := [
  ⟨some 11, .move (.tmp 1), none⟩,
  ⟨some 12, .move (.tmp 0), none⟩,
  ⟨some 13, .move (.tmp 5), none⟩,
  ⟨some 14, .indexAddr 41 (.tmp 12) (.tmp 13), none⟩,
  ⟨some 15, .load 9 (.tmp 14), none⟩,
  ⟨some 16, .call { callee := .value (.tmp 11), args := #[.tmp 15], argTypes := #[9] }, none⟩]
def f77_r5 : List LOp := [
  ⟨some 17, .move (.tmp 5), none⟩,
  ⟨some 4, .assign (.tmp 17), none⟩]
def f77_r6 : List LOp := [
  ⟨some 18, .binOp .add 3 (.tmp 8) (.const (.int .i64 1)) 3, none⟩,
  ⟨some 8, .move (.tmp 18), none⟩]
def f77_l7 : LC := (.seq (.reg f77_r2 [] none) (.seq (.cond (.tmp 9) .skip (.exit 0)) (.seq (.block 1 (.seq (.reg f77_r3 [] none) (.seq (.reg f77_r4 [] none) (.cond (.tmp 16) (.seq (.reg f77_r5 [] none) .ret) .skip)))) (.reg f77_r6 [] none))))
def f77_i7 (t0 t1 t7 t8 : D) : List D := [t0, t1, .any, .any, .any, .any, .any, t7, t8, .any, .any, .any, .any, .any, .any, .any, .any, .any, .any]
def f77_r8 : List LOp := [
  ⟨some 4, .assign (.const (.int .i64 (-1))), none⟩]
def f77_c : LC := (.seq (.reg f77_r0 [] none) (.seq (.seq (.reg f77_r1 [] none) (.block 0 (.loop f77_l7))) (.seq (.reg f77_r8 [] none) .ret)))
theorem f77_lc : Try.f77.body.map lc = some f77_c.st := by kernel_rfl
theorem f77_res : Try.f77.results.toList = [.tmp 4] := by kernel_rfl
theorem f77_nt : Try.f77.ntmps = 19 := by kernel_rfl
theorem f77_nm : (Try.f77.name == "runtime.NumGoroutine") = false := by kernel_rfl

/-! (*quill/read.reader).row -/
def f83_r0 : List LOp := [
  ⟨some 2, .alloc 28, none⟩]
def f83_r1 : List LOp := [
  ⟨some 4, .move (.tmp 0), none⟩,
  ⟨some 5, .call { callee := .value (.func 93), args := #[.tmp 4], argTypes := #[67] }, none⟩,
  ⟨some 6, .buildSlice 26 1 #[(0, .tmp 5)], none⟩,
  ⟨some 3, .assign (.tmp 6), none⟩]
def f83_r2 : List LOp := [
  ⟨some 7, .move (.tmp 0), none⟩,
  ⟨some 8, .call { callee := .value (.func 84), args := #[.tmp 7, .const (.string { data := #[46, 91, 40] })], argTypes := #[67, 9] }, none⟩,
  ⟨some 9, .move (.tmp 8), none⟩,
  ⟨some 10, .move (.tmp 0), some (2, false)⟩,
  ⟨some 11, .call { callee := .value (.func 94), args := #[.tmp 10], argTypes := #[67] }, some (2, false)⟩,
  ⟨some 12, .pick (.tmp 9) (.const (.bool true)) (.tmp 11), none⟩]
def f83_r3 : List LOp := [
  ⟨some 13, .move (.tmp 3), none⟩,
  ⟨some 14, .move (.tmp 0), none⟩,
  ⟨some 15, .call { callee := .value (.func 93), args := #[.tmp 14], argTypes := #[67] }, none⟩,
  ⟨some 16, .buildSlice 26 1 #[(0, .tmp 15)], none⟩,
  ⟨some 17, .call { callee := .builtin .append, args := #[.tmp 13, .tmp 16], argTypes := #[26, 26] }, none⟩,
  ⟨some 3, .assign (.tmp 17), none⟩]
def f83_l4 : LC := (.seq (.seq (.reg f83_r2 [] none) (.cond (.tmp 12) .skip (.exit 0))) (.block 1 (.reg f83_r3 [] none)))
def f83_i4 (t0 t2 t3 : D) : List D := [t0, .any, t2, t3, .any, .any, .any, .any, .any, .any, .any, .any, .any, .any, .any, .any, .any, .any, .any, .any]
def f83_r5 : List LOp := [
  ⟨some 18, .move (.tmp 3), none⟩,
  ⟨some 19, .call { callee := .value (.func 95), args := #[.tmp 18], argTypes := #[26] }, none⟩,
  ⟨none, .store 28 (.tmp 2) (.tmp 19), none⟩]
def f83_c : LC := (.seq (.reg f83_r0 [] none) (.seq (.reg f83_r1 [2] none) (.seq (.block 0 (.loop f83_l4)) (.seq (.reg f83_r5 [] none) .ret))))
theorem f83_lc : Try.f83.body.map lc = some f83_c.st := by kernel_rfl
theorem f83_res : Try.f83.results.toList = [.cell 2 28] := by kernel_rfl
theorem f83_nt : Try.f83.ntmps = 20 := by kernel_rfl
theorem f83_nm : (Try.f83.name == "runtime.NumGoroutine") = false := by kernel_rfl

/-! (*quill/read.reader).is -/
def f84_r0 : List LOp := [
  ⟨some 4, .assign (.const (.bool false)), none⟩]
def f84_r1 : List LOp := [
  ⟨some 5, .move (.tmp 0), none⟩,
  ⟨some 6, .nilCheck (.tmp 5), none⟩,
  ⟨some 7, .fieldAddr 69 (.tmp 6) 1, none⟩,
  ⟨some 8, .load 3 (.tmp 7), none⟩,
  ⟨some 9, .move (.tmp 0), none⟩,
  ⟨some 10, .nilCheck (.tmp 9), none⟩,
  ⟨some 11, .fieldAddr 69 (.tmp 10) 0, none⟩,
  ⟨some 12, .load 9 (.tmp 11), none⟩,
  ⟨some 13, .call { callee := .builtin .len, args := #[.tmp 12], argTypes := #[9] }, none⟩,
  ⟨some 14, .binOp .lss 3 (.tmp 8) (.tmp 13) 3, none⟩,
  ⟨some 15, .move (.tmp 14), none⟩,
  ⟨some 16, .move (.tmp 1), some (10, true)⟩,
  ⟨some 17, .move (.tmp 0), some (10, true)⟩,
  ⟨some 18, .nilCheck (.tmp 17), some (10, true)⟩,
  ⟨some 19, .fieldAddr 69 (.tmp 18) 0, some (10, true)⟩,
  ⟨some 20, .load 9 (.tmp 19), some (10, true)⟩,
  ⟨some 21, .move (.tmp 0), some (10, true)⟩,
  ⟨some 22, .nilCheck (.tmp 21), some (10, true)⟩,
  ⟨some 23, .fieldAddr 69 (.tmp 22) 1, some (10, true)⟩,
  ⟨some 24, .load 3 (.tmp 23), some (10, true)⟩,
  ⟨some 25, .index 9 (.tmp 20) (.tmp 24), some (10, true)⟩,
  ⟨some 26, .call { callee := .value (.func 96), args := #[.tmp 16, .tmp 25], argTypes := #[9, 5] }, some (10, true)⟩,
  ⟨some 27, .binOp .geq 3 (.tmp 26) (.const (.int .i64 0)) 3, some (10, true)⟩,
  ⟨some 28, .pick (.tmp 15) (.tmp 27) (.const (.bool false)), none⟩,
  ⟨some 4, .assign (.tmp 28), none⟩]
def f84_c : LC := (.seq (.reg f84_r0 [] none) (.seq (.reg f84_r1 [] (some 24)) .ret))
theorem f84_lc : Try.f84.body.map lc = some f84_c.st := by kernel_rfl
theorem f84_res : Try.f84.results.toList = [.tmp 4] := by kernel_rfl
theorem f84_nt : Try.f84.ntmps = 29 := by kernel_rfl
theorem f84_nm : (Try.f84.name == "runtime.NumGoroutine") = false := by kernel_rfl

/-! quill/rex.Or -/
def f85_r0 : List LOp := [
  ⟨some 2, .alloc 28, none⟩]
def f85_r1 : List LOp := [
  ⟨some 3, .move (.tmp 0), none⟩,
  ⟨some 4, .call { callee := .value (.func 97), args := #[.const (.int .u8 5), .const (.int .u8 1), .tmp 3], argTypes := #[5, 5, 26] }, none⟩,
  ⟨none, .store 28 (.tmp 2) (.tmp 4), none⟩]
def f85_c : LC := (.seq (.reg f85_r0 [] none) (.seq (.reg f85_r1 [] none) .ret))
theorem f85_lc : Try.f85.body.map lc = some f85_c.st := by kernel_rfl
theorem f85_res : Try.f85.results.toList = [.cell 2 28] := by kernel_rfl
theorem f85_nt : Try.f85.ntmps = 5 := by kernel_rfl
theorem f85_nm : (Try.f85.name == "runtime.NumGoroutine") = false := by kernel_rfl

/-! quill/rex.node -/
def f86_r0 : List LOp := [
  ⟨some 1, .box 28 (.tmp 0), none⟩,
  ⟨some 2, .assign (.const (.bool false)), none⟩]
def f86_r1 : List LOp := [
  ⟨some 5, .fieldAddr 28 (.tmp 1) 2, none⟩,
  ⟨some 6, .load 26 (.tmp 5), none⟩,
  ⟨some 7, .call { callee := .builtin .len, args := #[.tmp 6], argTypes := #[26] }, none⟩,
  ⟨some 8, .fieldAddr 28 (.tmp 1) 1, none⟩,
  ⟨some 9, .load 25 (.tmp 8), none⟩,
  ⟨some 10, .build 25 #[], none⟩,
  ⟨some 11, .binOp .eql 25 (.tmp 9) (.tmp 10) 25, none⟩,
  ⟨some 3, .assign (.tmp 7), none⟩,
  ⟨some 4, .assign (.tmp 11), none⟩]
def f86_r2 : List LOp := [
  ⟨some 12, .fieldAddr 28 (.tmp 1) 0, none⟩,
  ⟨some 13, .load 5 (.tmp 12), none⟩]
def f86_r3 : List LOp := [
  ⟨some 15, .binOp .eql 5 (.tmp 13) (.const (.int .u8 1)) 5, none⟩,
  ⟨some 14, .assign (.tmp 15), none⟩]
def f86_r4 : List LOp := [
  ⟨some 16, .binOp .eql 5 (.tmp 13) (.const (.int .u8 2)) 5, none⟩,
  ⟨some 14, .assign (.tmp 16), none⟩]
def f86_r5 : List LOp := [
  ⟨some 17, .move (.tmp 3), none⟩,
  ⟨some 18, .binOp .eql 3 (.tmp 17) (.const (.int .i64 0)) 3, none⟩,
  ⟨some 19, .move (.tmp 18), none⟩,
  ⟨some 20, .move (.tmp 4), some (2, true)⟩,
  ⟨some 21, .pick (.tmp 19) (.tmp 20) (.const (.bool false)), none⟩,
  ⟨some 2, .assign (.tmp 21), none⟩]
def f86_r6 : List LOp := [
  ⟨some 23, .binOp .eql 5 (.tmp 13) (.const (.int .u8 3)) 5, none⟩,
  ⟨some 22, .assign (.tmp 23), none⟩]
def f86_r7 : List LOp := [
  ⟨some 24, .move (.tmp 3), none⟩,
  ⟨some 25, .binOp .eql 3 (.tmp 24) (.const (.int .i64 0)) 3, none⟩,
  ⟨some 26, .move (.tmp 25), none⟩,
  ⟨some 27, .move (.tmp 4), some (2, true)⟩,
  ⟨some 28, .unOp .not 4 (.tmp 27), some (2, true)⟩,
  ⟨some 29, .pick (.tmp 26) (.tmp 28) (.const (.bool false)), none⟩,
  ⟨some 2, .assign (.tmp 29), none⟩]
def f86_r8 : List LOp := [
  ⟨some 31, .binOp .eql 5 (.tmp 13) (.const (.int .u8 4)) 5, none⟩,
  ⟨some 30, .assign (.tmp 31), none⟩]
def f86_r9 : List LOp := [
  ⟨some 32, .binOp .eql 5 (.tmp 13) (.const (.int .u8 5)) 5, none⟩,
  ⟨some 30, .assign (.tmp 32), none⟩]
def f86_r10 : List LOp := [
  ⟨some 33, .move (.tmp 3), none⟩,
  ⟨some 34, .binOp .eql 3 (.tmp 33) (.const (.int .i64 2)) 3, none⟩,
  ⟨some 35, .move (.tmp 34), none⟩,
  ⟨some 36, .move (.tmp 4), some (2, true)⟩,
  ⟨some 37, .pick (.tmp 35) (.tmp 36) (.const (.bool false)), none⟩,
  ⟨some 2, .assign (.tmp 37), none⟩]
def f86_r11 : List LOp := [
  ⟨some 39, .binOp .eql 5 (.tmp 13) (.const (.int .u8 6)) 5, none⟩,
  ⟨some 38, .assign (.tmp 39), none⟩]
def f86_r12 : List LOp := [
  ⟨some 40, .move (.tmp 3), none⟩,
  ⟨some 41, .binOp .eql 3 (.tmp 40) (.const (.int .i64 1)) 3, none⟩,
  ⟨some 42, .move (.tmp 41), none⟩,
  ⟨some 43, .move (.tmp 4), some (2, true)⟩,
  ⟨some 44, .pick (.tmp 42) (.tmp 43) (.const (.bool false)), none⟩,
  ⟨some 2, .assign (.tmp 44), none⟩]
def f86_r13 : List LOp := [
  ⟨some 2, .assign (.const (.bool false)), none⟩]
def f86_c : LC := (.seq (.reg f86_r0 [] none) (.seq (.regp f86_r1 [] [] 8) (.seq (.seq (.reg f86_r2 [] none) (.block 0 (.seq (.seq (.reg f86_r3 [] none) (.cond (.tmp 14) .skip (.reg f86_r4 [] none))) (.cond (.tmp 14) (.seq (.reg f86_r5 [] none) .ret) (.seq (.reg f86_r6 [] none) (.cond (.tmp 22) (.seq (.reg f86_r7 [] none) .ret) (.seq (.seq (.reg f86_r8 [] none) (.cond (.tmp 30) .skip (.reg f86_r9 [] none))) (.cond (.tmp 30) (.seq (.reg f86_r10 [] none) .ret) (.seq (.reg f86_r11 [] none) (.cond (.tmp 38) (.seq (.reg f86_r12 [] none) .ret) .skip)))))))))) (.seq (.reg f86_r13 [] none) .ret))))
theorem f86_lc : Try.f86.body.map lc = some f86_c.st := by kernel_rfl
theorem f86_res : Try.f86.results.toList = [.tmp 2] := by kernel_rfl
theorem f86_nt : Try.f86.ntmps = 45 := by kernel_rfl
theorem f86_nm : (Try.f86.name == "runtime.NumGoroutine") = false := by kernel_rfl

/-! quill/rex.nodes$1 -/
def f87_r0 : List LOp := [
  ⟨some 1, .box 28 (.tmp 0), none⟩,
  ⟨some 2, .assign (.const (.bool false)), none⟩]
def f87_r1 : List LOp := [
  ⟨some 3, .load 28 (.tmp 1), none⟩,
  ⟨some 4, .call { callee := .value (.func 72), args := #[.tmp 3], argTypes := #[28] }, none⟩,
  ⟨some 5, .unOp .not 4 (.tmp 4), none⟩,
  ⟨some 2, .assign (.tmp 5), none⟩]
def f87_c : LC := (.seq (.reg f87_r0 [] none) (.seq (.reg f87_r1 [] none) .ret))
theorem f87_lc : Try.f87.body.map lc = some f87_c.st := by kernel_rfl
theorem f87_res : Try.f87.results.toList = [.tmp 2] := by kernel_rfl
theorem f87_nt : Try.f87.ntmps = 6 := by kernel_rfl
theorem f87_nm : (Try.f87.name == "runtime.NumGoroutine") = false := by kernel_rfl

/-! quill/quillref06.begins -/
def f88_r0 : List LOp := [
  ⟨some 4, .assign (.const (.bool false)), none⟩]
def f88_r1 : List LOp := [
  ⟨some 5, .move (.tmp 1), none⟩,
  ⟨some 6, .move (.tmp 0), none⟩,
  ⟨some 7, .call { callee := .builtin .len, args := #[.tmp 6], argTypes := #[9] }, none⟩,
  ⟨some 8, .binOp .lss 3 (.tmp 5) (.tmp 7) 3, none⟩,
  ⟨some 9, .move (.tmp 8), none⟩,
  ⟨some 10, .move (.tmp 0), some (4, true)⟩,
  ⟨some 11, .move (.tmp 1), some (4, true)⟩,
  ⟨some 12, .index 9 (.tmp 10) (.tmp 11), some (4, true)⟩,
  ⟨some 13, .binOp .eql 5 (.tmp 12) (.const (.int .u8 92)) 5, some (4, true)⟩,
  ⟨some 14, .move (.tmp 13), some (4, true)⟩,
  ⟨some 15, .move (.tmp 0), some (9, false)⟩,
  ⟨some 16, .move (.tmp 1), some (9, false)⟩,
  ⟨some 17, .index 9 (.tmp 15) (.tmp 16), some (9, false)⟩,
  ⟨some 18, .call { callee := .value (.func 98), args := #[.tmp 17], argTypes := #[5] }, some (9, false)⟩,
  ⟨some 19, .move (.tmp 0), some (9, false)⟩,
  ⟨some 20, .move (.tmp 1), some (9, false)⟩,
  ⟨some 21, .move (.tmp 1), some (9, false)⟩,
  ⟨some 22, .binOp .add 3 (.tmp 21) (.const (.int .i64 1)) 3, some (9, false)⟩,
  ⟨some 23, .slice 9 (.tmp 19) (some (.tmp 20)) (some (.tmp 22)) none, some (9, false)⟩,
  ⟨some 24, .binOp .eql 9 (.tmp 18) (.tmp 23) 9, some (9, false)⟩,
  ⟨some 25, .pick (.tmp 14) (.const (.bool true)) (.tmp 24), some (4, true)⟩,
  ⟨some 26, .pick (.tmp 9) (.tmp 25) (.const (.bool false)), none⟩,
  ⟨some 4, .assign (.tmp 26), none⟩]
def f88_c : LC := (.seq (.reg f88_r0 [] none) (.seq (.reg f88_r1 [] (some 19)) .ret))
theorem f88_lc : Try.f88.body.map lc = some f88_c.st := by kernel_rfl
theorem f88_res : Try.f88.results.toList = [.tmp 4] := by kernel_rfl
theorem f88_nt : Try.f88.ntmps = 27 := by kernel_rfl
theorem f88_nm : (Try.f88.name == "runtime.NumGoroutine") = false := by kernel_rfl

/-! quill/quillref06.atom -/
def f89_r0 : List LOp := [
  ⟨some 4, .alloc 72, none⟩]
def f89_r1 : List LOp := [
  ⟨some 8, .move (.tmp 0), none⟩,
  ⟨some 9, .move (.tmp 1), none⟩,
  ⟨some 10, .call { callee := .value (.func 75), args := #[.tmp 8, .tmp 9, .const (.int .u8 46)], argTypes := #[9, 3, 5] }, none⟩]
def f89_r2 : List LOp := [
  ⟨some 11, .call { callee := .value (.func 100), args := #[.const (.int .i64 0), .const (.int .i64 255)], argTypes := #[3, 3] }, none⟩,
  ⟨some 12, .call { callee := .value (.func 99), args := #[.tmp 11], argTypes := #[25] }, none⟩,
  ⟨some 13, .move (.tmp 1), none⟩,
  ⟨some 14, .binOp .add 3 (.tmp 13) (.const (.int .i64 1)) 3, none⟩,
  ⟨some 15, .build 72 #[(0, .tmp 12), (1, .tmp 14)], none⟩,
  ⟨none, .store 72 (.tmp 4) (.tmp 15), none⟩]
def f89_r3 : List LOp := [
  ⟨some 16, .move (.tmp 0), none⟩,
  ⟨some 17, .move (.tmp 1), none⟩,
  ⟨some 18, .call { callee := .value (.func 75), args := #[.tmp 16, .tmp 17, .const (.int .u8 91)], argTypes := #[9, 3, 5] }, none⟩]
def f89_r4 : List LOp := [
  ⟨some 19, .move (.tmp 0), none⟩,
  ⟨some 20, .move (.tmp 1), none⟩,
  ⟨some 21, .binOp .add 3 (.tmp 20) (.const (.int .i64 1)) 3, none⟩,
  ⟨some 22, .call { callee := .value (.func 101), args := #[.tmp 19, .tmp 21], argTypes := #[9, 3] }, none⟩,
  ⟨none, .store 72 (.tmp 4) (.tmp 22), none⟩]
def f89_r5 : List LOp := [
  ⟨some 23, .move (.tmp 0), none⟩,
  ⟨some 24, .move (.tmp 1), none⟩,
  ⟨some 25, .call { callee := .value (.func 75), args := #[.tmp 23, .tmp 24, .const (.int .u8 40)], argTypes := #[9, 3, 5] }, none⟩]
def f89_r6 : List LOp := [
  ⟨some 26, .move (.tmp 0), none⟩,
  ⟨some 27, .move (.tmp 1), none⟩,
  ⟨some 28, .binOp .add 3 (.tmp 27) (.const (.int .i64 1)) 3, none⟩,
  ⟨some 29, .call { callee := .value (.func 75), args := #[.tmp 26, .tmp 28, .const (.int .u8 41)], argTypes := #[9, 3, 5] }, none⟩]
def f89_r7 : List LOp := [
  ⟨some 30, .call { callee := .value (.func 90), args := #[.const (.int .u8 2)], argTypes := #[5] }, none⟩,
  ⟨some 31, .move (.tmp 1), none⟩,
  ⟨some 32, .binOp .add 3 (.tmp 31) (.const (.int .i64 2)) 3, none⟩,
  ⟨some 33, .build 72 #[(0, .tmp 30), (1, .tmp 32)], none⟩,
  ⟨none, .store 72 (.tmp 4) (.tmp 33), none⟩]
def f89_r8 : List LOp := [
  ⟨some 34, .move (.tmp 0), none⟩,
  ⟨some 35, .move (.tmp 1), none⟩,
  ⟨some 36, .binOp .add 3 (.tmp 35) (.const (.int .i64 1)) 3, none⟩,
  ⟨some 37, .call { callee := .value (.func 47), args := #[.tmp 34, .tmp 36], argTypes := #[9, 3] }, none⟩,
  ⟨some 5, .alloc 72, none⟩,
  ⟨none, .store 72 (.tmp 5) (.tmp 37), none⟩]
def f89_r9 : List LOp := [
  ⟨some 38, .fieldAddr 72 (.tmp 5) 2, none⟩,
  ⟨some 39, .load 4 (.tmp 38), none⟩]
def f89_r10 : List LOp := [
  ⟨some 40, .load 72 (.tmp 5), none⟩,
  ⟨none, .store 72 (.tmp 4) (.tmp 40), none⟩]
def f89_r11 : List LOp := [
  ⟨some 41, .move (.tmp 0), none⟩,
  ⟨some 42, .fieldAddr 72 (.tmp 5) 1, none⟩,
  ⟨some 43, .load 3 (.tmp 42), none⟩,
  ⟨some 44, .call { callee := .value (.func 75), args := #[.tmp 41, .tmp 43, .const (.int .u8 41)], argTypes := #[9, 3, 5] }, none⟩,
  ⟨some 45, .unOp .not 4 (.tmp 44), none⟩]
def f89_r12 : List LOp := [
  ⟨some 46, .fieldAddr 72 (.tmp 5) 1, none⟩,
  ⟨some 47, .load 3 (.tmp 46), none⟩,
  ⟨some 48, .call { callee := .value (.func 102), args := #[.tmp 47], argTypes := #[3] }, none⟩,
  ⟨none, .store 72 (.tmp 4) (.tmp 48), none⟩]
def f89_r13 : List LOp := [
  ⟨some 49, .fieldAddr 72 (.tmp 5) 0, none⟩,
  ⟨some 50, .load 28 (.tmp 49), none⟩,
  ⟨some 51, .fieldAddr 72 (.tmp 5) 1, none⟩,
  ⟨some 52, .load 3 (.tmp 51), none⟩,
  ⟨some 53, .binOp .add 3 (.tmp 52) (.const (.int .i64 1)) 3, none⟩,
  ⟨some 54, .build 72 #[(0, .tmp 50), (1, .tmp 53)], none⟩,
  ⟨none, .store 72 (.tmp 4) (.tmp 54), none⟩]
def f89_r14 : List LOp := [
  ⟨some 56, .move (.tmp 0), none⟩,
  ⟨some 57, .move (.tmp 1), none⟩,
  ⟨some 58, .call { callee := .value (.func 103), args := #[.tmp 56, .tmp 57], argTypes := #[9, 3] }, none⟩,
  ⟨some 55, .move (.tmp 58), none⟩,
  ⟨some 59, .extract (.tmp 55) 0, none⟩,
  ⟨some 60, .extract (.tmp 55) 1, none⟩,
  ⟨some 6, .assign (.tmp 59), none⟩,
  ⟨some 7, .assign (.tmp 60), none⟩]
def f89_r15 : List LOp := [
  ⟨some 61, .move (.tmp 6), none⟩,
  ⟨some 62, .binOp .lss 3 (.tmp 61) (.const (.int .i64 0)) 3, none⟩]
def f89_r16 : List LOp := [
  ⟨some 63, .move (.tmp 7), none⟩,
  ⟨some 64, .call { callee := .value (.func 102), args := #[.tmp 63], argTypes := #[3] }, none⟩,
  ⟨none, .store 72 (.tmp 4) (.tmp 64), none⟩]
def f89_r17 : List LOp := [
  ⟨some 65, .move (.tmp 6), none⟩,
  ⟨some 66, .convert 3 5 (.tmp 65), none⟩,
  ⟨some 67, .buildSlice 37 1 #[(0, .tmp 66)], none⟩,
  ⟨some 68, .call { callee := .value (.func 104), args := #[.tmp 67], argTypes := #[37] }, none⟩,
  ⟨some 69, .call { callee := .value (.func 99), args := #[.tmp 68], argTypes := #[25] }, none⟩,
  ⟨some 70, .move (.tmp 7), none⟩,
  ⟨some 71, .build 72 #[(0, .tmp 69), (1, .tmp 70)], none⟩,
  ⟨none, .store 72 (.tmp 4) (.tmp 71), none⟩]
def f89_c : LC := (.seq (.reg f89_r0 [] none) (.seq (.seq (.reg f89_r1 [] none) (.cond (.tmp 10) (.seq (.reg f89_r2 [] none) .ret) .skip)) (.seq (.seq (.reg f89_r3 [] none) (.cond (.tmp 18) (.seq (.reg f89_r4 [] none) .ret) .skip)) (.seq (.seq (.reg f89_r5 [] none) (.cond (.tmp 25) (.seq (.seq (.reg f89_r6 [] none) (.cond (.tmp 29) (.seq (.reg f89_r7 [] none) .ret) .skip)) (.seq (.reg f89_r8 [] none) (.seq (.seq (.reg f89_r9 [] none) (.cond (.tmp 39) (.seq (.reg f89_r10 [] none) .ret) .skip)) (.seq (.seq (.reg f89_r11 [] none) (.cond (.tmp 45) (.seq (.reg f89_r12 [] none) .ret) .skip)) (.seq (.reg f89_r13 [] none) .ret))))) .skip)) (.seq (.reg f89_r14 [] none) (.seq (.seq (.reg f89_r15 [] none) (.cond (.tmp 62) (.seq (.reg f89_r16 [] none) .ret) .skip)) (.seq (.reg f89_r17 [] none) .ret)))))))
theorem f89_lc : Try.f89.body.map lc = some f89_c.st := by kernel_rfl
theorem f89_res : Try.f89.results.toList = [.cell 4 72] := by kernel_rfl
theorem f89_nt : Try.f89.ntmps = 72 := by kernel_rfl
theorem f89_nm : (Try.f89.name == "runtime.NumGoroutine") = false := by kernel_rfl

/-! quill/quillref03.Bare -/
def f90_r0 : List LOp := [
  ⟨some 2, .alloc 28, none⟩]
def f90_r1 : List LOp := [
  ⟨some 3, .move (.tmp 0), none⟩,
  ⟨some 4, .build 28 #[(0, .tmp 3)], none⟩,
  ⟨none, .store 28 (.tmp 2) (.tmp 4), none⟩]
def f90_c : LC := (.seq (.reg f90_r0 [] none) (.seq (.reg f90_r1 [] none) .ret))
theorem f90_lc : Try.f90.body.map lc = some f90_c.st := by kernel_rfl
theorem f90_res : Try.f90.results.toList = [.cell 2 28] := by kernel_rfl
theorem f90_nt : Try.f90.ntmps = 5 := by kernel_rfl
theorem f90_nm : (Try.f90.name == "runtime.NumGoroutine") = false := by kernel_rfl

/-! quill/quillref02.Has -/
def f91_r0 : List LOp := [
  ⟨some 2, .box 25 (.tmp 0), none⟩,
  ⟨some 4, .assign (.const (.bool false)), none⟩]
def f91_r1 : List LOp := [
  ⟨some 7, .move (.tmp 1), none⟩,
  ⟨some 8, .binOp .quo 3 (.tmp 7) (.const (.int .i64 64)) 3, none⟩,
  ⟨some 9, .indexAddr 25 (.tmp 2) (.tmp 8), none⟩,
  ⟨some 10, .load 23 (.tmp 9), none⟩,
  ⟨some 5, .assign (.tmp 10), none⟩]
def f91_r2 : List LOp := [
  ⟨some 6, .assign (.const (.int .i64 0)), none⟩]
def f91_r3 : List LOp := [
  ⟨some 11, .move (.tmp 6), none⟩,
  ⟨some 12, .move (.tmp 1), none⟩,
  ⟨some 13, .binOp .rem 3 (.tmp 12) (.const (.int .i64 64)) 3, none⟩,
  ⟨some 14, .binOp .lss 3 (.tmp 11) (.tmp 13) 3, none⟩]
def f91_r4 : List LOp := [
  ⟨some 17, .move (.tmp 5), none⟩,
  ⟨some 18, .binOp .quo 23 (.tmp 17) (.const (.int .u64 2)) 23, none⟩,
  ⟨some 5, .assign (.tmp 18), none⟩]
def f91_r5 : List LOp := [
  ⟨some 15, .move (.tmp 6), none⟩,
  ⟨some 16, .binOp .add 3 (.tmp 15) (.const (.int .i64 1)) 3, none⟩,
  ⟨some 6, .assign (.tmp 16), none⟩]
def f91_l6 : LC := (.seq (.seq (.reg f91_r3 [] none) (.cond (.tmp 14) .skip (.exit 0))) (.seq (.block 1 (.reg f91_r4 [] none)) (.reg f91_r5 [] none)))
def f91_i6 (t1 t5 t6 : D) : List D := [.any, t1, .any, .any, .any, t5, t6, .any, .any, .any, .any, .any, .any, .any, .any, .any, .any, .any, .any, .any, .any, .any]
def f91_r7 : List LOp := [
  ⟨some 19, .move (.tmp 5), none⟩,
  ⟨some 20, .binOp .rem 23 (.tmp 19) (.const (.int .u64 2)) 23, none⟩,
  ⟨some 21, .binOp .eql 23 (.tmp 20) (.const (.int .u64 1)) 23, none⟩,
  ⟨some 4, .assign (.tmp 21), none⟩]
def f91_c : LC := (.seq (.reg f91_r0 [] none) (.seq (.reg f91_r1 [] none) (.seq (.seq (.reg f91_r2 [] none) (.block 0 (.loop f91_l6))) (.seq (.reg f91_r7 [] none) .ret))))
theorem f91_lc : Try.f91.body.map lc = some f91_c.st := by kernel_rfl
theorem f91_res : Try.f91.results.toList = [.tmp 4] := by kernel_rfl
theorem f91_nt : Try.f91.ntmps = 22 := by kernel_rfl
theorem f91_nm : (Try.f91.name == "runtime.NumGoroutine") = false := by kernel_rfl

/-! (*quill/read.reader).part -/
def f93_r0 : List LOp := [
  ⟨some 2, .alloc 28, none⟩]
def f93_r1 : List LOp := [
  ⟨some 4, .move (.tmp 0), none⟩,
  ⟨some 5, .call { callee := .value (.func 105), args := #[.tmp 4], argTypes := #[67] }, none⟩,
  ⟨some 3, .alloc 28, none⟩,
  ⟨none, .store 28 (.tmp 3) (.tmp 5), none⟩]
def f93_r2 : List LOp := [
  ⟨some 6, .move (.tmp 0), none⟩,
  ⟨some 7, .call { callee := .value (.func 84), args := #[.tmp 6, .const (.string { data := #[42] })], argTypes := #[67, 9] }, none⟩]
def f93_r3 : List LOp := [
  ⟨some 8, .move (.tmp 0), none⟩,
  ⟨some 9, .nilCheck (.tmp 8), none⟩,
  ⟨some 10, .fieldAddr 69 (.tmp 9) 1, none⟩,
  ⟨some 11, .load 3 (.tmp 10), none⟩,
  ⟨some 12, .binOp .add 3 (.tmp 11) (.const (.int .i64 1)) 3, none⟩,
  ⟨some 13, .nilCheck (.tmp 8), none⟩,
  ⟨some 14, .fieldAddr 69 (.tmp 13) 1, none⟩,
  ⟨none, .store 3 (.tmp 14) (.tmp 12), none⟩]
def f93_r4 : List LOp := [
  ⟨some 15, .load 28 (.tmp 3), none⟩,
  ⟨some 16, .call { callee := .value (.func 106), args := #[.tmp 15], argTypes := #[28] }, none⟩,
  ⟨none, .store 28 (.tmp 3) (.tmp 16), none⟩]
def f93_l5 : LC := (.seq (.seq (.reg f93_r2 [] none) (.cond (.tmp 7) .skip (.exit 0))) (.block 1 (.seq (.reg f93_r3 [] none) (.reg f93_r4 [] none))))
def f93_i5 (t0 t2 t3 : D) : List D := [t0, .any, t2, t3, .any, .any, .any, .any, .any, .any, .any, .any, .any, .any, .any, .any, .any, .any]
def f93_r6 : List LOp := [
  ⟨some 17, .load 28 (.tmp 3), none⟩,
  ⟨none, .store 28 (.tmp 2) (.tmp 17), none⟩]
def f93_c : LC := (.seq (.reg f93_r0 [] none) (.seq (.reg f93_r1 [] none) (.seq (.block 0 (.loop f93_l5)) (.seq (.reg f93_r6 [] none) .ret))))
theorem f93_lc : Try.f93.body.map lc = some f93_c.st := by kernel_rfl
theorem f93_res : Try.f93.results.toList = [.cell 2 28] := by kernel_rfl
theorem f93_nt : Try.f93.ntmps = 18 := by kernel_rfl
theorem f93_nm : (Try.f93.name == "runtime.NumGoroutine") = false := by kernel_rfl

/-! (*quill/read.reader).begins -/
def f94_r0 : List LOp := [
  ⟨some 2, .assign (.const (.bool false)), none⟩]
def f94_r1 : List LOp := [
  ⟨some 3, .move (.tmp 0), none⟩,
  ⟨some 4, .call { callee := .value (.func 84), args := #[.tmp 3, .const (.string { data := #[92] })], argTypes := #[67, 9] }, none⟩,
  ⟨some 5, .move (.tmp 4), none⟩,
  ⟨some 6, .move (.tmp 0), some (2, false)⟩,
  ⟨some 7, .nilCheck (.tmp 6), some (2, false)⟩,
  ⟨some 8, .fieldAddr 69 (.tmp 7) 1, some (2, false)⟩,
  ⟨some 9, .load 3 (.tmp 8), some (2, false)⟩,
  ⟨some 10, .move (.tmp 0), some (2, false)⟩,
  ⟨some 11, .nilCheck (.tmp 10), some (2, false)⟩,
  ⟨some 12, .fieldAddr 69 (.tmp 11) 0, some (2, false)⟩,
  ⟨some 13, .load 9 (.tmp 12), some (2, false)⟩,
  ⟨some 14, .call { callee := .builtin .len, args := #[.tmp 13], argTypes := #[9] }, some (2, false)⟩,
  ⟨some 15, .binOp .lss 3 (.tmp 9) (.tmp 14) 3, some (2, false)⟩,
  ⟨some 16, .move (.tmp 15), some (2, false)⟩,
  ⟨some 17, .move (.tmp 0), some (13, true)⟩,
  ⟨some 18, .nilCheck (.tmp 17), some (13, true)⟩,
  ⟨some 19, .fieldAddr 69 (.tmp 18) 0, some (13, true)⟩,
  ⟨some 20, .load 9 (.tmp 19), some (13, true)⟩,
  ⟨some 21, .move (.tmp 0), some (13, true)⟩,
  ⟨some 22, .nilCheck (.tmp 21), some (13, true)⟩,
  ⟨some 23, .fieldAddr 69 (.tmp 22) 1, some (13, true)⟩,
  ⟨some 24, .load 3 (.tmp 23), some (13, true)⟩,
  ⟨some 25, .index 9 (.tmp 20) (.tmp 24), some (13, true)⟩,
  ⟨some 26, .call { callee := .value (.func 107), args := #[.tmp 25], argTypes := #[5] }, some (13, true)⟩,
  ⟨some 27, .move (.tmp 0), some (13, true)⟩,
  ⟨some 28, .nilCheck (.tmp 27), some (13, true)⟩,
  ⟨some 29, .fieldAddr 69 (.tmp 28) 0, some (13, true)⟩,
  ⟨some 30, .load 9 (.tmp 29), some (13, true)⟩,
  ⟨some 31, .move (.tmp 0), some (13, true)⟩,
  ⟨some 32, .nilCheck (.tmp 31), some (13, true)⟩,
  ⟨some 33, .fieldAddr 69 (.tmp 32) 1, some (13, true)⟩,
  ⟨some 34, .load 3 (.tmp 33), some (13, true)⟩,
  ⟨some 35, .move (.tmp 0), some (13, true)⟩,
  ⟨some 36, .nilCheck (.tmp 35), some (13, true)⟩,
  ⟨some 37, .fieldAddr 69 (.tmp 36) 1, some (13, true)⟩,
  ⟨some 38, .load 3 (.tmp 37), some (13, true)⟩,
  ⟨some 39, .binOp .add 3 (.tmp 38) (.const (.int .i64 1)) 3, some (13, true)⟩,
  ⟨some 40, .slice 9 (.tmp 30) (some (.tmp 34)) (some (.tmp 39)) none, some (13, true)⟩,
  ⟨some 41, .binOp .eql 9 (.tmp 26) (.tmp 40) 9, some (13, true)⟩,
  ⟨some 42, .pick (.tmp 16) (.tmp 41) (.const (.bool false)), some (2, false)⟩,
  ⟨some 43, .pick (.tmp 5) (.const (.bool true)) (.tmp 42), none⟩,
  ⟨some 2, .assign (.tmp 43), none⟩]
def f94_c : LC := (.seq (.reg f94_r0 [] none) (.seq (.reg f94_r1 [] (some 41)) .ret))
theorem f94_lc : Try.f94.body.map lc = some f94_c.st := by kernel_rfl
theorem f94_res : Try.f94.results.toList = [.tmp 2] := by kernel_rfl
theorem f94_nt : Try.f94.ntmps = 44 := by kernel_rfl
theorem f94_nm : (Try.f94.name == "runtime.NumGoroutine") = false := by kernel_rfl

/-! quill/rex.Then -/
def f95_r0 : List LOp := [
  ⟨some 2, .alloc 28, none⟩]
def f95_r1 : List LOp := [
  ⟨some 3, .move (.tmp 0), none⟩,
  ⟨some 4, .call { callee := .value (.func 97), args := #[.const (.int .u8 4), .const (.int .u8 2), .tmp 3], argTypes := #[5, 5, 26] }, none⟩,
  ⟨none, .store 28 (.tmp 2) (.tmp 4), none⟩]
def f95_c : LC := (.seq (.reg f95_r0 [] none) (.seq (.reg f95_r1 [] none) .ret))
theorem f95_lc : Try.f95.body.map lc = some f95_c.st := by kernel_rfl
theorem f95_res : Try.f95.results.toList = [.cell 2 28] := by kernel_rfl
theorem f95_nt : Try.f95.ntmps = 5 := by kernel_rfl
theorem f95_nm : (Try.f95.name == "runtime.NumGoroutine") = false := by kernel_rfl

/-! strings.IndexByte -/
def f96_r0 : List LOp := [
  ⟨some 4, .assign (.const (.int .i64 0)), none⟩]
def f96_r1 : List LOp := [
  ⟨some 5, .move (.tmp 0), none⟩,
  ⟨some 6, .move (.tmp 1), none⟩,
  ⟨some 7, .call { callee := .value (.func 108), args := #[.tmp 5, .tmp 6], argTypes := #[9, 5] }, none⟩,
  ⟨some 4, .assign (.tmp 7), none⟩]
def f96_c : LC := (.seq (.reg f96_r0 [] none) (.seq (.reg f96_r1 [] none) .ret))
theorem f96_lc : Try.f96.body.map lc = some f96_c.st := by kernel_rfl
theorem f96_res : Try.f96.results.toList = [.tmp 4] := by kernel_rfl
theorem f96_nt : Try.f96.ntmps = 8 := by kernel_rfl
theorem f96_nm : (Try.f96.name == "runtime.NumGoroutine") = false := by kernel_rfl

/-! quill/rex.fold -/
def f97_r0 : List LOp := [
  ⟨some 3, .box 5 (.tmp 0), none⟩,
  ⟨some 6, .alloc 28, none⟩]
def f97_r1 : List LOp := [
  ⟨some 10, .move (.tmp 2), none⟩,
  ⟨some 11, .call { callee := .builtin .len, args := #[.tmp 10], argTypes := #[26] }, none⟩,
  ⟨some 12, .binOp .eql 3 (.tmp 11) (.const (.int .i64 0)) 3, none⟩]
def f97_r2 : List LOp := [
  ⟨some 13, .move (.tmp 1), none⟩,
  ⟨some 14, .build 28 #[(0, .tmp 13)], none⟩,
  ⟨none, .store 28 (.tmp 6) (.tmp 14), none⟩]
def f97_r3 : List LOp := [
  ⟨some 15, .move (.tmp 2), none⟩,
  ⟨some 16, .move (.tmp 2), none⟩,
  ⟨some 17, .call { callee := .builtin .len, args := #[.tmp 16], argTypes := #[26] }, none⟩,
  ⟨some 18, .binOp .sub 3 (.tmp 17) (.const (.int .i64 1)) 3, none⟩,
  ⟨some 19, .indexAddr 26 (.tmp 15) (.tmp 18), none⟩,
  ⟨some 20, .load 28 (.tmp 19), none⟩,
  ⟨some 7, .alloc 28, none⟩,
  ⟨none, .store 28 (.tmp 7) (.tmp 20), none⟩]
def f97_r4 : List LOp := [
  ⟨some 21, .move (.tmp 2), none⟩,
  ⟨some 22, .move (.tmp 2), none⟩,
  ⟨some 23, .call { callee := .builtin .len, args := #[.tmp 22], argTypes := #[26] }, none⟩,
  ⟨some 24, .binOp .sub 3 (.tmp 23) (.const (.int .i64 1)) 3, none⟩,
  ⟨some 25, .slice 26 (.tmp 21) none (some (.tmp 24)) none, none⟩,
  ⟨some 26, .call { callee := .value (.func 109), args := #[.tmp 25], argTypes := #[26] }, none⟩]
def f97_r5 : List LOp := [
  ⟨some 9, .alloc 28, none⟩,
  ⟨none, .store 28 (.tmp 9) (.tmp 28), none⟩]
def f97_r6 : List LOp := [
  ⟨some 29, .load 5 (.tmp 3), none⟩,
  ⟨some 30, .load 28 (.tmp 9), none⟩,
  ⟨some 31, .load 28 (.tmp 7), none⟩,
  ⟨some 32, .buildSlice 26 2 #[(0, .tmp 30), (1, .tmp 31)], none⟩,
  ⟨some 33, .build 28 #[(0, .tmp 29), (2, .tmp 32)], none⟩,
  ⟨none, .store 28 (.tmp 7) (.tmp 33), none⟩]
def f97_a7 : LC := (.reg f97_r5 [] none)
def f97_b7 : LC := (.block 1 (.reg f97_r6 [] none))
def f97_r8 : List LOp := [
  ⟨some 34, .load 28 (.tmp 7), none⟩,
  ⟨none, .store 28 (.tmp 6) (.tmp 34), none⟩]
def f97_c : LC := (.seq (.reg f97_r0 [] none) (.seq (.seq (.reg f97_r1 [] none) (.cond (.tmp 12) (.seq (.reg f97_r2 [] none) .ret) .skip)) (.seq (.reg f97_r3 [] none) (.seq (.seq (.reg f97_r4 [] none) (.block 0 (.rfun (.tmp 26) [27, 28] f97_a7 f97_b7))) (.seq (.reg f97_r8 [] none) .ret)))))
theorem f97_lc : Try.f97.body.map lc = some f97_c.st := by kernel_rfl
theorem f97_res : Try.f97.results.toList = [.cell 6 28] := by kernel_rfl
theorem f97_nt : Try.f97.ntmps = 35 := by kernel_rfl
theorem f97_nm : (Try.f97.name == "runtime.NumGoroutine") = false := by kernel_rfl

/-! quill/quillref02.Sign -/
def f98_r0 : List LOp := [
  ⟨some 2, .assign (.const (.string { data := #[] })), none⟩]
def f98_r1 : List LOp := [
  ⟨some 3, .move (.tmp 0), none⟩,
  ⟨some 4, .call { callee := .value (.func 110), args := #[.tmp 3], argTypes := #[5] }, none⟩]
def f98_r2 : List LOp := [
  ⟨some 5, .move (.tmp 0), none⟩,
  ⟨some 6, .buildSlice 37 1 #[(0, .tmp 5)], none⟩,
  ⟨some 7, .call { callee := .value (.func 111), args := #[.tmp 6], argTypes := #[37] }, none⟩,
  ⟨some 8, .binOp .add 9 (.const (.string { data := #[92] })) (.tmp 7) 9, none⟩,
  ⟨some 2, .assign (.tmp 8), none⟩]
def f98_r3 : List LOp := [
  ⟨some 9, .move (.tmp 0), none⟩,
  ⟨some 10, .buildSlice 37 1 #[(0, .tmp 9)], none⟩,
  ⟨some 11, .convert 37 9 (.tmp 10), none⟩,
  ⟨some 2, .assign (.tmp 11), none⟩]
def f98_c : LC := (.seq (.reg f98_r0 [] none) (.seq (.seq (.reg f98_r1 [] none) (.cond (.tmp 4) (.seq (.reg f98_r2 [] none) .ret) .skip)) (.seq (.reg f98_r3 [] none) .ret)))
theorem f98_lc : Try.f98.body.map lc = some f98_c.st := by kernel_rfl
theorem f98_res : Try.f98.results.toList = [.tmp 2] := by kernel_rfl
theorem f98_nt : Try.f98.ntmps = 12 := by kernel_rfl
theorem f98_nm : (Try.f98.name == "runtime.NumGoroutine") = false := by kernel_rfl

/-! quill/quillref03.Of -/
def f99_r0 : List LOp := [
  ⟨some 1, .box 25 (.tmp 0), none⟩,
  ⟨some 2, .alloc 28, none⟩]
def f99_r1 : List LOp := [
  ⟨some 3, .load 25 (.tmp 1), none⟩,
  ⟨some 4, .build 25 #[], none⟩,
  ⟨some 5, .binOp .eql 25 (.tmp 3) (.tmp 4) 25, none⟩]
def f99_r2 : List LOp := [
  ⟨some 6, .call { callee := .value (.func 90), args := #[.const (.int .u8 1)], argTypes := #[5] }, none⟩,
  ⟨none, .store 28 (.tmp 2) (.tmp 6), none⟩]
def f99_r3 : List LOp := [
  ⟨some 7, .load 25 (.tmp 1), none⟩,
  ⟨some 8, .build 28 #[(0, .const (.int .u8 3)), (1, .tmp 7)], none⟩,
  ⟨none, .store 28 (.tmp 2) (.tmp 8), none⟩]
def f99_c : LC := (.seq (.reg f99_r0 [] none) (.seq (.seq (.reg f99_r1 [] none) (.cond (.tmp 5) (.seq (.reg f99_r2 [] none) .ret) .skip)) (.seq (.reg f99_r3 [] none) .ret)))
theorem f99_lc : Try.f99.body.map lc = some f99_c.st := by kernel_rfl
theorem f99_res : Try.f99.results.toList = [.cell 2 28] := by kernel_rfl
theorem f99_nt : Try.f99.ntmps = 9 := by kernel_rfl
theorem f99_nm : (Try.f99.name == "runtime.NumGoroutine") = false := by kernel_rfl

/-! quill/quillref02.Range -/
def f100_r0 : List LOp := [
  ⟨some 4, .alloc 25, none⟩]
def f100_r1 : List LOp := [
  ⟨some 7, .build 25 #[], none⟩,
  ⟨some 5, .alloc 25, none⟩,
  ⟨none, .store 25 (.tmp 5) (.tmp 7), none⟩]
def f100_r2 : List LOp := [
  ⟨some 8, .move (.tmp 0), none⟩,
  ⟨some 6, .assign (.tmp 8), none⟩]
def f100_r3 : List LOp := [
  ⟨some 9, .move (.tmp 6), none⟩,
  ⟨some 10, .move (.tmp 1), none⟩,
  ⟨some 11, .binOp .leq 3 (.tmp 9) (.tmp 10) 3, none⟩]
def f100_r4 : List LOp := [
  ⟨some 14, .load 25 (.tmp 5), none⟩,
  ⟨some 15, .move (.tmp 6), none⟩,
  ⟨some 16, .call { callee := .value (.func 112), args := #[.tmp 14, .tmp 15], argTypes := #[25, 3] }, none⟩,
  ⟨none, .store 25 (.tmp 5) (.tmp 16), none⟩]
def f100_r5 : List LOp := [
  ⟨some 12, .move (.tmp 6), none⟩,
  ⟨some 13, .binOp .add 3 (.tmp 12) (.const (.int .i64 1)) 3, none⟩,
  ⟨some 6, .assign (.tmp 13), none⟩]
def f100_l6 : LC := (.seq (.seq (.reg f100_r3 [] none) (.cond (.tmp 11) .skip (.exit 0))) (.seq (.block 1 (.reg f100_r4 [] none)) (.reg f100_r5 [] none)))
def f100_i6 (t1 t4 t5 t6 : D) : List D := [.any, t1, .any, .any, t4, t5, t6, .any, .any, .any, .any, .any, .any, .any, .any, .any, .any, .any]
def f100_r7 : List LOp := [
  ⟨some 17, .load 25 (.tmp 5), none⟩,
  ⟨none, .store 25 (.tmp 4) (.tmp 17), none⟩]
def f100_c : LC := (.seq (.reg f100_r0 [] none) (.seq (.reg f100_r1 [] none) (.seq (.seq (.reg f100_r2 [] none) (.block 0 (.loop f100_l6))) (.seq (.reg f100_r7 [] none) .ret))))
theorem f100_lc : Try.f100.body.map lc = some f100_c.st := by kernel_rfl
theorem f100_res : Try.f100.results.toList = [.cell 4 25] := by kernel_rfl
theorem f100_nt : Try.f100.ntmps = 18 := by kernel_rfl
theorem f100_nm : (Try.f100.name == "runtime.NumGoroutine") = false := by kernel_rfl

/-! quill/quillref06.class -/
def f101_r0 : List LOp := [
  ⟨some 4, .alloc 72, none⟩]
def f101_r1 : List LOp := [
  ⟨some 11, .build 25 #[], none⟩,
  ⟨some 5, .alloc 25, none⟩,
  ⟨none, .store 25 (.tmp 5) (.tmp 11), none⟩]
def f101_r2 : List LOp := [
  ⟨some 12, .move (.tmp 0), none⟩,
  ⟨some 13, .move (.tmp 1), none⟩,
  ⟨some 14, .call { callee := .value (.func 75), args := #[.tmp 12, .tmp 13, .const (.int .u8 93)], argTypes := #[9, 3, 5] }, none⟩,
  ⟨some 15, .unOp .not 4 (.tmp 14), none⟩]
def f101_r3 : List LOp := [
  ⟨some 17, .move (.tmp 0), none⟩,
  ⟨some 18, .move (.tmp 1), none⟩,
  ⟨some 19, .call { callee := .value (.func 103), args := #[.tmp 17, .tmp 18], argTypes := #[9, 3] }, none⟩,
  ⟨some 16, .move (.tmp 19), none⟩,
  ⟨some 20, .extract (.tmp 16) 0, none⟩,
  ⟨some 21, .extract (.tmp 16) 1, none⟩,
  ⟨some 6, .assign (.tmp 20), none⟩,
  ⟨some 7, .assign (.tmp 21), none⟩]
def f101_r4 : List LOp := [
  ⟨some 22, .move (.tmp 6), none⟩,
  ⟨some 23, .binOp .lss 3 (.tmp 22) (.const (.int .i64 0)) 3, none⟩]
def f101_r5 : List LOp := [
  ⟨some 24, .move (.tmp 7), none⟩,
  ⟨some 25, .call { callee := .value (.func 102), args := #[.tmp 24], argTypes := #[3] }, none⟩,
  ⟨none, .store 72 (.tmp 4) (.tmp 25), none⟩]
def f101_r6 : List LOp := [
  ⟨some 26, .move (.tmp 7), none⟩,
  ⟨some 1, .assign (.tmp 26), none⟩]
def f101_r7 : List LOp := [
  ⟨some 27, .move (.tmp 6), none⟩,
  ⟨some 8, .assign (.tmp 27), none⟩]
def f101_r8 : List LOp := [
  ⟨some 28, .move (.tmp 0), none⟩,
  ⟨some 29, .move (.tmp 1), none⟩,
  ⟨some 30, .call { callee := .value (.func 75), args := #[.tmp 28, .tmp 29, .const (.int .u8 45)], argTypes := #[9, 3, 5] }, none⟩]
def f101_r9 : List LOp := [
  ⟨some 32, .move (.tmp 0), none⟩,
  ⟨some 33, .move (.tmp 1), none⟩,
  ⟨some 34, .binOp .add 3 (.tmp 33) (.const (.int .i64 1)) 3, none⟩,
  ⟨some 35, .call { callee := .value (.func 103), args := #[.tmp 32, .tmp 34], argTypes := #[9, 3] }, none⟩,
  ⟨some 31, .move (.tmp 35), none⟩,
  ⟨some 36, .extract (.tmp 31) 0, none⟩,
  ⟨some 37, .extract (.tmp 31) 1, none⟩,
  ⟨some 9, .assign (.tmp 36), none⟩,
  ⟨some 10, .assign (.tmp 37), none⟩]
def f101_r10 : List LOp := [
  ⟨some 38, .move (.tmp 9), none⟩,
  ⟨some 39, .binOp .lss 3 (.tmp 38) (.const (.int .i64 0)) 3, none⟩]
def f101_r11 : List LOp := [
  ⟨some 40, .move (.tmp 10), none⟩,
  ⟨some 41, .call { callee := .value (.func 102), args := #[.tmp 40], argTypes := #[3] }, none⟩,
  ⟨none, .store 72 (.tmp 4) (.tmp 41), none⟩]
def f101_r12 : List LOp := [
  ⟨some 42, .move (.tmp 9), none⟩,
  ⟨some 43, .move (.tmp 6), none⟩,
  ⟨some 44, .binOp .lss 3 (.tmp 42) (.tmp 43) 3, none⟩]
def f101_r13 : List LOp := [
  ⟨some 45, .move (.tmp 1), none⟩,
  ⟨some 46, .binOp .add 3 (.tmp 45) (.const (.int .i64 1)) 3, none⟩,
  ⟨some 47, .call { callee := .value (.func 102), args := #[.tmp 46], argTypes := #[3] }, none⟩,
  ⟨none, .store 72 (.tmp 4) (.tmp 47), none⟩]
def f101_r14 : List LOp := [
  ⟨some 48, .move (.tmp 9), none⟩,
  ⟨some 8, .assign (.tmp 48), none⟩]
def f101_r15 : List LOp := [
  ⟨some 49, .move (.tmp 10), none⟩,
  ⟨some 1, .assign (.tmp 49), none⟩]
def f101_r16 : List LOp := [
  ⟨some 50, .load 25 (.tmp 5), none⟩,
  ⟨some 51, .move (.tmp 6), none⟩,
  ⟨some 52, .move (.tmp 8), none⟩,
  ⟨some 53, .call { callee := .value (.func 100), args := #[.tmp 51, .tmp 52], argTypes := #[3, 3] }, none⟩,
  ⟨some 54, .call { callee := .value (.func 113), args := #[.tmp 50, .tmp 53], argTypes := #[25, 25] }, none⟩,
  ⟨none, .store 25 (.tmp 5) (.tmp 54), none⟩]
def f101_l17 : LC := (.seq (.seq (.reg f101_r2 [] none) (.cond (.tmp 15) .skip (.exit 0))) (.block 1 (.seq (.reg f101_r3 [] none) (.seq (.seq (.reg f101_r4 [] none) (.cond (.tmp 23) (.seq (.reg f101_r5 [] none) .ret) .skip)) (.seq (.reg f101_r6 [] none) (.seq (.reg f101_r7 [] none) (.seq (.seq (.reg f101_r8 [] none) (.cond (.tmp 30) (.seq (.reg f101_r9 [] none) (.seq (.seq (.reg f101_r10 [] none) (.cond (.tmp 39) (.seq (.reg f101_r11 [] none) .ret) .skip)) (.seq (.seq (.reg f101_r12 [] none) (.cond (.tmp 44) (.seq (.reg f101_r13 [] none) .ret) .skip)) (.seq (.reg f101_r14 [] none) (.reg f101_r15 [] none))))) .skip)) (.reg f101_r16 [] (some 4)))))))))
def f101_i17 (t0 t1 t4 t5 : D) : List D := [t0, t1, .any, .any, t4, t5, .any, .any, .any, .any, .any, .any, .any, .any, .any, .any, .any, .any, .any, .any, .any, .any, .any, .any, .any, .any, .any, .any, .any, .any, .any, .any, .any, .any, .any, .any, .any, .any, .any, .any, .any, .any, .any, .any, .any, .any, .any, .any, .any, .any, .any, .any, .any, .any, .any, .any, .any, .any, .any, .any]
def f101_r18 : List LOp := [
  ⟨some 55, .load 25 (.tmp 5), none⟩,
  ⟨some 56, .call { callee := .value (.func 99), args := #[.tmp 55], argTypes := #[25] }, none⟩,
  ⟨some 57, .move (.tmp 1), none⟩,
  ⟨some 58, .binOp .add 3 (.tmp 57) (.const (.int .i64 1)) 3, none⟩,
  ⟨some 59, .build 72 #[(0, .tmp 56), (1, .tmp 58)], none⟩,
  ⟨none, .store 72 (.tmp 4) (.tmp 59), none⟩]
def f101_c : LC := (.seq (.reg f101_r0 [] none) (.seq (.reg f101_r1 [] none) (.seq (.block 0 (.loop f101_l17)) (.seq (.reg f101_r18 [] none) .ret))))
theorem f101_lc : Try.f101.body.map lc = some f101_c.st := by kernel_rfl
theorem f101_res : Try.f101.results.toList = [.cell 4 72] := by kernel_rfl
theorem f101_nt : Try.f101.ntmps = 60 := by kernel_rfl
theorem f101_nm : (Try.f101.name == "runtime.NumGoroutine") = false := by kernel_rfl

/-! quill/quillref06.bad -/
def f102_r0 : List LOp := [
  ⟨some 2, .alloc 72, none⟩]
def f102_r1 : List LOp := [
  ⟨some 3, .move (.tmp 0), none⟩,
  ⟨some 4, .build 72 #[(1, .tmp 3), (2, .const (.bool true))], none⟩,
  ⟨none, .store 72 (.tmp 2) (.tmp 4), none⟩]
def f102_c : LC := (.seq (.reg f102_r0 [] none) (.seq (.reg f102_r1 [] none) .ret))
theorem f102_lc : Try.f102.body.map lc = some f102_c.st := by kernel_rfl
theorem f102_res : Try.f102.results.toList = [.cell 2 72] := by kernel_rfl
theorem f102_nt : Try.f102.ntmps = 5 := by kernel_rfl
theorem f102_nm : (Try.f102.name == "runtime.NumGoroutine") = false := by kernel_rfl

/-! quill/quillref06.sign -/
def f103_r0 : List LOp := [
  ⟨some 4, .assign (.const (.int .i64 0)), none⟩,
  ⟨some 5, .assign (.const (.int .i64 0)), none⟩]
def f103_r1 : List LOp := [
  ⟨some 8, .move (.tmp 0), none⟩,
  ⟨some 9, .move (.tmp 1), none⟩,
  ⟨some 10, .call { callee := .value (.func 88), args := #[.tmp 8, .tmp 9], argTypes := #[9, 3] }, none⟩,
  ⟨some 11, .unOp .not 4 (.tmp 10), none⟩]
def f103_r2 : List LOp := [
  ⟨some 12, .move (.tmp 1), none⟩,
  ⟨some 4, .assign (.const (.int .i64 (-1))), none⟩,
  ⟨some 5, .assign (.tmp 12), none⟩]
def f103_r3 : List LOp := [
  ⟨some 13, .move (.tmp 0), none⟩,
  ⟨some 14, .move (.tmp 1), none⟩,
  ⟨some 15, .index 9 (.tmp 13) (.tmp 14), none⟩,
  ⟨some 16, .binOp .neq 5 (.tmp 15) (.const (.int .u8 92)) 5, none⟩]
def f103_r4 : List LOp := [
  ⟨some 17, .move (.tmp 0), none⟩,
  ⟨some 18, .move (.tmp 1), none⟩,
  ⟨some 19, .index 9 (.tmp 17) (.tmp 18), none⟩,
  ⟨some 20, .convert 5 3 (.tmp 19), none⟩,
  ⟨some 21, .move (.tmp 1), none⟩,
  ⟨some 22, .binOp .add 3 (.tmp 21) (.const (.int .i64 1)) 3, none⟩,
  ⟨some 4, .assign (.tmp 20), none⟩,
  ⟨some 5, .assign (.tmp 22), none⟩]
def f103_r5 : List LOp := [
  ⟨some 6, .assign (.const (.int .i64 0)), none⟩]
def f103_r6 : List LOp := [
  ⟨some 7, .assign (.const (.int .i64 1)), none⟩]
def f103_r7 : List LOp := [
  ⟨some 23, .move (.tmp 7), none⟩,
  ⟨some 24, .binOp .leq 3 (.tmp 23) (.const (.int .i64 2)) 3, none⟩]
def f103_r8 : List LOp := [
  ⟨some 27, .move (.tmp 1), none⟩,
  ⟨some 28, .move (.tmp 7), none⟩,
  ⟨some 29, .binOp .add 3 (.tmp 27) (.tmp 28) 3, none⟩,
  ⟨some 30, .move (.tmp 0), none⟩,
  ⟨some 31, .call { callee := .builtin .len, args := #[.tmp 30], argTypes := #[9] }, none⟩,
  ⟨some 32, .binOp .geq 3 (.tmp 29) (.tmp 31) 3, none⟩,
  ⟨some 33, .move (.tmp 32), none⟩,
  ⟨some 34, .move (.tmp 0), some (6, false)⟩,
  ⟨some 35, .move (.tmp 1), some (6, false)⟩,
  ⟨some 36, .move (.tmp 7), some (6, false)⟩,
  ⟨some 37, .binOp .add 3 (.tmp 35) (.tmp 36) 3, some (6, false)⟩,
  ⟨some 38, .index 9 (.tmp 34) (.tmp 37), some (6, false)⟩,
  ⟨some 39, .call { callee := .value (.func 114), args := #[.tmp 38], argTypes := #[5] }, some (6, false)⟩,
  ⟨some 40, .binOp .lss 3 (.tmp 39) (.const (.int .i64 0)) 3, some (6, false)⟩,
  ⟨some 41, .pick (.tmp 33) (.const (.bool true)) (.tmp 40), none⟩]
def f103_r9 : List LOp := [
  ⟨some 42, .move (.tmp 1), none⟩,
  ⟨some 43, .move (.tmp 7), none⟩,
  ⟨some 44, .binOp .add 3 (.tmp 42) (.tmp 43) 3, none⟩,
  ⟨some 4, .assign (.const (.int .i64 (-1))), none⟩,
  ⟨some 5, .assign (.tmp 44), none⟩]
def f103_r10 : List LOp := [
  ⟨some 45, .move (.tmp 6), none⟩,
  ⟨some 46, .binOp .mul 3 (.const (.int .i64 16)) (.tmp 45) 3, none⟩,
  ⟨some 47, .move (.tmp 0), none⟩,
  ⟨some 48, .move (.tmp 1), none⟩,
  ⟨some 49, .move (.tmp 7), none⟩,
  ⟨some 50, .binOp .add 3 (.tmp 48) (.tmp 49) 3, none⟩,
  ⟨some 51, .index 9 (.tmp 47) (.tmp 50), none⟩,
  ⟨some 52, .call { callee := .value (.func 114), args := #[.tmp 51], argTypes := #[5] }, none⟩,
  ⟨some 53, .binOp .add 3 (.tmp 46) (.tmp 52) 3, none⟩,
  ⟨some 6, .assign (.tmp 53), none⟩]
def f103_r11 : List LOp := [
  ⟨some 25, .move (.tmp 7), none⟩,
  ⟨some 26, .binOp .add 3 (.tmp 25) (.const (.int .i64 1)) 3, none⟩,
  ⟨some 7, .assign (.tmp 26), none⟩]
def f103_l12 : LC := (.seq (.seq (.reg f103_r7 [] none) (.cond (.tmp 24) .skip (.exit 0))) (.seq (.block 1 (.seq (.seq (.reg f103_r8 [] none) (.cond (.tmp 41) (.seq (.reg f103_r9 [] none) .ret) .skip)) (.reg f103_r10 [] none))) (.reg f103_r11 [] none)))
def f103_i12 (t0 t1 t6 t7 : D) : List D := [t0, t1, .any, .any, .any, .any, t6, t7, .any, .any, .any, .any, .any, .any, .any, .any, .any, .any, .any, .any, .any, .any, .any, .any, .any, .any, .any, .any, .any, .any, .any, .any, .any, .any, .any, .any, .any, .any, .any, .any, .any, .any, .any, .any, .any, .any, .any, .any, .any, .any, .any, .any, .any, .any, .any, .any, .any]
def f103_r13 : List LOp := [
  ⟨some 54, .move (.tmp 6), none⟩,
  ⟨some 55, .move (.tmp 1), none⟩,
  ⟨some 56, .binOp .add 3 (.tmp 55) (.const (.int .i64 3)) 3, none⟩,
  ⟨some 4, .assign (.tmp 54), none⟩,
  ⟨some 5, .assign (.tmp 56), none⟩]
def f103_c : LC := (.seq (.reg f103_r0 [] none) (.seq (.seq (.reg f103_r1 [] none) (.cond (.tmp 11) (.seq (.reg f103_r2 [] none) .ret) .skip)) (.seq (.seq (.reg f103_r3 [] none) (.cond (.tmp 16) (.seq (.reg f103_r4 [] none) .ret) .skip)) (.seq (.reg f103_r5 [] none) (.seq (.seq (.reg f103_r6 [] none) (.block 0 (.loop f103_l12))) (.seq (.reg f103_r13 [] none) .ret))))))
theorem f103_lc : Try.f103.body.map lc = some f103_c.st := by kernel_rfl
theorem f103_res : Try.f103.results.toList = [.tmp 4, .tmp 5] := by kernel_rfl
theorem f103_nt : Try.f103.ntmps = 57 := by kernel_rfl
theorem f103_nm : (Try.f103.name == "runtime.NumGoroutine") = false := by kernel_rfl

/-! quill/quillref02.Of -/
def f104_r0 : List LOp := [
  ⟨some 2, .alloc 25, none⟩]
def f104_r1 : List LOp := [
  ⟨some 5, .build 25 #[], none⟩,
  ⟨some 3, .alloc 25, none⟩,
  ⟨none, .store 25 (.tmp 3) (.tmp 5), none⟩]
def f104_r2 : List LOp := [
  ⟨some 6, .move (.tmp 0), none⟩,
  ⟨some 7, .call { callee := .builtin .len, args := #[.tmp 6], argTypes := #[37] }, none⟩,
  ⟨some 8, .move (.const (.int .i64 0)), none⟩]
def f104_r3 : List LOp := [
  ⟨some 9, .binOp .lss 3 (.tmp 8) (.tmp 7) 3, none⟩]
def f104_r4 : List LOp := [
  ⟨some 10, .move (.tmp 8), none⟩,
  ⟨some 4, .assign (.tmp 10), none⟩]
def f104_r5 : List LOp := [
  ⟨some 11, .load 25 (.tmp 3), none⟩,
  ⟨some 12, .move (.tmp 0), none⟩,
  ⟨some 13, .move (.tmp 4), none⟩,
  ⟨some 14, .indexAddr 37 (.tmp 12) (.tmp 13), none⟩,
  ⟨some 15, .load 5 (.tmp 14), none⟩,
  ⟨some 16, .convert 5 3 (.tmp 15), none⟩,
  ⟨some 17, .call { callee := .value (.func 112), args := #[.tmp 11, .tmp 16], argTypes := #[25, 3] }, none⟩,
  ⟨none, .store 25 (.tmp 3) (.tmp 17), none⟩]
def f104_r6 : List LOp := [
  ⟨some 18, .binOp .add 3 (.tmp 8) (.const (.int .i64 1)) 3, none⟩,
  ⟨some 8, .move (.tmp 18), none⟩]
def f104_l7 : LC := (.seq (.reg f104_r3 [] none) (.seq (.cond (.tmp 9) .skip (.exit 0)) (.seq (.block 1 (.seq (.reg f104_r4 [] none) (.reg f104_r5 [] (some 6)))) (.reg f104_r6 [] none))))
def f104_i7 (t0 t2 t3 t7 t8 : D) : List D := [t0, .any, t2, t3, .any, .any, .any, t7, t8, .any, .any, .any, .any, .any, .any, .any, .any, .any, .any, .any]
def f104_r8 : List LOp := [
  ⟨some 19, .load 25 (.tmp 3), none⟩,
  ⟨none, .store 25 (.tmp 2) (.tmp 19), none⟩]
def f104_c : LC := (.seq (.reg f104_r0 [] none) (.seq (.reg f104_r1 [] none) (.seq (.seq (.reg f104_r2 [] none) (.block 0 (.loop f104_l7))) (.seq (.reg f104_r8 [] none) .ret))))
theorem f104_lc : Try.f104.body.map lc = some f104_c.st := by kernel_rfl
theorem f104_res : Try.f104.results.toList = [.cell 2 25] := by kernel_rfl
theorem f104_nt : Try.f104.ntmps = 20 := by kernel_rfl
theorem f104_nm : (Try.f104.name == "runtime.NumGoroutine") = false := by kernel_rfl

/-! (*quill/read.reader).atom -/
def f105_r0 : List LOp := [
  ⟨some 2, .alloc 28, none⟩]
def f105_r1 : List LOp := [
  ⟨some 5, .move (.tmp 0), none⟩,
  ⟨some 6, .call { callee := .value (.func 84), args := #[.tmp 5, .const (.string { data := #[46] })], argTypes := #[67, 9] }, none⟩,
  ⟨some 4, .assign (.tmp 6), none⟩]
def f105_r2 : List LOp := [
  ⟨some 7, .move (.tmp 0), none⟩,
  ⟨some 8, .nilCheck (.tmp 7), none⟩,
  ⟨some 9, .fieldAddr 69 (.tmp 8) 1, none⟩,
  ⟨some 10, .load 3 (.tmp 9), none⟩,
  ⟨some 11, .binOp .add 3 (.tmp 10) (.const (.int .i64 1)) 3, none⟩,
  ⟨some 12, .nilCheck (.tmp 7), none⟩,
  ⟨some 13, .fieldAddr 69 (.tmp 12) 1, none⟩,
  ⟨none, .store 3 (.tmp 13) (.tmp 11), none⟩]
def f105_r3 : List LOp := [
  ⟨some 14, .call { callee := .value (.func 116), args := #[.const (.int .u8 0), .const (.int .u8 255)], argTypes := #[5, 5] }, none⟩,
  ⟨some 15, .call { callee := .value (.func 115), args := #[.tmp 14], argTypes := #[25] }, none⟩,
  ⟨none, .store 28 (.tmp 2) (.tmp 15), none⟩]
def f105_r4 : List LOp := [
  ⟨some 17, .move (.tmp 0), none⟩,
  ⟨some 18, .call { callee := .value (.func 84), args := #[.tmp 17, .const (.string { data := #[91] })], argTypes := #[67, 9] }, none⟩,
  ⟨some 16, .assign (.tmp 18), none⟩]
def f105_r5 : List LOp := [
  ⟨some 19, .move (.tmp 0), none⟩,
  ⟨some 20, .nilCheck (.tmp 19), none⟩,
  ⟨some 21, .fieldAddr 69 (.tmp 20) 1, none⟩,
  ⟨some 22, .load 3 (.tmp 21), none⟩,
  ⟨some 23, .binOp .add 3 (.tmp 22) (.const (.int .i64 1)) 3, none⟩,
  ⟨some 24, .nilCheck (.tmp 19), none⟩,
  ⟨some 25, .fieldAddr 69 (.tmp 24) 1, none⟩,
  ⟨none, .store 3 (.tmp 25) (.tmp 23), none⟩]
def f105_r6 : List LOp := [
  ⟨some 26, .move (.tmp 0), none⟩,
  ⟨some 27, .call { callee := .value (.func 117), args := #[.tmp 26], argTypes := #[67] }, none⟩,
  ⟨none, .store 28 (.tmp 2) (.tmp 27), none⟩]
def f105_r7 : List LOp := [
  ⟨some 29, .move (.tmp 0), none⟩,
  ⟨some 30, .call { callee := .value (.func 84), args := #[.tmp 29, .const (.string { data := #[40] })], argTypes := #[67, 9] }, none⟩,
  ⟨some 28, .assign (.tmp 30), none⟩]
def f105_r8 : List LOp := [
  ⟨some 31, .move (.tmp 0), none⟩,
  ⟨some 32, .nilCheck (.tmp 31), none⟩,
  ⟨some 33, .fieldAddr 69 (.tmp 32) 1, none⟩,
  ⟨some 34, .load 3 (.tmp 33), none⟩,
  ⟨some 35, .binOp .add 3 (.tmp 34) (.const (.int .i64 1)) 3, none⟩,
  ⟨some 36, .nilCheck (.tmp 31), none⟩,
  ⟨some 37, .fieldAddr 69 (.tmp 36) 1, none⟩,
  ⟨none, .store 3 (.tmp 37) (.tmp 35), none⟩]
def f105_r9 : List LOp := [
  ⟨some 38, .move (.tmp 0), none⟩,
  ⟨some 39, .call { callee := .value (.func 84), args := #[.tmp 38, .const (.string { data := #[41] })], argTypes := #[67, 9] }, none⟩]
def f105_r10 : List LOp := [
  ⟨some 40, .move (.tmp 0), none⟩,
  ⟨some 41, .nilCheck (.tmp 40), none⟩,
  ⟨some 42, .fieldAddr 69 (.tmp 41) 1, none⟩,
  ⟨some 43, .load 3 (.tmp 42), none⟩,
  ⟨some 44, .binOp .add 3 (.tmp 43) (.const (.int .i64 1)) 3, none⟩,
  ⟨some 45, .nilCheck (.tmp 40), none⟩,
  ⟨some 46, .fieldAddr 69 (.tmp 45) 1, none⟩,
  ⟨none, .store 3 (.tmp 46) (.tmp 44), none⟩]
def f105_r11 : List LOp := [
  ⟨some 47, .call { callee := .value (.func 95), args := #[.const (.slice none 0 0)], argTypes := #[26] }, none⟩,
  ⟨none, .store 28 (.tmp 2) (.tmp 47), none⟩]
def f105_r12 : List LOp := [
  ⟨some 48, .move (.tmp 0), none⟩,
  ⟨some 49, .call { callee := .value (.func 70), args := #[.tmp 48], argTypes := #[67] }, none⟩,
  ⟨some 3, .alloc 28, none⟩,
  ⟨none, .store 28 (.tmp 3) (.tmp 49), none⟩]
def f105_r13 : List LOp := [
  ⟨some 50, .move (.tmp 0), none⟩,
  ⟨some 51, .call { callee := .value (.func 118), args := #[.tmp 50, .const (.string { data := #[41] })], argTypes := #[67, 9] }, none⟩]
def f105_r14 : List LOp := [
  ⟨some 52, .load 28 (.tmp 3), none⟩,
  ⟨none, .store 28 (.tmp 2) (.tmp 52), none⟩]
def f105_r15 : List LOp := [
  ⟨some 53, .move (.tmp 0), none⟩,
  ⟨some 54, .call { callee := .value (.func 119), args := #[.tmp 53], argTypes := #[67] }, none⟩,
  ⟨some 55, .buildSlice 37 1 #[(0, .tmp 54)], none⟩,
  ⟨some 56, .call { callee := .value (.func 53), args := #[.tmp 55], argTypes := #[37] }, none⟩,
  ⟨some 57, .call { callee := .value (.func 115), args := #[.tmp 56], argTypes := #[25] }, none⟩,
  ⟨none, .store 28 (.tmp 2) (.tmp 57), none⟩]
def f105_c : LC := (.seq (.reg f105_r0 [] none) (.seq (.block 0 (.seq (.reg f105_r1 [] none) (.cond (.tmp 4) (.seq (.reg f105_r2 [] none) (.seq (.reg f105_r3 [] none) .ret)) (.seq (.reg f105_r4 [] none) (.cond (.tmp 16) (.seq (.reg f105_r5 [] none) (.seq (.reg f105_r6 [] none) .ret)) (.seq (.reg f105_r7 [] none) (.cond (.tmp 28) (.seq (.reg f105_r8 [] none) (.seq (.seq (.reg f105_r9 [] none) (.cond (.tmp 39) (.seq (.reg f105_r10 [] none) (.seq (.reg f105_r11 [] none) .ret)) .skip)) (.seq (.reg f105_r12 [] none) (.seq (.reg f105_r13 [] none) (.seq (.reg f105_r14 [] none) .ret))))) .skip))))))) (.seq (.reg f105_r15 [] none) .ret)))
theorem f105_lc : Try.f105.body.map lc = some f105_c.st := by kernel_rfl
theorem f105_res : Try.f105.results.toList = [.cell 2 28] := by kernel_rfl
theorem f105_nt : Try.f105.ntmps = 58 := by kernel_rfl
theorem f105_nm : (Try.f105.name == "runtime.NumGoroutine") = false := by kernel_rfl

/-! quill/rex.Many -/
def f106_r0 : List LOp := [
  ⟨some 1, .box 28 (.tmp 0), none⟩,
  ⟨some 2, .alloc 28, none⟩]
def f106_r1 : List LOp := [
  ⟨some 3, .load 28 (.tmp 1), none⟩,
  ⟨some 4, .buildSlice 26 1 #[(0, .tmp 3)], none⟩,
  ⟨some 5, .build 28 #[(0, .const (.int .u8 6)), (2, .tmp 4)], none⟩,
  ⟨none, .store 28 (.tmp 2) (.tmp 5), none⟩]
def f106_c : LC := (.seq (.reg f106_r0 [] none) (.seq (.reg f106_r1 [] none) .ret))
theorem f106_lc : Try.f106.body.map lc = some f106_c.st := by kernel_rfl
theorem f106_res : Try.f106.results.toList = [.cell 2 28] := by kernel_rfl
theorem f106_nt : Try.f106.ntmps = 6 := by kernel_rfl
theorem f106_nm : (Try.f106.name == "runtime.NumGoroutine") = false := by kernel_rfl

/-! quill/set.Sign -/
def f107_r0 : List LOp := [
  ⟨some 2, .assign (.const (.string { data := #[] })), none⟩]
def f107_r1 : List LOp := [
  ⟨some 3, .move (.tmp 0), none⟩,
  ⟨some 4, .binOp .lss 5 (.tmp 3) (.const (.int .u8 33)) 5, none⟩,
  ⟨some 5, .move (.tmp 4), none⟩,
  ⟨some 6, .move (.tmp 0), some (2, false)⟩,
  ⟨some 7, .binOp .gtr 5 (.tmp 6) (.const (.int .u8 126)) 5, some (2, false)⟩,
  ⟨some 8, .pick (.tmp 5) (.const (.bool true)) (.tmp 7), none⟩,
  ⟨some 9, .move (.tmp 8), none⟩,
  ⟨some 10, .move (.tmp 0), some (6, false)⟩,
  ⟨some 11, .call { callee := .value (.func 96), args := #[.const (.string { data := #[92, 124, 42, 40, 41, 91, 93, 46, 45] }), .tmp 10], argTypes := #[9, 5] }, some (6, false)⟩,
  ⟨some 12, .binOp .geq 3 (.tmp 11) (.const (.int .i64 0)) 3, some (6, false)⟩,
  ⟨some 13, .pick (.tmp 9) (.const (.bool true)) (.tmp 12), none⟩]
def f107_r2 : List LOp := [
  ⟨some 14, .move (.tmp 0), none⟩,
  ⟨some 15, .buildSlice 37 1 #[(0, .tmp 14)], none⟩,
  ⟨some 16, .call { callee := .value (.func 120), args := #[.tmp 15], argTypes := #[37] }, none⟩,
  ⟨some 17, .binOp .add 9 (.const (.string { data := #[92] })) (.tmp 16) 9, none⟩,
  ⟨some 2, .assign (.tmp 17), none⟩]
def f107_r3 : List LOp := [
  ⟨some 18, .move (.tmp 0), none⟩,
  ⟨some 19, .buildSlice 37 1 #[(0, .tmp 18)], none⟩,
  ⟨some 20, .convert 37 9 (.tmp 19), none⟩,
  ⟨some 2, .assign (.tmp 20), none⟩]
def f107_c : LC := (.seq (.reg f107_r0 [] none) (.seq (.seq (.reg f107_r1 [] none) (.cond (.tmp 13) (.seq (.reg f107_r2 [] none) .ret) .skip)) (.seq (.reg f107_r3 [] none) .ret)))
theorem f107_lc : Try.f107.body.map lc = some f107_c.st := by kernel_rfl
theorem f107_res : Try.f107.results.toList = [.tmp 2] := by kernel_rfl
theorem f107_nt : Try.f107.ntmps = 21 := by kernel_rfl
theorem f107_nm : (Try.f107.name == "runtime.NumGoroutine") = false := by kernel_rfl

/-! internal/stringslite.IndexByte -/
def f108_r0 : List LOp := [
  ⟨some 4, .assign (.const (.int .i64 0)), none⟩]
def f108_r1 : List LOp := [
  ⟨some 5, .move (.tmp 0), none⟩,
  ⟨some 6, .move (.tmp 1), none⟩,
  ⟨some 7, .call { callee := .value (.func 121), args := #[.tmp 5, .tmp 6], argTypes := #[9, 5] }, none⟩,
  ⟨some 4, .assign (.tmp 7), none⟩]
def f108_c : LC := (.seq (.reg f108_r0 [] none) (.seq (.reg f108_r1 [] none) .ret))
theorem f108_lc : Try.f108.body.map lc = some f108_c.st := by kernel_rfl
theorem f108_res : Try.f108.results.toList = [.tmp 4] := by kernel_rfl
theorem f108_nt : Try.f108.ntmps = 8 := by kernel_rfl
theorem f108_nm : (Try.f108.name == "runtime.NumGoroutine") = false := by kernel_rfl

/-! slices.Backward[[]quill/api.Re,quill/api.Re] -/
def f109_r0 : List LOp := [
  ⟨some 1, .box 26 (.tmp 0), none⟩,
  ⟨some 2, .assign (.const .nilFunc), none⟩]
def f109_r1 : List LOp := [
  ⟨some 3, .makeFunc (.func 122) #[] #[.tmp 1], none⟩,
  ⟨some 2, .assign (.tmp 3), none⟩]
def f109_c : LC := (.seq (.reg f109_r0 [] none) (.seq (.reg f109_r1 [] none) .ret))
theorem f109_lc : Try.f109.body.map lc = some f109_c.st := by kernel_rfl
theorem f109_res : Try.f109.results.toList = [.tmp 2] := by kernel_rfl
theorem f109_nt : Try.f109.ntmps = 4 := by kernel_rfl
theorem f109_nm : (Try.f109.name == "runtime.NumGoroutine") = false := by kernel_rfl

/-! quill/quillref02.special -/
def f110_r0 : List LOp := [
  ⟨some 2, .assign (.const (.bool false)), none⟩]
def f110_r1 : List LOp := [
  ⟨some 3, .assign (.const (.string { data := #[92, 124, 42, 40, 41, 91, 93, 46, 45] })), none⟩]
def f110_r2 : List LOp := [
  ⟨some 4, .assign (.const (.int .i64 0)), none⟩]
def f110_r3 : List LOp := [
  ⟨some 5, .move (.tmp 4), none⟩,
  ⟨some 6, .move (.tmp 3), none⟩,
  ⟨some 7, .call { callee := .builtin .len, args := #[.tmp 6], argTypes := #[9] }, none⟩,
  ⟨some 8, .binOp .lss 3 (.tmp 5) (.tmp 7) 3, none⟩]
def f110_r4 : List LOp := [
  ⟨some 11, .move (.tmp 3), none⟩,
  ⟨some 12, .move (.tmp 4), none⟩,
  ⟨some 13, .index 9 (.tmp 11) (.tmp 12), none⟩,
  ⟨some 14, .move (.tmp 0), none⟩,
  ⟨some 15, .binOp .eql 5 (.tmp 13) (.tmp 14) 5, none⟩]
def f110_r5 : List LOp := [
  ⟨some 2, .assign (.const (.bool true)), none⟩]
def f110_r6 : List LOp := [
  ⟨some 9, .move (.tmp 4), none⟩,
  ⟨some 10, .binOp .add 3 (.tmp 9) (.const (.int .i64 1)) 3, none⟩,
  ⟨some 4, .assign (.tmp 10), none⟩]
def f110_l7 : LC := (.seq (.seq (.reg f110_r3 [] none) (.cond (.tmp 8) .skip (.exit 0))) (.seq (.block 1 (.seq (.reg f110_r4 [] none) (.cond (.tmp 15) (.seq (.reg f110_r5 [] none) .ret) .skip))) (.reg f110_r6 [] none)))
def f110_i7 (t0 t3 t4 : D) : List D := [t0, .any, .any, t3, t4, .any, .any, .any, .any, .any, .any, .any, .any, .any, .any, .any, .any, .any, .any, .any, .any, .any]
def f110_r8 : List LOp := [
  ⟨some 16, .move (.tmp 0), none⟩,
  ⟨some 17, .binOp .lss 5 (.tmp 16) (.const (.int .u8 33)) 5, none⟩,
  ⟨some 18, .move (.tmp 17), none⟩,
  ⟨some 19, .move (.tmp 0), some (2, false)⟩,
  ⟨some 20, .binOp .gtr 5 (.tmp 19) (.const (.int .u8 126)) 5, some (2, false)⟩,
  ⟨some 21, .pick (.tmp 18) (.const (.bool true)) (.tmp 20), none⟩,
  ⟨some 2, .assign (.tmp 21), none⟩]
def f110_c : LC := (.seq (.reg f110_r0 [] none) (.seq (.reg f110_r1 [] none) (.seq (.seq (.reg f110_r2 [] none) (.block 0 (.loop f110_l7))) (.seq (.reg f110_r8 [] none) .ret))))
theorem f110_lc : Try.f110.body.map lc = some f110_c.st := by kernel_rfl
theorem f110_res : Try.f110.results.toList = [.tmp 2] := by kernel_rfl
theorem f110_nt : Try.f110.ntmps = 22 := by kernel_rfl
theorem f110_nm : (Try.f110.name == "runtime.NumGoroutine") = false := by kernel_rfl

/-! quill/quillref01.Hex -/
def f111_r0 : List LOp := [
  ⟨some 2, .assign (.const (.string { data := #[] })), none⟩]
def f111_r1 : List LOp := [
  ⟨some 3, .assign (.const (.string { data := #[] })), none⟩]
def f111_r2 : List LOp := [
  ⟨some 5, .move (.tmp 0), none⟩,
  ⟨some 6, .call { callee := .builtin .len, args := #[.tmp 5], argTypes := #[37] }, none⟩,
  ⟨some 7, .move (.const (.int .i64 0)), none⟩]
def f111_r3 : List LOp := [
  ⟨some 8, .binOp .lss 3 (.tmp 7) (.tmp 6) 3, none⟩]
def f111_r4 : List LOp := [
  ⟨some 9, .move (.tmp 7), none⟩,
  ⟨some 4, .assign (.tmp 9), none⟩]
def f111_r5 : List LOp := [
  ⟨some 10, .move (.tmp 3), none⟩,
  ⟨some 11, .move (.tmp 0), none⟩,
  ⟨some 12, .move (.tmp 4), none⟩,
  ⟨some 13, .indexAddr 37 (.tmp 11) (.tmp 12), none⟩,
  ⟨some 14, .load 5 (.tmp 13), none⟩,
  ⟨some 15, .convert 5 3 (.tmp 14), none⟩,
  ⟨some 16, .binOp .quo 3 (.tmp 15) (.const (.int .i64 16)) 3, none⟩,
  ⟨some 17, .call { callee := .value (.func 123), args := #[.tmp 16], argTypes := #[3] }, none⟩,
  ⟨some 18, .binOp .add 9 (.tmp 10) (.tmp 17) 9, none⟩,
  ⟨some 19, .move (.tmp 0), none⟩,
  ⟨some 20, .move (.tmp 4), none⟩,
  ⟨some 21, .indexAddr 37 (.tmp 19) (.tmp 20), none⟩,
  ⟨some 22, .load 5 (.tmp 21), none⟩,
  ⟨some 23, .convert 5 3 (.tmp 22), none⟩,
  ⟨some 24, .binOp .rem 3 (.tmp 23) (.const (.int .i64 16)) 3, none⟩,
  ⟨some 25, .call { callee := .value (.func 123), args := #[.tmp 24], argTypes := #[3] }, none⟩,
  ⟨some 26, .binOp .add 9 (.tmp 18) (.tmp 25) 9, none⟩,
  ⟨some 3, .assign (.tmp 26), none⟩]
def f111_r6 : List LOp := [
  ⟨some 27, .binOp .add 3 (.tmp 7) (.const (.int .i64 1)) 3, none⟩,
  ⟨some 7, .move (.tmp 27), none⟩]
def f111_l7 : LC := (.seq (.reg f111_r3 [] none) (.seq (.cond (.tmp 8) .skip (.exit 0)) (.seq (.block 1 (.seq (.reg f111_r4 [] none) (.reg f111_r5 [] (some 17)))) (.reg f111_r6 [] none))))
def f111_i7 (t0 t3 t6 t7 : D) : List D := [t0, .any, .any, t3, .any, .any, t6, t7, .any, .any, .any, .any, .any, .any, .any, .any, .any, .any, .any, .any, .any, .any, .any, .any, .any, .any, .any, .any, .any]
def f111_r8 : List LOp := [
  ⟨some 28, .move (.tmp 3), none⟩,
  ⟨some 2, .assign (.tmp 28), none⟩]
def f111_c : LC := (.seq (.reg f111_r0 [] none) (.seq (.reg f111_r1 [] none) (.seq (.seq (.reg f111_r2 [] none) (.block 0 (.loop f111_l7))) (.seq (.reg f111_r8 [] none) .ret))))
theorem f111_lc : Try.f111.body.map lc = some f111_c.st := by kernel_rfl
theorem f111_res : Try.f111.results.toList = [.tmp 2] := by kernel_rfl
theorem f111_nt : Try.f111.ntmps = 29 := by kernel_rfl
theorem f111_nm : (Try.f111.name == "runtime.NumGoroutine") = false := by kernel_rfl

/-! quill/quillref02.With -/
def f112_r0 : List LOp := [
  ⟨some 2, .box 25 (.tmp 0), none⟩,
  ⟨some 4, .alloc 25, none⟩]
def f112_r1 : List LOp := [
  ⟨some 7, .load 25 (.tmp 2), none⟩,
  ⟨some 8, .move (.tmp 1), none⟩,
  ⟨some 9, .call { callee := .value (.func 91), args := #[.tmp 7, .tmp 8], argTypes := #[25, 3] }, none⟩]
def f112_r2 : List LOp := [
  ⟨some 10, .load 25 (.tmp 2), none⟩,
  ⟨none, .store 25 (.tmp 4) (.tmp 10), none⟩]
def f112_r3 : List LOp := [
  ⟨some 5, .assign (.const (.int .u64 1)), none⟩]
def f112_r4 : List LOp := [
  ⟨some 6, .assign (.const (.int .i64 0)), none⟩]
def f112_r5 : List LOp := [
  ⟨some 11, .move (.tmp 6), none⟩,
  ⟨some 12, .move (.tmp 1), none⟩,
  ⟨some 13, .binOp .rem 3 (.tmp 12) (.const (.int .i64 64)) 3, none⟩,
  ⟨some 14, .binOp .lss 3 (.tmp 11) (.tmp 13) 3, none⟩]
def f112_r6 : List LOp := [
  ⟨some 17, .move (.tmp 5), none⟩,
  ⟨some 18, .binOp .mul 23 (.const (.int .u64 2)) (.tmp 17) 23, none⟩,
  ⟨some 5, .assign (.tmp 18), none⟩]
def f112_r7 : List LOp := [
  ⟨some 15, .move (.tmp 6), none⟩,
  ⟨some 16, .binOp .add 3 (.tmp 15) (.const (.int .i64 1)) 3, none⟩,
  ⟨some 6, .assign (.tmp 16), none⟩]
def f112_l8 : LC := (.seq (.seq (.reg f112_r5 [] none) (.cond (.tmp 14) .skip (.exit 0))) (.seq (.block 1 (.reg f112_r6 [] none)) (.reg f112_r7 [] none)))
def f112_i8 (t1 t2 t4 t5 t6 : D) : List D := [.any, t1, t2, .any, t4, t5, t6, .any, .any, .any, .any, .any, .any, .any, .any, .any, .any, .any, .any, .any, .any, .any, .any, .any, .any, .any, .any, .any, .any]
def f112_r9 : List LOp := [
  ⟨some 19, .move (.tmp 1), none⟩,
  ⟨some 20, .binOp .quo 3 (.tmp 19) (.const (.int .i64 64)) 3, none⟩,
  ⟨some 21, .move (.tmp 1), none⟩,
  ⟨some 22, .binOp .quo 3 (.tmp 21) (.const (.int .i64 64)) 3, none⟩,
  ⟨some 23, .indexAddr 25 (.tmp 2) (.tmp 22), none⟩,
  ⟨some 24, .load 23 (.tmp 23), none⟩,
  ⟨some 25, .move (.tmp 5), none⟩,
  ⟨some 26, .binOp .add 23 (.tmp 24) (.tmp 25) 23, none⟩,
  ⟨some 27, .indexAddr 25 (.tmp 2) (.tmp 20), none⟩,
  ⟨none, .store 23 (.tmp 27) (.tmp 26), none⟩]
def f112_r10 : List LOp := [
  ⟨some 28, .load 25 (.tmp 2), none⟩,
  ⟨none, .store 25 (.tmp 4) (.tmp 28), none⟩]
def f112_c : LC := (.seq (.reg f112_r0 [0] none) (.seq (.seq (.reg f112_r1 [] none) (.cond (.tmp 9) (.seq (.reg f112_r2 [] none) .ret) .skip)) (.seq (.reg f112_r3 [] none) (.seq (.seq (.reg f112_r4 [] none) (.block 0 (.loop f112_l8))) (.seq (.reg f112_r9 [] none) (.seq (.reg f112_r10 [] none) .ret))))))
theorem f112_lc : Try.f112.body.map lc = some f112_c.st := by kernel_rfl
theorem f112_res : Try.f112.results.toList = [.cell 4 25] := by kernel_rfl
theorem f112_nt : Try.f112.ntmps = 29 := by kernel_rfl
theorem f112_nm : (Try.f112.name == "runtime.NumGoroutine") = false := by kernel_rfl

/-! quill/quillref02.Join -/
def f113_r0 : List LOp := [
  ⟨some 2, .box 25 (.tmp 0), none⟩,
  ⟨some 3, .box 25 (.tmp 1), none⟩,
  ⟨some 4, .alloc 25, none⟩]
def f113_r1 : List LOp := [
  ⟨some 7, .load 25 (.tmp 2), none⟩,
  ⟨some 5, .alloc 25, none⟩,
  ⟨none, .store 25 (.tmp 5) (.tmp 7), none⟩]
def f113_r2 : List LOp := [
  ⟨some 6, .assign (.const (.int .i64 0)), none⟩]
def f113_r3 : List LOp := [
  ⟨some 8, .move (.tmp 6), none⟩,
  ⟨some 9, .binOp .lss 3 (.tmp 8) (.const (.int .i64 256)) 3, none⟩]
def f113_r4 : List LOp := [
  ⟨some 12, .load 25 (.tmp 3), none⟩,
  ⟨some 13, .move (.tmp 6), none⟩,
  ⟨some 14, .call { callee := .value (.func 91), args := #[.tmp 12, .tmp 13], argTypes := #[25, 3] }, none⟩]
def f113_r5 : List LOp := [
  ⟨some 15, .load 25 (.tmp 5), none⟩,
  ⟨some 16, .move (.tmp 6), none⟩,
  ⟨some 17, .call { callee := .value (.func 112), args := #[.tmp 15, .tmp 16], argTypes := #[25, 3] }, none⟩,
  ⟨none, .store 25 (.tmp 5) (.tmp 17), none⟩]
def f113_r6 : List LOp := [
  ⟨some 10, .move (.tmp 6), none⟩,
  ⟨some 11, .binOp .add 3 (.tmp 10) (.const (.int .i64 1)) 3, none⟩,
  ⟨some 6, .assign (.tmp 11), none⟩]
def f113_l7 : LC := (.seq (.seq (.reg f113_r3 [] none) (.cond (.tmp 9) .skip (.exit 0))) (.seq (.block 1 (.seq (.reg f113_r4 [] none) (.cond (.tmp 14) (.reg f113_r5 [] none) .skip))) (.reg f113_r6 [] none)))
def f113_i7 (t3 t4 t5 t6 : D) : List D := [.any, .any, .any, t3, t4, t5, t6, .any, .any, .any, .any, .any, .any, .any, .any, .any, .any, .any, .any]
def f113_r8 : List LOp := [
  ⟨some 18, .load 25 (.tmp 5), none⟩,
  ⟨none, .store 25 (.tmp 4) (.tmp 18), none⟩]
def f113_c : LC := (.seq (.reg f113_r0 [] none) (.seq (.reg f113_r1 [] none) (.seq (.seq (.reg f113_r2 [] none) (.block 0 (.loop f113_l7))) (.seq (.reg f113_r8 [] none) .ret))))
theorem f113_lc : Try.f113.body.map lc = some f113_c.st := by kernel_rfl
theorem f113_res : Try.f113.results.toList = [.cell 4 25] := by kernel_rfl
theorem f113_nt : Try.f113.ntmps = 19 := by kernel_rfl
theorem f113_nm : (Try.f113.name == "runtime.NumGoroutine") = false := by kernel_rfl

/-! quill/quillref01.Value -/
def f114_r0 : List LOp := [
  ⟨some 2, .assign (.const (.int .i64 0)), none⟩]
def f114_r1 : List LOp := [
  ⟨some 3, .move (.tmp 0), none⟩,
  ⟨some 4, .binOp .geq 5 (.tmp 3) (.const (.int .u8 48)) 5, none⟩,
  ⟨some 5, .move (.tmp 4), none⟩,
  ⟨some 6, .move (.tmp 0), some (2, true)⟩,
  ⟨some 7, .binOp .leq 5 (.tmp 6) (.const (.int .u8 57)) 5, some (2, true)⟩,
  ⟨some 8, .pick (.tmp 5) (.tmp 7) (.const (.bool false)), none⟩]
def f114_r2 : List LOp := [
  ⟨some 9, .move (.tmp 0), none⟩,
  ⟨some 10, .binOp .sub 5 (.tmp 9) (.const (.int .u8 48)) 5, none⟩,
  ⟨some 11, .convert 5 3 (.tmp 10), none⟩,
  ⟨some 2, .assign (.tmp 11), none⟩]
def f114_r3 : List LOp := [
  ⟨some 12, .move (.tmp 0), none⟩,
  ⟨some 13, .binOp .geq 5 (.tmp 12) (.const (.int .u8 97)) 5, none⟩,
  ⟨some 14, .move (.tmp 13), none⟩,
  ⟨some 15, .move (.tmp 0), some (2, true)⟩,
  ⟨some 16, .binOp .leq 5 (.tmp 15) (.const (.int .u8 102)) 5, some (2, true)⟩,
  ⟨some 17, .pick (.tmp 14) (.tmp 16) (.const (.bool false)), none⟩]
def f114_r4 : List LOp := [
  ⟨some 18, .move (.tmp 0), none⟩,
  ⟨some 19, .binOp .sub 5 (.tmp 18) (.const (.int .u8 97)) 5, none⟩,
  ⟨some 20, .convert 5 3 (.tmp 19), none⟩,
  ⟨some 21, .binOp .add 3 (.tmp 20) (.const (.int .i64 10)) 3, none⟩,
  ⟨some 2, .assign (.tmp 21), none⟩]
def f114_r5 : List LOp := [
  ⟨some 2, .assign (.const (.int .i64 (-1))), none⟩]
def f114_c : LC := (.seq (.reg f114_r0 [] none) (.seq (.seq (.reg f114_r1 [] none) (.cond (.tmp 8) (.seq (.reg f114_r2 [] none) .ret) .skip)) (.seq (.seq (.reg f114_r3 [] none) (.cond (.tmp 17) (.seq (.reg f114_r4 [] none) .ret) .skip)) (.seq (.reg f114_r5 [] none) .ret))))
theorem f114_lc : Try.f114.body.map lc = some f114_c.st := by kernel_rfl
theorem f114_res : Try.f114.results.toList = [.tmp 2] := by kernel_rfl
theorem f114_nt : Try.f114.ntmps = 22 := by kernel_rfl
theorem f114_nm : (Try.f114.name == "runtime.NumGoroutine") = false := by kernel_rfl

/-! quill/rex.Of -/
def f115_r0 : List LOp := [
  ⟨some 1, .box 25 (.tmp 0), none⟩,
  ⟨some 2, .alloc 28, none⟩]
def f115_r1 : List LOp := [
  ⟨some 3, .load 25 (.tmp 1), none⟩,
  ⟨some 4, .build 25 #[], none⟩,
  ⟨some 5, .binOp .eql 25 (.tmp 3) (.tmp 4) 25, none⟩]
def f115_r2 : List LOp := [
  ⟨some 6, .build 28 #[(0, .const (.int .u8 1))], none⟩,
  ⟨none, .store 28 (.tmp 2) (.tmp 6), none⟩]
def f115_r3 : List LOp := [
  ⟨some 7, .load 25 (.tmp 1), none⟩,
  ⟨some 8, .build 28 #[(0, .const (.int .u8 3)), (1, .tmp 7)], none⟩,
  ⟨none, .store 28 (.tmp 2) (.tmp 8), none⟩]
def f115_c : LC := (.seq (.reg f115_r0 [] none) (.seq (.seq (.reg f115_r1 [] none) (.cond (.tmp 5) (.seq (.reg f115_r2 [] none) .ret) .skip)) (.seq (.reg f115_r3 [] none) .ret)))
theorem f115_lc : Try.f115.body.map lc = some f115_c.st := by kernel_rfl
theorem f115_res : Try.f115.results.toList = [.cell 2 28] := by kernel_rfl
theorem f115_nt : Try.f115.ntmps = 9 := by kernel_rfl
theorem f115_nm : (Try.f115.name == "runtime.NumGoroutine") = false := by kernel_rfl

/-! quill/set.Range -/
def f116_r0 : List LOp := [
  ⟨some 4, .alloc 25, none⟩]
def f116_r1 : List LOp := [
  ⟨some 5, .alloc 25, none⟩]
def f116_r2 : List LOp := [
  ⟨some 7, .move (.tmp 0), none⟩,
  ⟨some 8, .convert 5 3 (.tmp 7), none⟩,
  ⟨some 6, .assign (.tmp 8), none⟩]
def f116_r3 : List LOp := [
  ⟨some 9, .move (.tmp 6), none⟩,
  ⟨some 10, .move (.tmp 1), none⟩,
  ⟨some 11, .convert 5 3 (.tmp 10), none⟩,
  ⟨some 12, .binOp .leq 3 (.tmp 9) (.tmp 11) 3, none⟩]
def f116_r4 : List LOp := [
  ⟨some 15, .move (.tmp 6), none⟩,
  ⟨some 16, .binOp .quo 3 (.tmp 15) (.const (.int .i64 64)) 3, none⟩,
  ⟨some 17, .indexAddr 25 (.tmp 5) (.tmp 16), none⟩,
  ⟨some 18, .load 23 (.tmp 17), none⟩,
  ⟨some 19, .move (.tmp 6), none⟩,
  ⟨some 20, .binOp .rem 3 (.tmp 19) (.const (.int .i64 64)) 3, none⟩,
  ⟨some 21, .binOp .shl 23 (.const (.int .u64 1)) (.tmp 20) 3, none⟩,
  ⟨some 22, .binOp .or 23 (.tmp 18) (.tmp 21) 23, none⟩,
  ⟨some 23, .indexAddr 25 (.tmp 5) (.tmp 16), none⟩,
  ⟨none, .store 23 (.tmp 23) (.tmp 22), none⟩]
def f116_r5 : List LOp := [
  ⟨some 13, .move (.tmp 6), none⟩,
  ⟨some 14, .binOp .add 3 (.tmp 13) (.const (.int .i64 1)) 3, none⟩,
  ⟨some 6, .assign (.tmp 14), none⟩]
def f116_l6 : LC := (.seq (.seq (.reg f116_r3 [] none) (.cond (.tmp 12) .skip (.exit 0))) (.seq (.block 1 (.reg f116_r4 [] (some 7))) (.reg f116_r5 [] none)))
def f116_i6 (t1 t4 t5 t6 : D) : List D := [.any, t1, .any, .any, t4, t5, t6, .any, .any, .any, .any, .any, .any, .any, .any, .any, .any, .any, .any, .any, .any, .any, .any, .any, .any]
def f116_r7 : List LOp := [
  ⟨some 24, .load 25 (.tmp 5), none⟩,
  ⟨none, .store 25 (.tmp 4) (.tmp 24), none⟩]
def f116_c : LC := (.seq (.reg f116_r0 [] none) (.seq (.reg f116_r1 [] none) (.seq (.seq (.reg f116_r2 [] none) (.block 0 (.loop f116_l6))) (.seq (.reg f116_r7 [] none) .ret))))
theorem f116_lc : Try.f116.body.map lc = some f116_c.st := by kernel_rfl
theorem f116_res : Try.f116.results.toList = [.cell 4 25] := by kernel_rfl
theorem f116_nt : Try.f116.ntmps = 25 := by kernel_rfl
theorem f116_nm : (Try.f116.name == "runtime.NumGoroutine") = false := by kernel_rfl

/-! (*quill/read.reader).class -/
def f117_r0 : List LOp := [
  ⟨some 2, .alloc 28, none⟩]
def f117_r1 : List LOp := [
  ⟨some 3, .alloc 25, none⟩]
def f117_r2 : List LOp := [
  ⟨some 7, .move (.tmp 0), none⟩,
  ⟨some 8, .call { callee := .value (.func 84), args := #[.tmp 7, .const (.string { data := #[93] })], argTypes := #[67, 9] }, none⟩,
  ⟨some 9, .unOp .not 4 (.tmp 8), none⟩]
def f117_r3 : List LOp := [
  ⟨some 10, .move (.tmp 0), none⟩,
  ⟨some 11, .call { callee := .value (.func 119), args := #[.tmp 10], argTypes := #[67] }, none⟩,
  ⟨some 4, .assign (.tmp 11), none⟩]
def f117_r4 : List LOp := [
  ⟨some 12, .move (.tmp 4), none⟩,
  ⟨some 5, .assign (.tmp 12), none⟩]
def f117_r5 : List LOp := [
  ⟨some 13, .move (.tmp 0), none⟩,
  ⟨some 14, .call { callee := .value (.func 84), args := #[.tmp 13, .const (.string { data := #[45] })], argTypes := #[67, 9] }, none⟩]
def f117_r6 : List LOp := [
  ⟨some 15, .move (.tmp 0), none⟩,
  ⟨some 16, .nilCheck (.tmp 15), none⟩,
  ⟨some 17, .fieldAddr 69 (.tmp 16) 1, none⟩,
  ⟨some 18, .load 3 (.tmp 17), none⟩,
  ⟨some 19, .binOp .add 3 (.tmp 18) (.const (.int .i64 1)) 3, none⟩,
  ⟨some 20, .nilCheck (.tmp 15), none⟩,
  ⟨some 21, .fieldAddr 69 (.tmp 20) 1, none⟩,
  ⟨none, .store 3 (.tmp 21) (.tmp 19), none⟩]
def f117_r7 : List LOp := [
  ⟨some 22, .move (.tmp 0), none⟩,
  ⟨some 23, .nilCheck (.tmp 22), none⟩,
  ⟨some 24, .fieldAddr 69 (.tmp 23) 1, none⟩,
  ⟨some 25, .load 3 (.tmp 24), none⟩,
  ⟨some 6, .assign (.tmp 25), none⟩]
def f117_r8 : List LOp := [
  ⟨some 26, .move (.tmp 0), none⟩,
  ⟨some 27, .call { callee := .value (.func 119), args := #[.tmp 26], argTypes := #[67] }, none⟩,
  ⟨some 5, .assign (.tmp 27), none⟩]
def f117_r9 : List LOp := [
  ⟨some 28, .move (.tmp 5), none⟩,
  ⟨some 29, .move (.tmp 4), none⟩,
  ⟨some 30, .binOp .lss 5 (.tmp 28) (.tmp 29) 5, none⟩]
def f117_r10 : List LOp := [
  ⟨some 31, .move (.tmp 6), none⟩,
  ⟨some 32, .build 88 #[(0, .tmp 31)], none⟩,
  ⟨some 33, .makeInterface 88 (.tmp 32), none⟩,
  ⟨none, .panic (.tmp 33), none⟩]
def f117_r11 : List LOp := [
  ⟨some 34, .load 25 (.tmp 3), none⟩,
  ⟨some 35, .move (.tmp 4), none⟩,
  ⟨some 36, .move (.tmp 5), none⟩,
  ⟨some 37, .call { callee := .value (.func 116), args := #[.tmp 35, .tmp 36], argTypes := #[5, 5] }, none⟩,
  ⟨some 38, .buildSlice 83 2 #[(0, .tmp 34), (1, .tmp 37)], none⟩,
  ⟨some 39, .call { callee := .value (.func 33), args := #[.tmp 38], argTypes := #[83] }, none⟩,
  ⟨none, .store 25 (.tmp 3) (.tmp 39), none⟩]
def f117_l12 : LC := (.seq (.seq (.reg f117_r2 [] none) (.cond (.tmp 9) .skip (.exit 0))) (.block 1 (.seq (.reg f117_r3 [] none) (.seq (.reg f117_r4 [] none) (.seq (.seq (.reg f117_r5 [] none) (.cond (.tmp 14) (.seq (.reg f117_r6 [] none) (.seq (.reg f117_r7 [] none) (.seq (.reg f117_r8 [] none) (.seq (.reg f117_r9 [] none) (.cond (.tmp 30) (.reg f117_r10 [] none) .skip))))) .skip)) (.reg f117_r11 [] (some 4)))))))
def f117_i12 (t0 t2 t3 : D) : List D := [t0, .any, t2, t3, .any, .any, .any, .any, .any, .any, .any, .any, .any, .any, .any, .any, .any, .any, .any, .any, .any, .any, .any, .any, .any, .any, .any, .any, .any, .any, .any, .any, .any, .any, .any, .any, .any, .any, .any, .any, .any, .any, .any, .any, .any, .any, .any, .any, .any]
def f117_r13 : List LOp := [
  ⟨some 40, .move (.tmp 0), none⟩,
  ⟨some 41, .nilCheck (.tmp 40), none⟩,
  ⟨some 42, .fieldAddr 69 (.tmp 41) 1, none⟩,
  ⟨some 43, .load 3 (.tmp 42), none⟩,
  ⟨some 44, .binOp .add 3 (.tmp 43) (.const (.int .i64 1)) 3, none⟩,
  ⟨some 45, .nilCheck (.tmp 40), none⟩,
  ⟨some 46, .fieldAddr 69 (.tmp 45) 1, none⟩,
  ⟨none, .store 3 (.tmp 46) (.tmp 44), none⟩]
def f117_r14 : List LOp := [
  ⟨some 47, .load 25 (.tmp 3), none⟩,
  ⟨some 48, .call { callee := .value (.func 115), args := #[.tmp 47], argTypes := #[25] }, none⟩,
  ⟨none, .store 28 (.tmp 2) (.tmp 48), none⟩]
def f117_c : LC := (.seq (.reg f117_r0 [] none) (.seq (.reg f117_r1 [] none) (.seq (.block 0 (.loop f117_l12)) (.seq (.reg f117_r13 [] none) (.seq (.reg f117_r14 [] none) .ret)))))
theorem f117_lc : Try.f117.body.map lc = some f117_c.st := by kernel_rfl
theorem f117_res : Try.f117.results.toList = [.cell 2 28] := by kernel_rfl
theorem f117_nt : Try.f117.ntmps = 49 := by kernel_rfl
theorem f117_nm : (Try.f117.name == "runtime.NumGoroutine") = false := by kernel_rfl

/-! (*quill/read.reader).eat -/
def f118_r0 : List LOp := [
  ⟨some 4, .move (.tmp 0), none⟩,
  ⟨some 5, .move (.tmp 1), none⟩,
  ⟨some 6, .call { callee := .value (.func 84), args := #[.tmp 4, .tmp 5], argTypes := #[67, 9] }, none⟩,
  ⟨some 7, .unOp .not 4 (.tmp 6), none⟩]
def f118_r1 : List LOp := [
  ⟨some 8, .move (.tmp 0), none⟩,
  ⟨some 9, .nilCheck (.tmp 8), none⟩,
  ⟨some 10, .fieldAddr 69 (.tmp 9) 1, none⟩,
  ⟨some 11, .load 3 (.tmp 10), none⟩,
  ⟨some 12, .build 88 #[(0, .tmp 11)], none⟩,
  ⟨some 13, .makeInterface 88 (.tmp 12), none⟩,
  ⟨none, .panic (.tmp 13), none⟩]
def f118_r2 : List LOp := [
  ⟨some 14, .move (.tmp 0), none⟩,
  ⟨some 15, .nilCheck (.tmp 14), none⟩,
  ⟨some 16, .fieldAddr 69 (.tmp 15) 1, none⟩,
  ⟨some 17, .load 3 (.tmp 16), none⟩,
  ⟨some 18, .binOp .add 3 (.tmp 17) (.const (.int .i64 1)) 3, none⟩,
  ⟨some 19, .nilCheck (.tmp 14), none⟩,
  ⟨some 20, .fieldAddr 69 (.tmp 19) 1, none⟩,
  ⟨none, .store 3 (.tmp 20) (.tmp 18), none⟩]
def f118_c : LC := (.seq (.seq (.reg f118_r0 [] none) (.cond (.tmp 7) (.reg f118_r1 [] none) .skip)) (.reg f118_r2 [] none))
theorem f118_lc : Try.f118.body.map lc = some f118_c.st := by kernel_rfl
theorem f118_res : Try.f118.results.toList = [] := by kernel_rfl
theorem f118_nt : Try.f118.ntmps = 21 := by kernel_rfl
theorem f118_nm : (Try.f118.name == "runtime.NumGoroutine") = false := by kernel_rfl

/-! (*quill/read.reader).sign -/
def f119_r0 : List LOp := [
  ⟨some 2, .assign (.const (.int .u8 0)), none⟩]
def f119_r1 : List LOp := [
  ⟨some 7, .move (.tmp 0), none⟩,
  ⟨some 8, .call { callee := .value (.func 94), args := #[.tmp 7], argTypes := #[67] }, none⟩,
  ⟨some 9, .unOp .not 4 (.tmp 8), none⟩]
def f119_r2 : List LOp := [
  ⟨some 10, .move (.tmp 0), none⟩,
  ⟨some 11, .nilCheck (.tmp 10), none⟩,
  ⟨some 12, .fieldAddr 69 (.tmp 11) 1, none⟩,
  ⟨some 13, .load 3 (.tmp 12), none⟩,
  ⟨some 14, .build 88 #[(0, .tmp 13)], none⟩,
  ⟨some 15, .makeInterface 88 (.tmp 14), none⟩,
  ⟨none, .panic (.tmp 15), none⟩]
def f119_r3 : List LOp := [
  ⟨some 16, .move (.tmp 0), none⟩,
  ⟨some 17, .nilCheck (.tmp 16), none⟩,
  ⟨some 18, .fieldAddr 69 (.tmp 17) 0, none⟩,
  ⟨some 19, .load 9 (.tmp 18), none⟩,
  ⟨some 20, .move (.tmp 0), none⟩,
  ⟨some 21, .nilCheck (.tmp 20), none⟩,
  ⟨some 22, .fieldAddr 69 (.tmp 21) 1, none⟩,
  ⟨some 23, .load 3 (.tmp 22), none⟩,
  ⟨some 24, .index 9 (.tmp 19) (.tmp 23), none⟩,
  ⟨some 3, .assign (.tmp 24), none⟩]
def f119_r4 : List LOp := [
  ⟨some 25, .move (.tmp 0), none⟩,
  ⟨some 26, .nilCheck (.tmp 25), none⟩,
  ⟨some 27, .fieldAddr 69 (.tmp 26) 1, none⟩,
  ⟨some 28, .load 3 (.tmp 27), none⟩,
  ⟨some 29, .binOp .add 3 (.tmp 28) (.const (.int .i64 1)) 3, none⟩,
  ⟨some 30, .nilCheck (.tmp 25), none⟩,
  ⟨some 31, .fieldAddr 69 (.tmp 30) 1, none⟩,
  ⟨none, .store 3 (.tmp 31) (.tmp 29), none⟩]
def f119_r5 : List LOp := [
  ⟨some 32, .move (.tmp 3), none⟩,
  ⟨some 33, .binOp .neq 5 (.tmp 32) (.const (.int .u8 92)) 5, none⟩]
def f119_r6 : List LOp := [
  ⟨some 34, .move (.tmp 3), none⟩,
  ⟨some 2, .assign (.tmp 34), none⟩]
def f119_r7 : List LOp := [
  ⟨some 35, .move (.tmp 0), none⟩,
  ⟨some 36, .nilCheck (.tmp 35), none⟩,
  ⟨some 37, .fieldAddr 69 (.tmp 36) 1, none⟩,
  ⟨some 38, .load 3 (.tmp 37), none⟩,
  ⟨some 4, .assign (.tmp 38), none⟩]
def f119_r8 : List LOp := [
  ⟨some 39, .move (.tmp 0), none⟩,
  ⟨some 40, .call { callee := .value (.func 124), args := #[.tmp 39], argTypes := #[67] }, none⟩]
def f119_r9 : List LOp := [
  ⟨some 41, .move (.tmp 0), none⟩,
  ⟨some 42, .call { callee := .value (.func 124), args := #[.tmp 41], argTypes := #[67] }, none⟩]
def f119_r10 : List LOp := [
  ⟨some 44, .move (.tmp 0), none⟩,
  ⟨some 45, .nilCheck (.tmp 44), none⟩,
  ⟨some 46, .fieldAddr 69 (.tmp 45) 0, none⟩,
  ⟨some 47, .load 9 (.tmp 46), none⟩,
  ⟨some 48, .move (.tmp 4), none⟩,
  ⟨some 49, .move (.tmp 0), none⟩,
  ⟨some 50, .nilCheck (.tmp 49), none⟩,
  ⟨some 51, .fieldAddr 69 (.tmp 50) 1, none⟩,
  ⟨some 52, .load 3 (.tmp 51), none⟩,
  ⟨some 53, .slice 9 (.tmp 47) (some (.tmp 48)) (some (.tmp 52)) none, none⟩,
  ⟨some 54, .call { callee := .value (.func 125), args := #[.tmp 53], argTypes := #[9] }, none⟩,
  ⟨some 43, .move (.tmp 54), none⟩,
  ⟨some 55, .extract (.tmp 43) 0, none⟩,
  ⟨some 56, .extract (.tmp 43) 1, none⟩,
  ⟨some 5, .assign (.tmp 55), none⟩,
  ⟨some 6, .assign (.tmp 56), none⟩]
def f119_r11 : List LOp := [
  ⟨some 57, .move (.tmp 5), none⟩,
  ⟨some 58, .indexAddr 37 (.tmp 57) (.const (.int .i64 0)), none⟩,
  ⟨some 59, .load 5 (.tmp 58), none⟩,
  ⟨some 2, .assign (.tmp 59), none⟩]
def f119_c : LC := (.seq (.reg f119_r0 [] none) (.seq (.seq (.reg f119_r1 [] none) (.cond (.tmp 9) (.reg f119_r2 [] none) .skip)) (.seq (.reg f119_r3 [] (some 8)) (.seq (.reg f119_r4 [] none) (.seq (.seq (.reg f119_r5 [] none) (.cond (.tmp 33) (.seq (.reg f119_r6 [] none) .ret) .skip)) (.seq (.reg f119_r7 [] none) (.seq (.reg f119_r8 [] none) (.seq (.reg f119_r9 [] none) (.seq (.regp f119_r10 [] [0, 4, 5] 15) (.seq (.reg f119_r11 [] none) .ret))))))))))
theorem f119_lc : Try.f119.body.map lc = some f119_c.st := by kernel_rfl
theorem f119_res : Try.f119.results.toList = [.tmp 2] := by kernel_rfl
theorem f119_nt : Try.f119.ntmps = 60 := by kernel_rfl
theorem f119_nm : (Try.f119.name == "runtime.NumGoroutine") = false := by kernel_rfl

/-! quill/num.Hex -/
def f120_r0 : List LOp := [
  ⟨some 2, .assign (.const (.string { data := #[] })), none⟩]
def f120_r1 : List LOp := [
  ⟨some 6, .move (.tmp 0), none⟩,
  ⟨some 7, .call { callee := .builtin .len, args := #[.tmp 6], argTypes := #[37] }, none⟩,
  ⟨some 8, .binOp .mul 3 (.const (.int .i64 2)) (.tmp 7) 3, none⟩,
  ⟨some 9, .makeSlice 37 (.const (.int .i64 0)) (.tmp 8), none⟩,
  ⟨some 3, .assign (.tmp 9), none⟩]
def f120_r2 : List LOp := [
  ⟨some 10, .move (.tmp 0), none⟩,
  ⟨some 11, .call { callee := .builtin .len, args := #[.tmp 10], argTypes := #[37] }, none⟩,
  ⟨some 12, .move (.const (.int .i64 0)), none⟩]
def f120_r3 : List LOp := [
  ⟨some 13, .binOp .lss 3 (.tmp 12) (.tmp 11) 3, none⟩]
def f120_r4 : List LOp := [
  ⟨some 14, .indexAddr 37 (.tmp 10) (.tmp 12), none⟩,
  ⟨some 15, .load 5 (.tmp 14), none⟩,
  ⟨some 5, .assign (.tmp 15), none⟩]
def f120_r5 : List LOp := [
  ⟨some 16, .move (.tmp 3), none⟩,
  ⟨some 17, .move (.tmp 5), none⟩,
  ⟨some 18, .binOp .shr 5 (.tmp 17) (.const (.int .u64 4)) 99, none⟩,
  ⟨some 19, .call { callee := .value (.func 126), args := #[.tmp 18], argTypes := #[5] }, none⟩,
  ⟨some 20, .move (.tmp 5), none⟩,
  ⟨some 21, .call { callee := .value (.func 126), args := #[.tmp 20], argTypes := #[5] }, none⟩,
  ⟨some 22, .buildSlice 37 2 #[(0, .tmp 19), (1, .tmp 21)], none⟩,
  ⟨some 23, .call { callee := .builtin .append, args := #[.tmp 16, .tmp 22], argTypes := #[37, 37] }, none⟩,
  ⟨some 3, .assign (.tmp 23), none⟩]
def f120_r6 : List LOp := [
  ⟨some 24, .binOp .add 3 (.tmp 12) (.const (.int .i64 1)) 3, none⟩,
  ⟨some 12, .move (.tmp 24), none⟩]
def f120_l7 : LC := (.seq (.reg f120_r3 [] none) (.seq (.cond (.tmp 13) .skip (.exit 0)) (.seq (.block 1 (.seq (.reg f120_r4 [] none) (.reg f120_r5 [] none))) (.reg f120_r6 [] none))))
def f120_i7 (t3 t10 t11 t12 : D) : List D := [.any, .any, .any, t3, .any, .any, .any, .any, .any, .any, t10, t11, t12, .any, .any, .any, .any, .any, .any, .any, .any, .any, .any, .any, .any, .any, .any]
def f120_r8 : List LOp := [
  ⟨some 25, .move (.tmp 3), none⟩,
  ⟨some 26, .convert 37 9 (.tmp 25), none⟩,
  ⟨some 2, .assign (.tmp 26), none⟩]
def f120_c : LC := (.seq (.reg f120_r0 [] none) (.seq (.reg f120_r1 [3] none) (.seq (.seq (.reg f120_r2 [] none) (.block 0 (.loop f120_l7))) (.seq (.reg f120_r8 [] none) .ret))))
theorem f120_lc : Try.f120.body.map lc = some f120_c.st := by kernel_rfl
theorem f120_res : Try.f120.results.toList = [.tmp 2] := by kernel_rfl
theorem f120_nt : Try.f120.ntmps = 27 := by kernel_rfl
theorem f120_nm : (Try.f120.name == "runtime.NumGoroutine") = false := by kernel_rfl

/-! slices.Backward[[]quill/api.Re,quill/api.Re]$1 -/
def f122_r0 : List LOp := [
  ⟨some 4, .load 26 (.tmp 1), none⟩,
  ⟨some 5, .call { callee := .builtin .len, args := #[.tmp 4], argTypes := #[26] }, none⟩,
  ⟨some 6, .binOp .sub 3 (.tmp 5) (.const (.int .i64 1)) 3, none⟩,
  ⟨some 3, .assign (.tmp 6), none⟩]
def f122_r1 : List LOp := [
  ⟨some 7, .move (.tmp 3), none⟩,
  ⟨some 8, .binOp .geq 3 (.tmp 7) (.const (.int .i64 0)) 3, none⟩]
def f122_r2 : List LOp := [
  ⟨some 11, .move (.tmp 0), none⟩,
  ⟨some 12, .move (.tmp 3), none⟩,
  ⟨some 13, .load 26 (.tmp 1), none⟩,
  ⟨some 14, .move (.tmp 3), none⟩,
  ⟨some 15, .indexAddr 26 (.tmp 13) (.tmp 14), none⟩,
  ⟨some 16, .load 28 (.tmp 15), none⟩,
  ⟨some 17, .call { callee := .value (.tmp 11), args := #[.tmp 12, .tmp 16], argTypes := #[3, 28] }, none⟩,
  ⟨some 18, .unOp .not 4 (.tmp 17), none⟩]
def f122_r3 : List LOp := [
  ⟨some 9, .move (.tmp 3), none⟩,
  ⟨some 10, .binOp .sub 3 (.tmp 9) (.const (.int .i64 1)) 3, none⟩,
  ⟨some 3, .assign (.tmp 10), none⟩]
def f122_l4 : LC := (.seq (.seq (.reg f122_r1 [] none) (.cond (.tmp 8) .skip (.exit 0))) (.seq (.block 1 (.seq (.reg f122_r2 [] none) (.cond (.tmp 18) .ret .skip))) (.reg f122_r3 [] none)))
def f122_i4 (t0 t1 t3 : D) : List D := [t0, t1, .any, t3, .any, .any, .any, .any, .any, .any, .any, .any, .any, .any, .any, .any, .any, .any, .any]
def f122_c : LC := (.seq (.reg f122_r0 [] none) (.block 0 (.loop f122_l4)))
theorem f122_lc : Try.f122.body.map lc = some f122_c.st := by kernel_rfl
theorem f122_res : Try.f122.results.toList = [] := by kernel_rfl
theorem f122_nt : Try.f122.ntmps = 19 := by kernel_rfl
theorem f122_nm : (Try.f122.name == "runtime.NumGoroutine") = false := by kernel_rfl

/-! quill/quillref01.Digit -/
def f123_r0 : List LOp := [
  ⟨some 2, .assign (.const (.string { data := #[] })), none⟩]
def f123_r1 : List LOp := [
  ⟨some 3, .move (.tmp 0), none⟩,
  ⟨some 4, .move (.tmp 0), none⟩,
  ⟨some 5, .binOp .add 3 (.tmp 4) (.const (.int .i64 1)) 3, none⟩,
  ⟨some 6, .slice 9 (.const (.string { data := #[48, 49, 50, 51, 52, 53, 54, 55, 56, 57, 97, 98, 99, 100, 101, 102] })) (some (.tmp 3)) (some (.tmp 5)) none, none⟩,
  ⟨some 2, .assign (.tmp 6), none⟩]
def f123_c : LC := (.seq (.reg f123_r0 [] none) (.seq (.reg f123_r1 [] none) .ret))
theorem f123_lc : Try.f123.body.map lc = some f123_c.st := by kernel_rfl
theorem f123_res : Try.f123.results.toList = [.tmp 2] := by kernel_rfl
theorem f123_nt : Try.f123.ntmps = 7 := by kernel_rfl
theorem f123_nm : (Try.f123.name == "runtime.NumGoroutine") = false := by kernel_rfl

/-! (*quill/read.reader).digit -/
def f124_r0 : List LOp := [
  ⟨some 2, .move (.tmp 0), none⟩,
  ⟨some 3, .call { callee := .value (.func 84), args := #[.tmp 2, .const (.string { data := #[48, 49, 50, 51, 52, 53, 54, 55, 56, 57, 97, 98, 99, 100, 101, 102] })], argTypes := #[67, 9] }, none⟩,
  ⟨some 4, .unOp .not 4 (.tmp 3), none⟩]
def f124_r1 : List LOp := [
  ⟨some 5, .move (.tmp 0), none⟩,
  ⟨some 6, .nilCheck (.tmp 5), none⟩,
  ⟨some 7, .fieldAddr 69 (.tmp 6) 1, none⟩,
  ⟨some 8, .load 3 (.tmp 7), none⟩,
  ⟨some 9, .build 88 #[(0, .tmp 8)], none⟩,
  ⟨some 10, .makeInterface 88 (.tmp 9), none⟩,
  ⟨none, .panic (.tmp 10), none⟩]
def f124_r2 : List LOp := [
  ⟨some 11, .move (.tmp 0), none⟩,
  ⟨some 12, .nilCheck (.tmp 11), none⟩,
  ⟨some 13, .fieldAddr 69 (.tmp 12) 1, none⟩,
  ⟨some 14, .load 3 (.tmp 13), none⟩,
  ⟨some 15, .binOp .add 3 (.tmp 14) (.const (.int .i64 1)) 3, none⟩,
  ⟨some 16, .nilCheck (.tmp 11), none⟩,
  ⟨some 17, .fieldAddr 69 (.tmp 16) 1, none⟩,
  ⟨none, .store 3 (.tmp 17) (.tmp 15), none⟩]
def f124_c : LC := (.seq (.seq (.reg f124_r0 [] none) (.cond (.tmp 4) (.reg f124_r1 [] none) .skip)) (.reg f124_r2 [] none))
theorem f124_lc : Try.f124.body.map lc = some f124_c.st := by kernel_rfl
theorem f124_res : Try.f124.results.toList = [] := by kernel_rfl
theorem f124_nt : Try.f124.ntmps = 18 := by kernel_rfl
theorem f124_nm : (Try.f124.name == "runtime.NumGoroutine") = false := by kernel_rfl

/-! quill/num.ReadHex -/
def f125_r0 : List LOp := [
  ⟨some 2, .assign (.const (.slice none 0 0)), none⟩,
  ⟨some 3, .assign (.const (.int .i64 0)), none⟩]
def f125_r1 : List LOp := [
  ⟨some 4, .assign (.const (.slice none 0 0)), none⟩]
def f125_r2 : List LOp := [
  ⟨some 5, .assign (.const (.int .i64 0)), none⟩]
def f125_r3 : List LOp := [
  ⟨some 8, .move (.tmp 5), none⟩,
  ⟨some 9, .binOp .add 3 (.tmp 8) (.const (.int .i64 1)) 3, none⟩,
  ⟨some 10, .move (.tmp 0), none⟩,
  ⟨some 11, .call { callee := .builtin .len, args := #[.tmp 10], argTypes := #[9] }, none⟩,
  ⟨some 12, .binOp .lss 3 (.tmp 9) (.tmp 11) 3, none⟩]
def f125_r4 : List LOp := [
  ⟨some 15, .move (.tmp 0), none⟩,
  ⟨some 16, .move (.tmp 5), none⟩,
  ⟨some 17, .index 9 (.tmp 15) (.tmp 16), none⟩,
  ⟨some 18, .call { callee := .value (.func 96), args := #[.const (.string { data := #[48, 49, 50, 51, 52, 53, 54, 55, 56, 57, 97, 98, 99, 100, 101, 102] }), .tmp 17], argTypes := #[9, 5] }, none⟩,
  ⟨some 6, .assign (.tmp 18), none⟩]
def f125_r5 : List LOp := [
  ⟨some 19, .move (.tmp 0), none⟩,
  ⟨some 20, .move (.tmp 5), none⟩,
  ⟨some 21, .binOp .add 3 (.tmp 20) (.const (.int .i64 1)) 3, none⟩,
  ⟨some 22, .index 9 (.tmp 19) (.tmp 21), none⟩,
  ⟨some 23, .call { callee := .value (.func 96), args := #[.const (.string { data := #[48, 49, 50, 51, 52, 53, 54, 55, 56, 57, 97, 98, 99, 100, 101, 102] }), .tmp 22], argTypes := #[9, 5] }, none⟩,
  ⟨some 7, .assign (.tmp 23), none⟩]
def f125_r6 : List LOp := [
  ⟨some 24, .move (.tmp 6), none⟩,
  ⟨some 25, .binOp .lss 3 (.tmp 24) (.const (.int .i64 0)) 3, none⟩,
  ⟨some 26, .move (.tmp 25), none⟩,
  ⟨some 27, .move (.tmp 7), some (2, false)⟩,
  ⟨some 28, .binOp .lss 3 (.tmp 27) (.const (.int .i64 0)) 3, some (2, false)⟩,
  ⟨some 29, .pick (.tmp 26) (.const (.bool true)) (.tmp 28), none⟩]
def f125_r7 : List LOp := [
  ⟨some 2, .assign (.const (.slice none 0 0)), none⟩,
  ⟨some 3, .assign (.const (.int .i64 2)), none⟩]
def f125_r8 : List LOp := [
  ⟨some 30, .move (.tmp 4), none⟩,
  ⟨some 31, .move (.tmp 6), none⟩,
  ⟨some 32, .binOp .shl 3 (.tmp 31) (.const (.int .u64 4)) 99, none⟩,
  ⟨some 33, .move (.tmp 7), none⟩,
  ⟨some 34, .binOp .or 3 (.tmp 32) (.tmp 33) 3, none⟩,
  ⟨some 35, .convert 3 5 (.tmp 34), none⟩,
  ⟨some 36, .buildSlice 37 1 #[(0, .tmp 35)], none⟩,
  ⟨some 37, .call { callee := .builtin .append, args := #[.tmp 30, .tmp 36], argTypes := #[37, 37] }, none⟩,
  ⟨some 4, .assign (.tmp 37), none⟩]
def f125_r9 : List LOp := [
  ⟨some 13, .move (.tmp 5), none⟩,
  ⟨some 14, .binOp .add 3 (.tmp 13) (.const (.int .i64 2)) 3, none⟩,
  ⟨some 5, .assign (.tmp 14), none⟩]
def f125_l10 : LC := (.seq (.seq (.reg f125_r3 [] none) (.cond (.tmp 12) .skip (.exit 0))) (.seq (.block 1 (.seq (.reg f125_r4 [] none) (.seq (.reg f125_r5 [] none) (.seq (.seq (.reg f125_r6 [] none) (.cond (.tmp 29) (.seq (.reg f125_r7 [] none) .ret) .skip)) (.reg f125_r8 [] none))))) (.reg f125_r9 [] none)))
def f125_i10 (t0 t4 t5 : D) : List D := [t0, .any, .any, .any, t4, t5, .any, .any, .any, .any, .any, .any, .any, .any, .any, .any, .any, .any, .any, .any, .any, .any, .any, .any, .any, .any, .any, .any, .any, .any, .any, .any, .any, .any, .any, .any, .any, .any, .any, .any, .any, .any, .any]
def f125_r11 : List LOp := [
  ⟨some 38, .move (.tmp 0), none⟩,
  ⟨some 39, .call { callee := .builtin .len, args := #[.tmp 38], argTypes := #[9] }, none⟩,
  ⟨some 40, .binOp .rem 3 (.tmp 39) (.const (.int .i64 2)) 3, none⟩,
  ⟨some 41, .binOp .eql 3 (.tmp 40) (.const (.int .i64 1)) 3, none⟩]
def f125_r12 : List LOp := [
  ⟨some 2, .assign (.const (.slice none 0 0)), none⟩,
  ⟨some 3, .assign (.const (.int .i64 2)), none⟩]
def f125_r13 : List LOp := [
  ⟨some 42, .move (.tmp 4), none⟩,
  ⟨some 2, .assign (.tmp 42), none⟩,
  ⟨some 3, .assign (.const (.int .i64 0)), none⟩]
def f125_c : LC := (.seq (.reg f125_r0 [] none) (.seq (.reg f125_r1 [] none) (.seq (.seq (.reg f125_r2 [] none) (.block 0 (.loop f125_l10))) (.seq (.seq (.reg f125_r11 [] none) (.cond (.tmp 41) (.seq (.reg f125_r12 [] none) .ret) .skip)) (.seq (.reg f125_r13 [] none) .ret)))))
theorem f125_lc : Try.f125.body.map lc = some f125_c.st := by kernel_rfl
theorem f125_res : Try.f125.results.toList = [.tmp 2, .tmp 3] := by kernel_rfl
theorem f125_nt : Try.f125.ntmps = 43 := by kernel_rfl
theorem f125_nm : (Try.f125.name == "runtime.NumGoroutine") = false := by kernel_rfl

/-! quill/num.digit -/
def f126_r0 : List LOp := [
  ⟨some 2, .assign (.const (.int .u8 0)), none⟩]
def f126_r1 : List LOp := [
  ⟨some 3, .move (.tmp 0), none⟩,
  ⟨some 4, .binOp .and 5 (.tmp 3) (.const (.int .u8 15)) 5, none⟩,
  ⟨some 5, .index 9 (.const (.string { data := #[48, 49, 50, 51, 52, 53, 54, 55, 56, 57, 97, 98, 99, 100, 101, 102] })) (.tmp 4), none⟩,
  ⟨some 2, .assign (.tmp 5), none⟩]
def f126_c : LC := (.seq (.reg f126_r0 [] none) (.seq (.reg f126_r1 [] none) .ret))
theorem f126_lc : Try.f126.body.map lc = some f126_c.st := by kernel_rfl
theorem f126_res : Try.f126.results.toList = [.tmp 2] := by kernel_rfl
theorem f126_nt : Try.f126.ntmps = 6 := by kernel_rfl
theorem f126_nm : (Try.f126.name == "runtime.NumGoroutine") = false := by kernel_rfl

attribute [go_sem] f3_r0 f3_r1 f3_r2 f3_r3 f3_r4 f3_r5 f3_c f4_r0 f4_r1 f4_r2 f4_r3 f4_r4 f4_r5 f4_r6 f4_r7 f4_r8 f4_l9 f4_i9 f4_r10 f4_r11 f4_r12 f4_r13 f4_r14 f4_r15 f4_r16 f4_c f5_r0 f5_r1 f5_r2 f5_r3 f5_r4 f5_r5 f5_r6 f5_r7 f5_r8 f5_r9 f5_c f6_r0 f6_r1 f6_r2 f6_r3 f6_r4 f6_r5 f6_r6 f6_r7 f6_r8 f6_r9 f6_r10 f6_r11 f6_r12 f6_r13 f6_l14 f6_i14 f6_r15 f6_r16 f6_r17 f6_r18 f6_r19 f6_r20 f6_r21 f6_r22 f6_r23 f6_r24 f6_r25 f6_r26 f6_l27 f6_i27 f6_r28 f6_c f14_r0 f14_r1 f14_r2 f14_c f15_r0 f15_r1 f15_r2 f15_r3 f15_r4 f15_r5 f15_r6 f15_c f16_r0 f16_r1 f16_r2 f16_r3 f16_r4 f16_r5 f16_r6 f16_r7 f16_r8 f16_r9 f16_r10 f16_r11 f16_c f17_r0 f17_r1 f17_r2 f17_r3 f17_r4 f17_r5 f17_r6 f17_r7 f17_r8 f17_l9 f17_i9 f17_r10 f17_c f18_r0 f18_r1 f18_c f19_r0 f19_r1 f19_c f20_r0 f20_r1 f20_r2 f20_r3 f20_r4 f20_r5 f20_r6 f20_r7 f20_r8 f20_r9 f20_l10 f20_i10 f20_r11 f20_c f30_r0 f30_r1 f30_r2 f30_r3 f30_r4 f30_r5 f30_r6 f30_r7 f30_r8 f30_r9 f30_r10 f30_l11 f30_i11 f30_r12 f30_c f31_r0 f31_r1 f31_c f33_r0 f33_r1 f33_r2 f33_r3 f33_r4 f33_r5 f33_r6 f33_r7 f33_r8 f33_r9 f33_l10 f33_i10 f33_r11 f33_l12 f33_i12 f33_r13 f33_c f45_r0 f45_r1 f45_r2 f45_r3 f45_r4 f45_r5 f45_c f46_r0 f46_r1 f46_c f47_r0 f47_r1 f47_r2 f47_r3 f47_r4 f47_r5 f47_r6 f47_r7 f47_r8 f47_r9 f47_l10 f47_i10 f47_c f48_r0 f48_r1 f48_c f49_r0 f49_r1 f49_r2 f49_c f53_r0 f53_r1 f53_r2 f53_r3 f53_r4 f53_r5 f53_r6 f53_l7 f53_i7 f53_r8 f53_c f56_r0 f56_r1 f56_c f61_r0 f61_r1 f61_r2 f61_r3 f61_r4 f61_r5 f61_r6 f61_l7 f61_i7 f61_r8 f61_c f66_r0 f66_r1 f66_r2 f66_r3 f66_r4 f66_r5 f66_r6 f66_l7 f66_i7 f66_r8 f66_c f69_r0 f69_r1 f69_r2 f69_r3 f69_r4 f69_r5 f69_r6 f69_r7 f69_c f70_r0 f70_r1 f70_r2 f70_r3 f70_r4 f70_l5 f70_i5 f70_r6 f70_c f71_r0 f71_r1 f71_c f72_r0 f72_r1 f72_c f73_r0 f73_r1 f73_r2 f73_r3 f73_r4 f73_r5 f73_r6 f73_l7 f73_i7 f73_r8 f73_c f74_r0 f74_r1 f74_r2 f74_r3 f74_r4 f74_r5 f74_r6 f74_r7 f74_r8 f74_r9 f74_l10 f74_i10 f74_r11 f74_l12 f74_i12 f74_r13 f74_c f75_r0 f75_r1 f75_c f76_r0 f76_r1 f76_r2 f76_r3 f76_r4 f76_r5 f76_r6 f76_r7 f76_c f77_r0 f77_r1 f77_r2 f77_r3 f77_r4 f77_r5 f77_r6 f77_l7 f77_i7 f77_r8 f77_c f83_r0 f83_r1 f83_r2 f83_r3 f83_l4 f83_i4 f83_r5 f83_c f84_r0 f84_r1 f84_c f85_r0 f85_r1 f85_c f86_r0 f86_r1 f86_r2 f86_r3 f86_r4 f86_r5 f86_r6 f86_r7 f86_r8 f86_r9 f86_r10 f86_r11 f86_r12 f86_r13 f86_c f87_r0 f87_r1 f87_c f88_r0 f88_r1 f88_c f89_r0 f89_r1 f89_r2 f89_r3 f89_r4 f89_r5 f89_r6 f89_r7 f89_r8 f89_r9 f89_r10 f89_r11 f89_r12 f89_r13 f89_r14 f89_r15 f89_r16 f89_r17 f89_c f90_r0 f90_r1 f90_c f91_r0 f91_r1 f91_r2 f91_r3 f91_r4 f91_r5 f91_l6 f91_i6 f91_r7 f91_c f93_r0 f93_r1 f93_r2 f93_r3 f93_r4 f93_l5 f93_i5 f93_r6 f93_c f94_r0 f94_r1 f94_c f95_r0 f95_r1 f95_c f96_r0 f96_r1 f96_c f97_r0 f97_r1 f97_r2 f97_r3 f97_r4 f97_r5 f97_r6 f97_a7 f97_b7 f97_r8 f97_c f98_r0 f98_r1 f98_r2 f98_r3 f98_c f99_r0 f99_r1 f99_r2 f99_r3 f99_c f100_r0 f100_r1 f100_r2 f100_r3 f100_r4 f100_r5 f100_l6 f100_i6 f100_r7 f100_c f101_r0 f101_r1 f101_r2 f101_r3 f101_r4 f101_r5 f101_r6 f101_r7 f101_r8 f101_r9 f101_r10 f101_r11 f101_r12 f101_r13 f101_r14 f101_r15 f101_r16 f101_l17 f101_i17 f101_r18 f101_c f102_r0 f102_r1 f102_c f103_r0 f103_r1 f103_r2 f103_r3 f103_r4 f103_r5 f103_r6 f103_r7 f103_r8 f103_r9 f103_r10 f103_r11 f103_l12 f103_i12 f103_r13 f103_c f104_r0 f104_r1 f104_r2 f104_r3 f104_r4 f104_r5 f104_r6 f104_l7 f104_i7 f104_r8 f104_c f105_r0 f105_r1 f105_r2 f105_r3 f105_r4 f105_r5 f105_r6 f105_r7 f105_r8 f105_r9 f105_r10 f105_r11 f105_r12 f105_r13 f105_r14 f105_r15 f105_c f106_r0 f106_r1 f106_c f107_r0 f107_r1 f107_r2 f107_r3 f107_c f108_r0 f108_r1 f108_c f109_r0 f109_r1 f109_c f110_r0 f110_r1 f110_r2 f110_r3 f110_r4 f110_r5 f110_r6 f110_l7 f110_i7 f110_r8 f110_c f111_r0 f111_r1 f111_r2 f111_r3 f111_r4 f111_r5 f111_r6 f111_l7 f111_i7 f111_r8 f111_c f112_r0 f112_r1 f112_r2 f112_r3 f112_r4 f112_r5 f112_r6 f112_r7 f112_l8 f112_i8 f112_r9 f112_r10 f112_c f113_r0 f113_r1 f113_r2 f113_r3 f113_r4 f113_r5 f113_r6 f113_l7 f113_i7 f113_r8 f113_c f114_r0 f114_r1 f114_r2 f114_r3 f114_r4 f114_r5 f114_c f115_r0 f115_r1 f115_r2 f115_r3 f115_c f116_r0 f116_r1 f116_r2 f116_r3 f116_r4 f116_r5 f116_l6 f116_i6 f116_r7 f116_c f117_r0 f117_r1 f117_r2 f117_r3 f117_r4 f117_r5 f117_r6 f117_r7 f117_r8 f117_r9 f117_r10 f117_r11 f117_l12 f117_i12 f117_r13 f117_r14 f117_c f118_r0 f118_r1 f118_r2 f118_c f119_r0 f119_r1 f119_r2 f119_r3 f119_r4 f119_r5 f119_r6 f119_r7 f119_r8 f119_r9 f119_r10 f119_r11 f119_c f120_r0 f120_r1 f120_r2 f120_r3 f120_r4 f120_r5 f120_r6 f120_l7 f120_i7 f120_r8 f120_c f122_r0 f122_r1 f122_r2 f122_r3 f122_l4 f122_i4 f122_c f123_r0 f123_r1 f123_c f124_r0 f124_r1 f124_r2 f124_c f125_r0 f125_r1 f125_r2 f125_r3 f125_r4 f125_r5 f125_r6 f125_r7 f125_r8 f125_r9 f125_l10 f125_i10 f125_r11 f125_r12 f125_r13 f125_c f126_r0 f126_r1 f126_c T3 T4 T5 T9 T20 T23 T25 T26 T28 T29 T36 T37 T41 T46 T50 T67 T69 T72 T76 T77 T83 T88 ti3 ti4 ti5 ti9 ti20 ti23 ti25 ti26 ti28 ti29 ti36 ti37 ti41 ti46 ti50 ti67 ti69 ti72 ti76 ti77 ti83 ti88

end Go.Proofs.Yteifkcgokjmcjaa.W
