/- Part of a program logic over data: rules of the walk, each proved. -/
import Derived.Test.YtfpfcokhnddddaaGreatChecked
import Derived.Test.YtfpfcokhnddddaaGreatAwpT
import Derived.KernelRfl
set_option linter.unusedVariables false
set_option linter.unusedSimpArgs false
set_option linter.unusedSectionVars false
set_option maxRecDepth 100000
namespace Go.Proofs.YtfpfcokhnddddaaGreat.W
open Go Go.Proofs Go.Proofs.YtfpfcokhnddddaaGreat.AWP

/-! ### types -/
def ti3 : TI := ⟨.int .i64, 1, 8, [.int .i64 0]⟩
def ti4 : TI := ⟨.bool, 1, 1, [.bool false]⟩
def ti5 : TI := ⟨.int .u8, 1, 1, [.int .u8 0]⟩
def ti9 : TI := ⟨.str, 1, 16, [.string .empty]⟩
def ti20 : TI := ⟨.other, 1, 16, [.nilIface]⟩
def ti22 : TI := ⟨.slice 27, 1, 24, [.slice none 0 0]⟩
def ti23 : TI := ⟨.int .u64, 1, 8, [.int .u64 0]⟩
def ti25 : TI := ⟨.arr 4 23, 4, 32, [.int .u64 0, .int .u64 0, .int .u64 0, .int .u64 0]⟩
def ti27 : TI := ⟨.struct [(0, 5), (1, 25), (5, 22)], 6, 64, [.int .u8 0, .int .u64 0, .int .u64 0, .int .u64 0, .int .u64 0, .slice none 0 0]⟩
def ti31 : TI := ⟨.other, 1, 8, [.nilFunc]⟩
def ti33 : TI := ⟨.other, 1, 8, [.nilFunc]⟩
def ti38 : TI := ⟨.int .i64, 1, 8, [.int .i64 0]⟩
def ti44 : TI := ⟨.slice 3, 1, 24, [.slice none 0 0]⟩
def ti53 : TI := ⟨.other, 1, 8, [.pointer none]⟩
def ti55 : TI := ⟨.struct [(0, 9), (1, 3)], 2, 24, [.string .empty, .int .i64 0]⟩
def ti69 : TI := ⟨.struct [(0, 3)], 1, 8, [.int .i64 0]⟩
def ti72 : TI := ⟨.slice 5, 1, 24, [.slice none 0 0]⟩
def ti77 : TI := ⟨.other, 1, 8, [.nilFunc]⟩
def ti78 : TI := ⟨.slice 25, 1, 24, [.slice none 0 0]⟩
def ti81 : TI := ⟨.other, 1, 8, [.nilFunc]⟩
def ti93 : TI := ⟨.slice 23, 1, 24, [.slice none 0 0]⟩
def ti94 : TI := ⟨.other, 1, 8, [.nilFunc]⟩
def ti105 : TI := ⟨.int .u64, 1, 8, [.int .u64 0]⟩
def tab : List (Nat × TI) := [(3, ti3), (4, ti4), (5, ti5), (9, ti9), (20, ti20), (22, ti22), (23, ti23), (25, ti25), (27, ti27), (31, ti31), (33, ti33), (38, ti38), (44, ti44), (53, ti53), (55, ti55), (69, ti69), (72, ti72), (77, ti77), (78, ti78), (81, ti81), (93, ti93), (94, ti94), (105, ti105)]
def T : Tab := fun t => (tab.find? fun p => p.1 == t).map (·.2)
theorem T3 : T 3 = some ti3 := rfl
theorem T4 : T 4 = some ti4 := rfl
theorem T5 : T 5 = some ti5 := rfl
theorem T9 : T 9 = some ti9 := rfl
theorem T20 : T 20 = some ti20 := rfl
theorem T22 : T 22 = some ti22 := rfl
theorem T23 : T 23 = some ti23 := rfl
theorem T25 : T 25 = some ti25 := rfl
theorem T27 : T 27 = some ti27 := rfl
theorem T31 : T 31 = some ti31 := rfl
theorem T33 : T 33 = some ti33 := rfl
theorem T38 : T 38 = some ti38 := rfl
theorem T44 : T 44 = some ti44 := rfl
theorem T53 : T 53 = some ti53 := rfl
theorem T55 : T 55 = some ti55 := rfl
theorem T69 : T 69 = some ti69 := rfl
theorem T72 : T 72 = some ti72 := rfl
theorem T77 : T 77 = some ti77 := rfl
theorem T78 : T 78 = some ti78 := rfl
theorem T81 : T 81 = some ti81 := rfl
theorem T93 : T 93 = some ti93 := rfl
theorem T94 : T 94 = some ti94 := rfl
theorem T105 : T 105 = some ti105 := rfl
theorem tab_ok : tabB Tryz.prog tab = true := by kernel_rfl
theorem hT : TabOk Tryz.prog T := by
  intro t i h
  unfold T at h
  simp only [Option.map_eq_some_iff] at h
  obtain ⟨p, hp, rfl⟩ := h
  have h1 := List.find?_some hp
  have h2 := List.mem_of_find?_eq_some hp
  simp only [beq_iff_eq] at h1
  obtain ⟨t', i'⟩ := p
  subst h1
  exact tabB_ok tab_ok t' i' h2
theorem hm : Tryz.prog.follows .mixedOrders = true := by kernel_rfl

/-! gosem.cut.init -/
def f2_r0 : List LOp := [
  ⟨some 0, .call { callee := .value (.func 1), args := #[], argTypes := #[] }, none⟩]
def f2_c : LC := (.reg f2_r0 [] none)
theorem f2_lc : Tryz.f2.body.map lc = some f2_c.st := by kernel_rfl
theorem f2_res : Tryz.f2.results.toList = [] := by kernel_rfl
theorem f2_nt : Tryz.f2.ntmps = 1 := by kernel_rfl
theorem f2_nm : (Tryz.f2.name == "runtime.NumGoroutine") = false := by kernel_rfl

/-! quill/quilllaw08.NormMakes -/
def f3_r0 : List LOp := [
  ⟨some 3, .box 27 (.tmp 1), none⟩,
  ⟨some 4, .assign (.const (.bool false)), none⟩]
def f3_r1 : List LOp := [
  ⟨some 6, .move (.tmp 0), none⟩,
  ⟨some 7, .call { callee := .value (.func 4), args := #[.tmp 6, .const (.int .i64 60)], argTypes := #[22, 3] }, none⟩,
  ⟨some 8, .move (.tmp 7), none⟩,
  ⟨some 9, .load 27 (.tmp 3), some (2, false)⟩,
  ⟨some 10, .call { callee := .value (.func 5), args := #[.tmp 9, .const (.int .i64 60)], argTypes := #[27, 3] }, some (2, false)⟩,
  ⟨some 11, .pick (.tmp 8) (.const (.bool true)) (.tmp 10), none⟩]
def f3_r2 : List LOp := [
  ⟨some 12, .call { callee := .value (.func 6), args := #[], argTypes := #[] }, none⟩,
  ⟨some 4, .assign (.tmp 12), none⟩]
def f3_r3 : List LOp := [
  ⟨some 13, .build 27 #[], none⟩,
  ⟨some 5, .alloc 27, none⟩,
  ⟨none, .store 27 (.tmp 5) (.tmp 13), none⟩]
def f3_r4 : List LOp := [
  ⟨some 14, .load 27 (.tmp 3), none⟩,
  ⟨some 15, .call { callee := .value (.func 7), args := #[.tmp 14], argTypes := #[27] }, none⟩]
def f3_r5 : List LOp := [
  ⟨some 16, .load 27 (.tmp 3), none⟩,
  ⟨some 17, .call { callee := .value (.func 9), args := #[.tmp 16], argTypes := #[27] }, none⟩,
  ⟨some 18, .call { callee := .value (.func 8), args := #[.tmp 17], argTypes := #[27] }, none⟩,
  ⟨none, .store 27 (.tmp 5) (.tmp 18), none⟩]
def f3_r6 : List LOp := [
  ⟨some 19, .move (.tmp 0), none⟩,
  ⟨some 20, .call { callee := .value (.func 11), args := #[.tmp 19], argTypes := #[22] }, none⟩,
  ⟨some 21, .move (.tmp 0), none⟩,
  ⟨some 22, .call { callee := .value (.func 12), args := #[.const (.int .u8 4), .tmp 21], argTypes := #[5, 22] }, none⟩,
  ⟨some 23, .call { callee := .value (.func 10), args := #[.tmp 20, .tmp 22], argTypes := #[27, 27] }, none⟩,
  ⟨some 24, .move (.tmp 23), none⟩,
  ⟨some 25, .move (.tmp 0), some (5, true)⟩,
  ⟨some 26, .call { callee := .value (.func 13), args := #[.tmp 25], argTypes := #[22] }, some (5, true)⟩,
  ⟨some 27, .move (.tmp 0), some (5, true)⟩,
  ⟨some 28, .call { callee := .value (.func 12), args := #[.const (.int .u8 5), .tmp 27], argTypes := #[5, 22] }, some (5, true)⟩,
  ⟨some 29, .call { callee := .value (.func 10), args := #[.tmp 26, .tmp 28], argTypes := #[27, 27] }, some (5, true)⟩,
  ⟨some 30, .pick (.tmp 24) (.tmp 29) (.const (.bool false)), none⟩,
  ⟨some 31, .move (.tmp 30), none⟩,
  ⟨some 32, .load 27 (.tmp 3), some (12, true)⟩,
  ⟨some 33, .call { callee := .value (.func 14), args := #[.tmp 32], argTypes := #[27] }, some (12, true)⟩,
  ⟨some 34, .load 27 (.tmp 5), some (12, true)⟩,
  ⟨some 35, .call { callee := .value (.func 10), args := #[.tmp 33, .tmp 34], argTypes := #[27, 27] }, some (12, true)⟩,
  ⟨some 36, .pick (.tmp 31) (.tmp 35) (.const (.bool false)), none⟩,
  ⟨some 37, .move (.tmp 36), none⟩,
  ⟨some 38, .call { callee := .value (.func 6), args := #[], argTypes := #[] }, some (18, true)⟩,
  ⟨some 39, .pick (.tmp 37) (.tmp 38) (.const (.bool false)), none⟩,
  ⟨some 4, .assign (.tmp 39), none⟩]
def f3_c : LC := (.seq (.reg f3_r0 [] none) (.seq (.seq (.reg f3_r1 [] none) (.cond (.tmp 11) (.seq (.reg f3_r2 [] none) .ret) .skip)) (.seq (.reg f3_r3 [] none) (.seq (.seq (.reg f3_r4 [] none) (.cond (.tmp 15) (.reg f3_r5 [] none) .skip)) (.seq (.reg f3_r6 [] (some 21)) .ret)))))
theorem f3_lc : Tryz.f3.body.map lc = some f3_c.st := by kernel_rfl
theorem f3_res : Tryz.f3.results.toList = [.tmp 4] := by kernel_rfl
theorem f3_nt : Tryz.f3.ntmps = 40 := by kernel_rfl
theorem f3_nm : (Tryz.f3.name == "runtime.NumGoroutine") = false := by kernel_rfl

/-! quill/quillref03.GreatAll -/
def f4_r0 : List LOp := [
  ⟨some 4, .assign (.const (.bool false)), none⟩]
def f4_r1 : List LOp := [
  ⟨some 6, .move (.tmp 0), none⟩,
  ⟨some 7, .call { callee := .builtin .len, args := #[.tmp 6], argTypes := #[22] }, none⟩,
  ⟨some 8, .binOp .gtr 3 (.tmp 7) (.const (.int .i64 20)) 3, none⟩]
def f4_r2 : List LOp := [
  ⟨some 4, .assign (.const (.bool true)), none⟩]
def f4_r3 : List LOp := [
  ⟨some 9, .move (.tmp 0), none⟩,
  ⟨some 10, .call { callee := .builtin .len, args := #[.tmp 9], argTypes := #[22] }, none⟩,
  ⟨some 11, .move (.const (.int .i64 0)), none⟩]
def f4_r4 : List LOp := [
  ⟨some 12, .binOp .lss 3 (.tmp 11) (.tmp 10) 3, none⟩]
def f4_r5 : List LOp := [
  ⟨some 13, .move (.tmp 11), none⟩,
  ⟨some 5, .assign (.tmp 13), none⟩]
def f4_r6 : List LOp := [
  ⟨some 14, .move (.tmp 0), none⟩,
  ⟨some 15, .move (.tmp 5), none⟩,
  ⟨some 16, .indexAddr 22 (.tmp 14) (.tmp 15), none⟩,
  ⟨some 17, .load 27 (.tmp 16), none⟩,
  ⟨some 18, .move (.tmp 1), none⟩,
  ⟨some 19, .call { callee := .value (.func 5), args := #[.tmp 17, .tmp 18], argTypes := #[27, 3] }, none⟩]
def f4_r7 : List LOp := [
  ⟨some 4, .assign (.const (.bool true)), none⟩]
def f4_r8 : List LOp := [
  ⟨some 20, .binOp .add 3 (.tmp 11) (.const (.int .i64 1)) 3, none⟩,
  ⟨some 11, .move (.tmp 20), none⟩]
def f4_l9 : LC := (.seq (.reg f4_r4 [] none) (.seq (.cond (.tmp 12) .skip (.exit 0)) (.seq (.block 1 (.seq (.reg f4_r5 [] none) (.seq (.reg f4_r6 [] none) (.cond (.tmp 19) (.seq (.reg f4_r7 [] none) .ret) .skip)))) (.reg f4_r8 [] none))))
def f4_i9 (t0 t1 t10 t11 : D) : List D := [t0, t1, .any, .any, .any, .any, .any, .any, .any, .any, t10, t11, .any, .any, .any, .any, .any, .any, .any, .any, .any]
def f4_r10 : List LOp := [
  ⟨some 4, .assign (.const (.bool false)), none⟩]
def f4_c : LC := (.seq (.reg f4_r0 [] none) (.seq (.seq (.reg f4_r1 [] none) (.cond (.tmp 8) (.seq (.reg f4_r2 [] none) .ret) .skip)) (.seq (.seq (.reg f4_r3 [] none) (.block 0 (.loop f4_l9))) (.seq (.reg f4_r10 [] none) .ret))))
theorem f4_lc : Tryz.f4.body.map lc = some f4_c.st := by kernel_rfl
theorem f4_res : Tryz.f4.results.toList = [.tmp 4] := by kernel_rfl
theorem f4_nt : Tryz.f4.ntmps = 21 := by kernel_rfl
theorem f4_nm : (Tryz.f4.name == "runtime.NumGoroutine") = false := by kernel_rfl

/-! quill/quillref03.Great -/
def f5_r0 : List LOp := [
  ⟨some 2, .box 27 (.tmp 0), none⟩,
  ⟨some 4, .assign (.const (.bool false)), none⟩]
def f5_r1 : List LOp := [
  ⟨some 5, .load 27 (.tmp 2), none⟩,
  ⟨some 6, .move (.tmp 1), none⟩,
  ⟨some 7, .call { callee := .value (.func 15), args := #[.tmp 5, .tmp 6], argTypes := #[27, 3] }, none⟩,
  ⟨some 8, .move (.tmp 1), none⟩,
  ⟨some 9, .binOp .gtr 3 (.tmp 7) (.tmp 8) 3, none⟩,
  ⟨some 4, .assign (.tmp 9), none⟩]
def f5_c : LC := (.seq (.reg f5_r0 [] none) (.seq (.reg f5_r1 [] none) .ret))
theorem f5_lc : Tryz.f5.body.map lc = some f5_c.st := by kernel_rfl
theorem f5_res : Tryz.f5.results.toList = [.tmp 4] := by kernel_rfl
theorem f5_nt : Tryz.f5.ntmps = 10 := by kernel_rfl
theorem f5_nm : (Tryz.f5.name == "runtime.NumGoroutine") = false := by kernel_rfl

/-! quill/quilllaw08.awake -/
def f6_r0 : List LOp := [
  ⟨some 0, .assign (.const (.bool false)), none⟩]
def f6_r1 : List LOp := [
  ⟨some 5, .call { callee := .value (.func 16), args := #[.const (.string { data := #[40, 41, 97, 124, 91, 93, 98, 124, 97] })], argTypes := #[9] }, none⟩,
  ⟨some 4, .move (.tmp 5), none⟩,
  ⟨some 6, .extract (.tmp 4) 0, none⟩,
  ⟨some 7, .extract (.tmp 4) 1, none⟩,
  ⟨some 8, .extract (.tmp 4) 2, none⟩,
  ⟨some 1, .alloc 27, none⟩,
  ⟨none, .store 27 (.tmp 1) (.tmp 6), none⟩,
  ⟨some 2, .assign (.tmp 7), none⟩,
  ⟨some 3, .assign (.tmp 8), none⟩]
def f6_r2 : List LOp := [
  ⟨some 9, .move (.tmp 3), none⟩,
  ⟨some 10, .binOp .eql 38 (.tmp 9) (.const (.int .i64 0)) 38, none⟩,
  ⟨some 11, .move (.tmp 10), none⟩,
  ⟨some 12, .load 27 (.tmp 1), some (2, true)⟩,
  ⟨some 13, .call { callee := .value (.func 17), args := #[.tmp 12], argTypes := #[27] }, some (2, true)⟩,
  ⟨some 14, .call { callee := .value (.func 18), args := #[.const (.string { data := #[97] })], argTypes := #[9] }, some (2, true)⟩,
  ⟨some 15, .call { callee := .value (.func 10), args := #[.tmp 13, .tmp 14], argTypes := #[27, 27] }, some (2, true)⟩,
  ⟨some 16, .pick (.tmp 11) (.tmp 15) (.const (.bool false)), none⟩,
  ⟨some 17, .move (.tmp 16), none⟩,
  ⟨some 18, .load 27 (.tmp 1), some (8, true)⟩,
  ⟨some 19, .buildSlice 22 1 #[(0, .tmp 18)], some (8, true)⟩,
  ⟨some 20, .call { callee := .value (.func 19), args := #[.tmp 19], argTypes := #[22] }, some (8, true)⟩,
  ⟨some 21, .unOp .not 4 (.tmp 20), some (8, true)⟩,
  ⟨some 22, .pick (.tmp 17) (.tmp 21) (.const (.bool false)), none⟩,
  ⟨some 0, .assign (.tmp 22), none⟩]
def f6_c : LC := (.seq (.reg f6_r0 [] none) (.seq (.reg f6_r1 [] none) (.seq (.reg f6_r2 [] none) .ret)))
theorem f6_lc : Tryz.f6.body.map lc = some f6_c.st := by kernel_rfl
theorem f6_res : Tryz.f6.results.toList = [.tmp 0] := by kernel_rfl
theorem f6_nt : Tryz.f6.ntmps = 23 := by kernel_rfl
theorem f6_nm : (Tryz.f6.name == "runtime.NumGoroutine") = false := by kernel_rfl

/-! quill/quillref03.May -/
def f7_r0 : List LOp := [
  ⟨some 1, .box 27 (.tmp 0), none⟩,
  ⟨some 2, .assign (.const (.bool false)), none⟩]
def f7_r1 : List LOp := [
  ⟨some 6, .load 27 (.tmp 1), none⟩,
  ⟨some 7, .call { callee := .value (.func 20), args := #[.tmp 6], argTypes := #[27] }, none⟩,
  ⟨some 3, .assign (.tmp 7), none⟩]
def f7_r2 : List LOp := [
  ⟨some 8, .move (.tmp 3), none⟩,
  ⟨some 9, .call { callee := .builtin .len, args := #[.tmp 8], argTypes := #[22] }, none⟩,
  ⟨some 10, .move (.const (.int .i64 0)), none⟩]
def f7_r3 : List LOp := [
  ⟨some 11, .binOp .lss 3 (.tmp 10) (.tmp 9) 3, none⟩]
def f7_r4 : List LOp := [
  ⟨some 12, .move (.tmp 10), none⟩,
  ⟨some 4, .assign (.tmp 12), none⟩]
def f7_r5 : List LOp := [
  ⟨some 13, .move (.tmp 3), none⟩,
  ⟨some 14, .move (.tmp 4), none⟩,
  ⟨some 15, .indexAddr 22 (.tmp 13) (.tmp 14), none⟩,
  ⟨some 16, .fieldAddr 27 (.tmp 15) 1, none⟩,
  ⟨some 17, .load 25 (.tmp 16), none⟩,
  ⟨some 18, .build 25 #[], none⟩,
  ⟨some 19, .binOp .eql 25 (.tmp 17) (.tmp 18) 25, none⟩,
  ⟨some 5, .assign (.tmp 19), none⟩]
def f7_r6 : List LOp := [
  ⟨some 20, .move (.tmp 3), none⟩,
  ⟨some 21, .move (.tmp 4), none⟩,
  ⟨some 22, .indexAddr 22 (.tmp 20) (.tmp 21), none⟩,
  ⟨some 23, .fieldAddr 27 (.tmp 22) 0, none⟩,
  ⟨some 24, .load 5 (.tmp 23), none⟩,
  ⟨some 25, .binOp .lss 5 (.tmp 24) (.const (.int .u8 1)) 5, none⟩,
  ⟨some 26, .move (.tmp 25), none⟩,
  ⟨some 27, .move (.tmp 3), some (6, false)⟩,
  ⟨some 28, .move (.tmp 4), some (6, false)⟩,
  ⟨some 29, .indexAddr 22 (.tmp 27) (.tmp 28), some (6, false)⟩,
  ⟨some 30, .fieldAddr 27 (.tmp 29) 0, some (6, false)⟩,
  ⟨some 31, .load 5 (.tmp 30), some (6, false)⟩,
  ⟨some 32, .binOp .gtr 5 (.tmp 31) (.const (.int .u8 6)) 5, some (6, false)⟩,
  ⟨some 33, .pick (.tmp 26) (.const (.bool true)) (.tmp 32), none⟩,
  ⟨some 34, .move (.tmp 33), none⟩,
  ⟨some 35, .move (.tmp 3), some (14, false)⟩,
  ⟨some 36, .move (.tmp 4), some (14, false)⟩,
  ⟨some 37, .indexAddr 22 (.tmp 35) (.tmp 36), some (14, false)⟩,
  ⟨some 38, .fieldAddr 27 (.tmp 37) 0, some (14, false)⟩,
  ⟨some 39, .load 5 (.tmp 38), some (14, false)⟩,
  ⟨some 40, .binOp .eql 5 (.tmp 39) (.const (.int .u8 3)) 5, some (14, false)⟩,
  ⟨some 41, .move (.tmp 5), some (14, false)⟩,
  ⟨some 42, .binOp .eql 4 (.tmp 40) (.tmp 41) 4, some (14, false)⟩,
  ⟨some 43, .pick (.tmp 34) (.const (.bool true)) (.tmp 42), none⟩]
def f7_r7 : List LOp := [
  ⟨some 2, .assign (.const (.bool false)), none⟩]
def f7_r8 : List LOp := [
  ⟨some 44, .move (.tmp 3), none⟩,
  ⟨some 45, .move (.tmp 4), none⟩,
  ⟨some 46, .indexAddr 22 (.tmp 44) (.tmp 45), none⟩,
  ⟨some 47, .fieldAddr 27 (.tmp 46) 2, none⟩,
  ⟨some 48, .load 22 (.tmp 47), none⟩,
  ⟨some 49, .call { callee := .builtin .len, args := #[.tmp 48], argTypes := #[22] }, none⟩,
  ⟨some 50, .buildSlice 44 6 #[(0, .const (.int .i64 0)), (1, .const (.int .i64 0)), (2, .const (.int .i64 0)), (3, .const (.int .i64 2)), (4, .const (.int .i64 2)), (5, .const (.int .i64 1))], none⟩,
  ⟨some 51, .move (.tmp 3), none⟩,
  ⟨some 52, .move (.tmp 4), none⟩,
  ⟨some 53, .indexAddr 22 (.tmp 51) (.tmp 52), none⟩,
  ⟨some 54, .fieldAddr 27 (.tmp 53) 0, none⟩,
  ⟨some 55, .load 5 (.tmp 54), none⟩,
  ⟨some 56, .binOp .sub 5 (.tmp 55) (.const (.int .u8 1)) 5, none⟩,
  ⟨some 57, .indexAddr 44 (.tmp 50) (.tmp 56), none⟩,
  ⟨some 58, .load 3 (.tmp 57), none⟩,
  ⟨some 59, .binOp .neq 3 (.tmp 49) (.tmp 58) 3, none⟩]
def f7_r9 : List LOp := [
  ⟨some 2, .assign (.const (.bool false)), none⟩]
def f7_r10 : List LOp := [
  ⟨some 60, .binOp .add 3 (.tmp 10) (.const (.int .i64 1)) 3, none⟩,
  ⟨some 10, .move (.tmp 60), none⟩]
def f7_l11 : LC := (.seq (.reg f7_r3 [] none) (.seq (.cond (.tmp 11) .skip (.exit 0)) (.seq (.block 1 (.seq (.reg f7_r4 [] none) (.seq (.reg f7_r5 [] none) (.seq (.seq (.reg f7_r6 [] none) (.cond (.tmp 43) (.seq (.reg f7_r7 [] none) .ret) .skip)) (.seq (.reg f7_r8 [] (some 16)) (.cond (.tmp 59) (.seq (.reg f7_r9 [] none) .ret) .skip)))))) (.reg f7_r10 [] none))))
def f7_i11 (t3 t9 t10 : D) : List D := [.any, .any, .any, t3, .any, .any, .any, .any, .any, t9, t10, .any, .any, .any, .any, .any, .any, .any, .any, .any, .any, .any, .any, .any, .any, .any, .any, .any, .any, .any, .any, .any, .any, .any, .any, .any, .any, .any, .any, .any, .any, .any, .any, .any, .any, .any, .any, .any, .any, .any, .any, .any, .any, .any, .any, .any, .any, .any, .any, .any, .any, .any, .any, .any]
def f7_r12 : List LOp := [
  ⟨some 61, .move (.tmp 3), none⟩,
  ⟨some 62, .call { callee := .builtin .len, args := #[.tmp 61], argTypes := #[22] }, none⟩,
  ⟨some 63, .binOp .leq 3 (.tmp 62) (.const (.int .i64 2000)) 3, none⟩,
  ⟨some 2, .assign (.tmp 63), none⟩]
def f7_c : LC := (.seq (.reg f7_r0 [] none) (.seq (.reg f7_r1 [] none) (.seq (.seq (.reg f7_r2 [] none) (.block 0 (.loop f7_l11))) (.seq (.reg f7_r12 [] none) .ret))))
theorem f7_lc : Tryz.f7.body.map lc = some f7_c.st := by kernel_rfl
theorem f7_res : Tryz.f7.results.toList = [.tmp 2] := by kernel_rfl
theorem f7_nt : Tryz.f7.ntmps = 64 := by kernel_rfl
theorem f7_nm : (Tryz.f7.name == "runtime.NumGoroutine") = false := by kernel_rfl

/-! quill/quillref08.Star -/
def f8_r0 : List LOp := [
  ⟨some 1, .box 27 (.tmp 0), none⟩,
  ⟨some 2, .alloc 27, none⟩]
def f8_r1 : List LOp := [
  ⟨some 3, .fieldAddr 27 (.tmp 1) 0, none⟩,
  ⟨some 4, .load 5 (.tmp 3), none⟩,
  ⟨some 5, .binOp .eql 5 (.tmp 4) (.const (.int .u8 1)) 5, none⟩,
  ⟨some 6, .move (.tmp 5), none⟩,
  ⟨some 7, .fieldAddr 27 (.tmp 1) 0, some (3, false)⟩,
  ⟨some 8, .load 5 (.tmp 7), some (3, false)⟩,
  ⟨some 9, .binOp .eql 5 (.tmp 8) (.const (.int .u8 2)) 5, some (3, false)⟩,
  ⟨some 10, .pick (.tmp 6) (.const (.bool true)) (.tmp 9), none⟩]
def f8_r2 : List LOp := [
  ⟨some 11, .call { callee := .value (.func 21), args := #[.const (.int .u8 2)], argTypes := #[5] }, none⟩,
  ⟨none, .store 27 (.tmp 2) (.tmp 11), none⟩]
def f8_r3 : List LOp := [
  ⟨some 12, .fieldAddr 27 (.tmp 1) 0, none⟩,
  ⟨some 13, .load 5 (.tmp 12), none⟩,
  ⟨some 14, .binOp .eql 5 (.tmp 13) (.const (.int .u8 6)) 5, none⟩]
def f8_r4 : List LOp := [
  ⟨some 15, .load 27 (.tmp 1), none⟩,
  ⟨none, .store 27 (.tmp 2) (.tmp 15), none⟩]
def f8_r5 : List LOp := [
  ⟨some 16, .load 27 (.tmp 1), none⟩,
  ⟨some 17, .call { callee := .value (.func 22), args := #[.tmp 16], argTypes := #[27] }, none⟩,
  ⟨none, .store 27 (.tmp 2) (.tmp 17), none⟩]
def f8_c : LC := (.seq (.reg f8_r0 [] none) (.seq (.seq (.reg f8_r1 [] none) (.cond (.tmp 10) (.seq (.reg f8_r2 [] none) .ret) .skip)) (.seq (.seq (.reg f8_r3 [] none) (.cond (.tmp 14) (.seq (.reg f8_r4 [] none) .ret) .skip)) (.seq (.reg f8_r5 [] none) .ret))))
theorem f8_lc : Tryz.f8.body.map lc = some f8_c.st := by kernel_rfl
theorem f8_res : Tryz.f8.results.toList = [.cell 2 27] := by kernel_rfl
theorem f8_nt : Tryz.f8.ntmps = 18 := by kernel_rfl
theorem f8_nm : (Tryz.f8.name == "runtime.NumGoroutine") = false := by kernel_rfl

/-! quill/quillref08.Of -/
def f9_r0 : List LOp := [
  ⟨some 1, .box 27 (.tmp 0), none⟩,
  ⟨some 2, .alloc 27, none⟩]
def f9_r1 : List LOp := [
  ⟨some 3, .fieldAddr 27 (.tmp 1) 0, none⟩,
  ⟨some 4, .load 5 (.tmp 3), none⟩,
  ⟨some 5, .binOp .eql 5 (.tmp 4) (.const (.int .u8 4)) 5, none⟩]
def f9_r2 : List LOp := [
  ⟨some 6, .fieldAddr 27 (.tmp 1) 2, none⟩,
  ⟨some 7, .load 22 (.tmp 6), none⟩,
  ⟨some 8, .indexAddr 22 (.tmp 7) (.const (.int .i64 0)), none⟩,
  ⟨some 9, .load 27 (.tmp 8), none⟩,
  ⟨some 10, .call { callee := .value (.func 9), args := #[.tmp 9], argTypes := #[27] }, none⟩,
  ⟨some 11, .fieldAddr 27 (.tmp 1) 2, none⟩,
  ⟨some 12, .load 22 (.tmp 11), none⟩,
  ⟨some 13, .indexAddr 22 (.tmp 12) (.const (.int .i64 1)), none⟩,
  ⟨some 14, .load 27 (.tmp 13), none⟩,
  ⟨some 15, .call { callee := .value (.func 9), args := #[.tmp 14], argTypes := #[27] }, none⟩,
  ⟨some 16, .call { callee := .value (.func 23), args := #[.tmp 10, .tmp 15], argTypes := #[27, 27] }, none⟩,
  ⟨none, .store 27 (.tmp 2) (.tmp 16), none⟩]
def f9_r3 : List LOp := [
  ⟨some 17, .fieldAddr 27 (.tmp 1) 0, none⟩,
  ⟨some 18, .load 5 (.tmp 17), none⟩,
  ⟨some 19, .binOp .eql 5 (.tmp 18) (.const (.int .u8 5)) 5, none⟩]
def f9_r4 : List LOp := [
  ⟨some 20, .fieldAddr 27 (.tmp 1) 2, none⟩,
  ⟨some 21, .load 22 (.tmp 20), none⟩,
  ⟨some 22, .indexAddr 22 (.tmp 21) (.const (.int .i64 0)), none⟩,
  ⟨some 23, .load 27 (.tmp 22), none⟩,
  ⟨some 24, .call { callee := .value (.func 9), args := #[.tmp 23], argTypes := #[27] }, none⟩,
  ⟨some 25, .fieldAddr 27 (.tmp 1) 2, none⟩,
  ⟨some 26, .load 22 (.tmp 25), none⟩,
  ⟨some 27, .indexAddr 22 (.tmp 26) (.const (.int .i64 1)), none⟩,
  ⟨some 28, .load 27 (.tmp 27), none⟩,
  ⟨some 29, .call { callee := .value (.func 9), args := #[.tmp 28], argTypes := #[27] }, none⟩,
  ⟨some 30, .buildSlice 22 2 #[(0, .tmp 24), (1, .tmp 29)], none⟩,
  ⟨some 31, .call { callee := .value (.func 24), args := #[.tmp 30], argTypes := #[22] }, none⟩,
  ⟨none, .store 27 (.tmp 2) (.tmp 31), none⟩]
def f9_r5 : List LOp := [
  ⟨some 32, .fieldAddr 27 (.tmp 1) 0, none⟩,
  ⟨some 33, .load 5 (.tmp 32), none⟩,
  ⟨some 34, .binOp .eql 5 (.tmp 33) (.const (.int .u8 6)) 5, none⟩]
def f9_r6 : List LOp := [
  ⟨some 35, .fieldAddr 27 (.tmp 1) 2, none⟩,
  ⟨some 36, .load 22 (.tmp 35), none⟩,
  ⟨some 37, .indexAddr 22 (.tmp 36) (.const (.int .i64 0)), none⟩,
  ⟨some 38, .load 27 (.tmp 37), none⟩,
  ⟨some 39, .call { callee := .value (.func 9), args := #[.tmp 38], argTypes := #[27] }, none⟩,
  ⟨some 40, .call { callee := .value (.func 8), args := #[.tmp 39], argTypes := #[27] }, none⟩,
  ⟨none, .store 27 (.tmp 2) (.tmp 40), none⟩]
def f9_r7 : List LOp := [
  ⟨some 41, .load 27 (.tmp 1), none⟩,
  ⟨none, .store 27 (.tmp 2) (.tmp 41), none⟩]
def f9_c : LC := (.seq (.reg f9_r0 [] none) (.seq (.seq (.reg f9_r1 [] none) (.cond (.tmp 5) (.seq (.reg f9_r2 [] (some 9)) .ret) .skip)) (.seq (.seq (.reg f9_r3 [] none) (.cond (.tmp 19) (.seq (.reg f9_r4 [] (some 9)) .ret) .skip)) (.seq (.seq (.reg f9_r5 [] none) (.cond (.tmp 34) (.seq (.reg f9_r6 [] none) .ret) .skip)) (.seq (.reg f9_r7 [] none) .ret)))))
theorem f9_lc : Tryz.f9.body.map lc = some f9_c.st := by kernel_rfl
theorem f9_res : Tryz.f9.results.toList = [.cell 2 27] := by kernel_rfl
theorem f9_nt : Tryz.f9.ntmps = 42 := by kernel_rfl
theorem f9_nm : (Tryz.f9.name == "runtime.NumGoroutine") = false := by kernel_rfl

/-! quill/quillref03.Same -/
def f10_r0 : List LOp := [
  ⟨some 2, .box 27 (.tmp 0), none⟩,
  ⟨some 3, .box 27 (.tmp 1), none⟩,
  ⟨some 4, .assign (.const (.bool false)), none⟩]
def f10_r1 : List LOp := [
  ⟨some 6, .fieldAddr 27 (.tmp 2) 0, none⟩,
  ⟨some 7, .load 5 (.tmp 6), none⟩,
  ⟨some 8, .fieldAddr 27 (.tmp 3) 0, none⟩,
  ⟨some 9, .load 5 (.tmp 8), none⟩,
  ⟨some 10, .binOp .neq 5 (.tmp 7) (.tmp 9) 5, none⟩,
  ⟨some 11, .move (.tmp 10), none⟩,
  ⟨some 12, .fieldAddr 27 (.tmp 2) 1, some (5, false)⟩,
  ⟨some 13, .load 25 (.tmp 12), some (5, false)⟩,
  ⟨some 14, .fieldAddr 27 (.tmp 3) 1, some (5, false)⟩,
  ⟨some 15, .load 25 (.tmp 14), some (5, false)⟩,
  ⟨some 16, .binOp .neq 25 (.tmp 13) (.tmp 15) 25, some (5, false)⟩,
  ⟨some 17, .pick (.tmp 11) (.const (.bool true)) (.tmp 16), none⟩,
  ⟨some 18, .move (.tmp 17), none⟩,
  ⟨some 19, .fieldAddr 27 (.tmp 2) 2, some (12, false)⟩,
  ⟨some 20, .load 22 (.tmp 19), some (12, false)⟩,
  ⟨some 21, .call { callee := .builtin .len, args := #[.tmp 20], argTypes := #[22] }, some (12, false)⟩,
  ⟨some 22, .fieldAddr 27 (.tmp 3) 2, some (12, false)⟩,
  ⟨some 23, .load 22 (.tmp 22), some (12, false)⟩,
  ⟨some 24, .call { callee := .builtin .len, args := #[.tmp 23], argTypes := #[22] }, some (12, false)⟩,
  ⟨some 25, .binOp .neq 3 (.tmp 21) (.tmp 24) 3, some (12, false)⟩,
  ⟨some 26, .pick (.tmp 18) (.const (.bool true)) (.tmp 25), none⟩]
def f10_r2 : List LOp := [
  ⟨some 4, .assign (.const (.bool false)), none⟩]
def f10_r3 : List LOp := [
  ⟨some 27, .fieldAddr 27 (.tmp 2) 2, none⟩,
  ⟨some 28, .load 22 (.tmp 27), none⟩,
  ⟨some 29, .call { callee := .builtin .len, args := #[.tmp 28], argTypes := #[22] }, none⟩,
  ⟨some 30, .move (.const (.int .i64 0)), none⟩]
def f10_r4 : List LOp := [
  ⟨some 31, .binOp .lss 3 (.tmp 30) (.tmp 29) 3, none⟩]
def f10_r5 : List LOp := [
  ⟨some 32, .move (.tmp 30), none⟩,
  ⟨some 5, .assign (.tmp 32), none⟩]
def f10_r6 : List LOp := [
  ⟨some 33, .fieldAddr 27 (.tmp 2) 2, none⟩,
  ⟨some 34, .load 22 (.tmp 33), none⟩,
  ⟨some 35, .move (.tmp 5), none⟩,
  ⟨some 36, .indexAddr 22 (.tmp 34) (.tmp 35), none⟩,
  ⟨some 37, .load 27 (.tmp 36), none⟩,
  ⟨some 38, .fieldAddr 27 (.tmp 3) 2, none⟩,
  ⟨some 39, .load 22 (.tmp 38), none⟩,
  ⟨some 40, .move (.tmp 5), none⟩,
  ⟨some 41, .indexAddr 22 (.tmp 39) (.tmp 40), none⟩,
  ⟨some 42, .load 27 (.tmp 41), none⟩,
  ⟨some 43, .call { callee := .value (.func 10), args := #[.tmp 37, .tmp 42], argTypes := #[27, 27] }, none⟩,
  ⟨some 44, .unOp .not 4 (.tmp 43), none⟩]
def f10_r7 : List LOp := [
  ⟨some 4, .assign (.const (.bool false)), none⟩]
def f10_r8 : List LOp := [
  ⟨some 45, .binOp .add 3 (.tmp 30) (.const (.int .i64 1)) 3, none⟩,
  ⟨some 30, .move (.tmp 45), none⟩]
def f10_l9 : LC := (.seq (.reg f10_r4 [] none) (.seq (.cond (.tmp 31) .skip (.exit 0)) (.seq (.block 1 (.seq (.reg f10_r5 [] none) (.seq (.reg f10_r6 [] (some 10)) (.cond (.tmp 44) (.seq (.reg f10_r7 [] none) .ret) .skip)))) (.reg f10_r8 [] none))))
def f10_i9 (t2 t3 t29 t30 : D) : List D := [.any, .any, t2, t3, .any, .any, .any, .any, .any, .any, .any, .any, .any, .any, .any, .any, .any, .any, .any, .any, .any, .any, .any, .any, .any, .any, .any, .any, .any, t29, t30, .any, .any, .any, .any, .any, .any, .any, .any, .any, .any, .any, .any, .any, .any, .any]
def f10_r10 : List LOp := [
  ⟨some 4, .assign (.const (.bool true)), none⟩]
def f10_c : LC := (.seq (.reg f10_r0 [] none) (.seq (.seq (.reg f10_r1 [] none) (.cond (.tmp 26) (.seq (.reg f10_r2 [] none) .ret) .skip)) (.seq (.seq (.reg f10_r3 [] none) (.block 0 (.loop f10_l9))) (.seq (.reg f10_r10 [] none) .ret))))
theorem f10_lc : Tryz.f10.body.map lc = some f10_c.st := by kernel_rfl
theorem f10_res : Tryz.f10.results.toList = [.tmp 4] := by kernel_rfl
theorem f10_nt : Tryz.f10.ntmps = 46 := by kernel_rfl
theorem f10_nm : (Tryz.f10.name == "runtime.NumGoroutine") = false := by kernel_rfl

/-! quill/norm.Seq -/
def f11_r0 : List LOp := [
  ⟨some 2, .alloc 27, none⟩]
def f11_r1 : List LOp := [
  ⟨some 8, .move (.tmp 0), none⟩,
  ⟨some 9, .call { callee := .value (.func 25), args := #[.tmp 8], argTypes := #[22] }, none⟩,
  ⟨some 7, .move (.tmp 9), none⟩,
  ⟨some 10, .extract (.tmp 7) 0, none⟩,
  ⟨some 11, .extract (.tmp 7) 1, none⟩,
  ⟨some 0, .assign (.tmp 10), none⟩,
  ⟨some 3, .assign (.tmp 11), none⟩]
def f11_r2 : List LOp := [
  ⟨some 12, .move (.tmp 3), none⟩,
  ⟨some 13, .unOp .not 4 (.tmp 12), none⟩]
def f11_r3 : List LOp := [
  ⟨some 14, .build 27 #[], none⟩,
  ⟨none, .store 27 (.tmp 2) (.tmp 14), none⟩]
def f11_r4 : List LOp := [
  ⟨some 15, .call { callee := .value (.func 26), args := #[.const (.slice none 0 0)], argTypes := #[22] }, none⟩,
  ⟨some 4, .alloc 27, none⟩,
  ⟨none, .store 27 (.tmp 4) (.tmp 15), none⟩]
def f11_r5 : List LOp := [
  ⟨some 16, .move (.tmp 0), none⟩,
  ⟨some 17, .call { callee := .value (.func 27), args := #[.tmp 16], argTypes := #[22] }, none⟩]
def f11_r6 : List LOp := [
  ⟨some 6, .alloc 27, none⟩,
  ⟨none, .store 27 (.tmp 6) (.tmp 19), none⟩]
def f11_r7 : List LOp := [
  ⟨some 20, .load 27 (.tmp 6), none⟩,
  ⟨some 21, .load 27 (.tmp 4), none⟩,
  ⟨some 22, .call { callee := .value (.func 28), args := #[.tmp 20, .tmp 21], argTypes := #[27, 27] }, none⟩,
  ⟨none, .store 27 (.tmp 4) (.tmp 22), none⟩]
def f11_a8 : LC := (.reg f11_r6 [] none)
def f11_b8 : LC := (.block 1 (.reg f11_r7 [] none))
def f11_r9 : List LOp := [
  ⟨some 23, .load 27 (.tmp 4), none⟩,
  ⟨none, .store 27 (.tmp 2) (.tmp 23), none⟩]
def f11_c : LC := (.seq (.reg f11_r0 [] none) (.seq (.reg f11_r1 [] none) (.seq (.seq (.reg f11_r2 [] none) (.cond (.tmp 13) (.seq (.reg f11_r3 [] none) .ret) .skip)) (.seq (.reg f11_r4 [] none) (.seq (.seq (.reg f11_r5 [] none) (.block 0 (.rfun (.tmp 17) [18, 19] f11_a8 f11_b8))) (.seq (.reg f11_r9 [] none) .ret))))))
theorem f11_lc : Tryz.f11.body.map lc = some f11_c.st := by kernel_rfl
theorem f11_res : Tryz.f11.results.toList = [.cell 2 27] := by kernel_rfl
theorem f11_nt : Tryz.f11.ntmps = 24 := by kernel_rfl
theorem f11_nm : (Tryz.f11.name == "runtime.NumGoroutine") = false := by kernel_rfl

/-! quill/quillref08.Many -/
def f12_r0 : List LOp := [
  ⟨some 4, .alloc 27, none⟩]
def f12_r1 : List LOp := [
  ⟨some 9, .buildSlice 22 0 #[], none⟩,
  ⟨some 5, .assign (.tmp 9), none⟩]
def f12_r2 : List LOp := [
  ⟨some 10, .move (.tmp 1), none⟩,
  ⟨some 11, .call { callee := .builtin .len, args := #[.tmp 10], argTypes := #[22] }, none⟩,
  ⟨some 12, .move (.const (.int .i64 0)), none⟩]
def f12_r3 : List LOp := [
  ⟨some 13, .binOp .lss 3 (.tmp 12) (.tmp 11) 3, none⟩]
def f12_r4 : List LOp := [
  ⟨some 14, .move (.tmp 12), none⟩,
  ⟨some 6, .assign (.tmp 14), none⟩]
def f12_r5 : List LOp := [
  ⟨some 15, .move (.tmp 1), none⟩,
  ⟨some 16, .move (.tmp 6), none⟩,
  ⟨some 17, .indexAddr 22 (.tmp 15) (.tmp 16), none⟩,
  ⟨some 18, .load 27 (.tmp 17), none⟩,
  ⟨some 19, .call { callee := .value (.func 7), args := #[.tmp 18], argTypes := #[27] }, none⟩,
  ⟨some 20, .unOp .not 4 (.tmp 19), none⟩]
def f12_r6 : List LOp := [
  ⟨some 21, .build 27 #[], none⟩,
  ⟨none, .store 27 (.tmp 4) (.tmp 21), none⟩]
def f12_r7 : List LOp := [
  ⟨some 22, .move (.tmp 5), none⟩,
  ⟨some 23, .move (.tmp 1), none⟩,
  ⟨some 24, .move (.tmp 6), none⟩,
  ⟨some 25, .indexAddr 22 (.tmp 23) (.tmp 24), none⟩,
  ⟨some 26, .load 27 (.tmp 25), none⟩,
  ⟨some 27, .call { callee := .value (.func 9), args := #[.tmp 26], argTypes := #[27] }, none⟩,
  ⟨some 28, .buildSlice 22 1 #[(0, .tmp 27)], none⟩,
  ⟨some 29, .call { callee := .builtin .append, args := #[.tmp 22, .tmp 28], argTypes := #[22, 22] }, none⟩,
  ⟨some 5, .assign (.tmp 29), none⟩]
def f12_r8 : List LOp := [
  ⟨some 30, .binOp .add 3 (.tmp 12) (.const (.int .i64 1)) 3, none⟩,
  ⟨some 12, .move (.tmp 30), none⟩]
def f12_l9 : LC := (.seq (.reg f12_r3 [] none) (.seq (.cond (.tmp 13) .skip (.exit 0)) (.seq (.block 1 (.seq (.reg f12_r4 [] none) (.seq (.seq (.reg f12_r5 [] none) (.cond (.tmp 20) (.seq (.reg f12_r6 [] none) .ret) .skip)) (.reg f12_r7 [] none)))) (.reg f12_r8 [] none))))
def f12_i9 (t0 t1 t4 t5 t11 t12 : D) : List D := [t0, t1, .any, .any, t4, t5, .any, .any, .any, .any, .any, t11, t12, .any, .any, .any, .any, .any, .any, .any, .any, .any, .any, .any, .any, .any, .any, .any, .any, .any, .any, .any, .any, .any, .any, .any, .any, .any, .any, .any, .any, .any, .any, .any, .any, .any, .any, .any, .any, .any]
def f12_r10 : List LOp := [
  ⟨some 31, .move (.tmp 0), none⟩,
  ⟨some 32, .binOp .eql 5 (.tmp 31) (.const (.int .u8 5)) 5, none⟩]
def f12_r11 : List LOp := [
  ⟨some 33, .move (.tmp 5), none⟩,
  ⟨some 34, .call { callee := .value (.func 24), args := #[.tmp 33], argTypes := #[22] }, none⟩,
  ⟨none, .store 27 (.tmp 4) (.tmp 34), none⟩]
def f12_r12 : List LOp := [
  ⟨some 35, .call { callee := .value (.func 21), args := #[.const (.int .u8 2)], argTypes := #[5] }, none⟩,
  ⟨some 7, .alloc 27, none⟩,
  ⟨none, .store 27 (.tmp 7) (.tmp 35), none⟩]
def f12_r13 : List LOp := [
  ⟨some 36, .move (.tmp 5), none⟩,
  ⟨some 37, .call { callee := .builtin .len, args := #[.tmp 36], argTypes := #[22] }, none⟩,
  ⟨some 38, .binOp .sub 3 (.tmp 37) (.const (.int .i64 1)) 3, none⟩,
  ⟨some 8, .assign (.tmp 38), none⟩]
def f12_r14 : List LOp := [
  ⟨some 39, .move (.tmp 8), none⟩,
  ⟨some 40, .binOp .geq 3 (.tmp 39) (.const (.int .i64 0)) 3, none⟩]
def f12_r15 : List LOp := [
  ⟨some 43, .move (.tmp 5), none⟩,
  ⟨some 44, .move (.tmp 8), none⟩,
  ⟨some 45, .indexAddr 22 (.tmp 43) (.tmp 44), none⟩,
  ⟨some 46, .load 27 (.tmp 45), none⟩,
  ⟨some 47, .load 27 (.tmp 7), none⟩,
  ⟨some 48, .call { callee := .value (.func 23), args := #[.tmp 46, .tmp 47], argTypes := #[27, 27] }, none⟩,
  ⟨none, .store 27 (.tmp 7) (.tmp 48), none⟩]
def f12_r16 : List LOp := [
  ⟨some 41, .move (.tmp 8), none⟩,
  ⟨some 42, .binOp .sub 3 (.tmp 41) (.const (.int .i64 1)) 3, none⟩,
  ⟨some 8, .assign (.tmp 42), none⟩]
def f12_l17 : LC := (.seq (.seq (.reg f12_r14 [] none) (.cond (.tmp 40) .skip (.exit 2))) (.seq (.block 3 (.reg f12_r15 [] (some 5))) (.reg f12_r16 [] none)))
def f12_i17 (t4 t5 t7 t8 : D) : List D := [.any, .any, .any, .any, t4, t5, .any, t7, t8, .any, .any, .any, .any, .any, .any, .any, .any, .any, .any, .any, .any, .any, .any, .any, .any, .any, .any, .any, .any, .any, .any, .any, .any, .any, .any, .any, .any, .any, .any, .any, .any, .any, .any, .any, .any, .any, .any, .any, .any, .any]
def f12_r18 : List LOp := [
  ⟨some 49, .load 27 (.tmp 7), none⟩,
  ⟨none, .store 27 (.tmp 4) (.tmp 49), none⟩]
def f12_c : LC := (.seq (.reg f12_r0 [] none) (.seq (.reg f12_r1 [0] none) (.seq (.seq (.reg f12_r2 [] none) (.block 0 (.loop f12_l9))) (.seq (.seq (.reg f12_r10 [] none) (.cond (.tmp 32) (.seq (.reg f12_r11 [] none) .ret) .skip)) (.seq (.reg f12_r12 [] none) (.seq (.seq (.reg f12_r13 [] none) (.block 2 (.loop f12_l17))) (.seq (.reg f12_r18 [] none) .ret)))))))
theorem f12_lc : Tryz.f12.body.map lc = some f12_c.st := by kernel_rfl
theorem f12_res : Tryz.f12.results.toList = [.cell 4 27] := by kernel_rfl
theorem f12_nt : Tryz.f12.ntmps = 50 := by kernel_rfl
theorem f12_nm : (Tryz.f12.name == "runtime.NumGoroutine") = false := by kernel_rfl

/-! quill/norm.Alt -/
def f13_r0 : List LOp := [
  ⟨some 2, .alloc 27, none⟩]
def f13_r1 : List LOp := [
  ⟨some 5, .move (.tmp 0), none⟩,
  ⟨some 6, .call { callee := .value (.func 25), args := #[.tmp 5], argTypes := #[22] }, none⟩,
  ⟨some 4, .move (.tmp 6), none⟩,
  ⟨some 7, .extract (.tmp 4) 0, none⟩,
  ⟨some 8, .extract (.tmp 4) 1, none⟩,
  ⟨some 0, .assign (.tmp 7), none⟩,
  ⟨some 3, .assign (.tmp 8), none⟩]
def f13_r2 : List LOp := [
  ⟨some 9, .move (.tmp 3), none⟩,
  ⟨some 10, .unOp .not 4 (.tmp 9), none⟩]
def f13_r3 : List LOp := [
  ⟨some 11, .build 27 #[], none⟩,
  ⟨none, .store 27 (.tmp 2) (.tmp 11), none⟩]
def f13_r4 : List LOp := [
  ⟨some 12, .move (.tmp 0), none⟩,
  ⟨some 13, .call { callee := .value (.func 29), args := #[.tmp 12], argTypes := #[22] }, none⟩,
  ⟨none, .store 27 (.tmp 2) (.tmp 13), none⟩]
def f13_c : LC := (.seq (.reg f13_r0 [] none) (.seq (.reg f13_r1 [] none) (.seq (.seq (.reg f13_r2 [] none) (.cond (.tmp 10) (.seq (.reg f13_r3 [] none) .ret) .skip)) (.seq (.reg f13_r4 [] none) .ret))))
theorem f13_lc : Tryz.f13.body.map lc = some f13_c.st := by kernel_rfl
theorem f13_res : Tryz.f13.results.toList = [.cell 2 27] := by kernel_rfl
theorem f13_nt : Tryz.f13.ntmps = 14 := by kernel_rfl
theorem f13_nm : (Tryz.f13.name == "runtime.NumGoroutine") = false := by kernel_rfl

/-! quill/norm.Star -/
def f14_r0 : List LOp := [
  ⟨some 1, .box 27 (.tmp 0), none⟩,
  ⟨some 2, .alloc 27, none⟩]
def f14_r1 : List LOp := [
  ⟨some 6, .load 27 (.tmp 1), none⟩,
  ⟨some 7, .buildSlice 22 1 #[(0, .tmp 6)], none⟩,
  ⟨some 8, .call { callee := .value (.func 25), args := #[.tmp 7], argTypes := #[22] }, none⟩,
  ⟨some 5, .move (.tmp 8), none⟩,
  ⟨some 9, .extract (.tmp 5) 0, none⟩,
  ⟨some 10, .extract (.tmp 5) 1, none⟩,
  ⟨some 3, .assign (.tmp 9), none⟩,
  ⟨some 4, .assign (.tmp 10), none⟩]
def f14_r2 : List LOp := [
  ⟨some 11, .move (.tmp 4), none⟩,
  ⟨some 12, .unOp .not 4 (.tmp 11), none⟩]
def f14_r3 : List LOp := [
  ⟨some 13, .build 27 #[], none⟩,
  ⟨none, .store 27 (.tmp 2) (.tmp 13), none⟩]
def f14_r4 : List LOp := [
  ⟨some 14, .move (.tmp 3), none⟩,
  ⟨some 15, .indexAddr 22 (.tmp 14) (.const (.int .i64 0)), none⟩,
  ⟨some 16, .load 27 (.tmp 15), none⟩,
  ⟨some 17, .call { callee := .value (.func 30), args := #[.tmp 16], argTypes := #[27] }, none⟩,
  ⟨none, .store 27 (.tmp 2) (.tmp 17), none⟩]
def f14_c : LC := (.seq (.reg f14_r0 [] none) (.seq (.reg f14_r1 [] none) (.seq (.seq (.reg f14_r2 [] none) (.cond (.tmp 12) (.seq (.reg f14_r3 [] none) .ret) .skip)) (.seq (.reg f14_r4 [] none) .ret))))
theorem f14_lc : Tryz.f14.body.map lc = some f14_c.st := by kernel_rfl
theorem f14_res : Tryz.f14.results.toList = [.cell 2 27] := by kernel_rfl
theorem f14_nt : Tryz.f14.ntmps = 18 := by kernel_rfl
theorem f14_nm : (Tryz.f14.name == "runtime.NumGoroutine") = false := by kernel_rfl

/-! quill/quillref03.count -/
def f15_r0 : List LOp := [
  ⟨some 2, .box 27 (.tmp 0), none⟩,
  ⟨some 4, .assign (.const (.int .i64 0)), none⟩]
def f15_r1 : List LOp := [
  ⟨some 5, .assign (.const (.int .i64 1)), none⟩]
def f15_r2 : List LOp := [
  ⟨some 7, .fieldAddr 27 (.tmp 2) 2, none⟩,
  ⟨some 8, .load 22 (.tmp 7), none⟩,
  ⟨some 9, .call { callee := .builtin .len, args := #[.tmp 8], argTypes := #[22] }, none⟩,
  ⟨some 10, .move (.const (.int .i64 0)), none⟩]
def f15_r3 : List LOp := [
  ⟨some 11, .binOp .lss 3 (.tmp 10) (.tmp 9) 3, none⟩]
def f15_r4 : List LOp := [
  ⟨some 12, .move (.tmp 10), none⟩,
  ⟨some 6, .assign (.tmp 12), none⟩]
def f15_r5 : List LOp := [
  ⟨some 13, .move (.tmp 5), none⟩,
  ⟨some 14, .move (.tmp 1), none⟩,
  ⟨some 15, .binOp .gtr 3 (.tmp 13) (.tmp 14) 3, none⟩]
def f15_r6 : List LOp := [
  ⟨some 16, .move (.tmp 5), none⟩,
  ⟨some 4, .assign (.tmp 16), none⟩]
def f15_r7 : List LOp := [
  ⟨some 17, .move (.tmp 5), none⟩,
  ⟨some 18, .fieldAddr 27 (.tmp 2) 2, none⟩,
  ⟨some 19, .load 22 (.tmp 18), none⟩,
  ⟨some 20, .move (.tmp 6), none⟩,
  ⟨some 21, .indexAddr 22 (.tmp 19) (.tmp 20), none⟩,
  ⟨some 22, .load 27 (.tmp 21), none⟩,
  ⟨some 23, .move (.tmp 1), none⟩,
  ⟨some 24, .call { callee := .value (.func 15), args := #[.tmp 22, .tmp 23], argTypes := #[27, 3] }, none⟩,
  ⟨some 25, .binOp .add 3 (.tmp 17) (.tmp 24) 3, none⟩,
  ⟨some 5, .assign (.tmp 25), none⟩]
def f15_r8 : List LOp := [
  ⟨some 26, .binOp .add 3 (.tmp 10) (.const (.int .i64 1)) 3, none⟩,
  ⟨some 10, .move (.tmp 26), none⟩]
def f15_l9 : LC := (.seq (.reg f15_r3 [] none) (.seq (.cond (.tmp 11) .skip (.exit 0)) (.seq (.block 1 (.seq (.reg f15_r4 [] none) (.seq (.seq (.reg f15_r5 [] none) (.cond (.tmp 15) (.seq (.reg f15_r6 [] none) .ret) .skip)) (.reg f15_r7 [] none)))) (.reg f15_r8 [] none))))
def f15_i9 (t1 t2 t5 t9 t10 : D) : List D := [.any, t1, t2, .any, .any, t5, .any, .any, .any, t9, t10, .any, .any, .any, .any, .any, .any, .any, .any, .any, .any, .any, .any, .any, .any, .any, .any, .any]
def f15_r10 : List LOp := [
  ⟨some 27, .move (.tmp 5), none⟩,
  ⟨some 4, .assign (.tmp 27), none⟩]
def f15_c : LC := (.seq (.reg f15_r0 [] none) (.seq (.reg f15_r1 [] none) (.seq (.seq (.reg f15_r2 [] none) (.block 0 (.loop f15_l9))) (.seq (.reg f15_r10 [] none) .ret))))
theorem f15_lc : Tryz.f15.body.map lc = some f15_c.st := by kernel_rfl
theorem f15_res : Tryz.f15.results.toList = [.tmp 4] := by kernel_rfl
theorem f15_nt : Tryz.f15.ntmps = 28 := by kernel_rfl
theorem f15_nm : (Tryz.f15.name == "runtime.NumGoroutine") = false := by kernel_rfl

/-! quill/read.Read -/
def f16_r0 : List LOp := [
  ⟨some 2, .alloc 27, none⟩,
  ⟨some 3, .assign (.const (.int .i64 0)), none⟩,
  ⟨some 4, .assign (.const (.int .i64 0)), none⟩]
def f16_r1 : List LOp := [
  ⟨some 8, .move (.tmp 0), none⟩,
  ⟨some 9, .call { callee := .builtin .len, args := #[.tmp 8], argTypes := #[9] }, none⟩,
  ⟨some 10, .binOp .gtr 3 (.tmp 9) (.const (.int .i64 65536)) 3, none⟩]
def f16_r2 : List LOp := [
  ⟨some 11, .build 27 #[], none⟩,
  ⟨none, .store 27 (.tmp 2) (.tmp 11), none⟩,
  ⟨some 3, .assign (.const (.int .i64 0)), none⟩,
  ⟨some 4, .assign (.const (.int .i64 3)), none⟩]
def f16_r3 : List LOp := [
  ⟨some 13, .move (.tmp 0), none⟩,
  ⟨some 14, .build 55 #[(0, .tmp 13)], none⟩,
  ⟨some 15, .box 55 (.tmp 14), none⟩,
  ⟨some 16, .call { callee := .value (.func 31), args := #[.tmp 15], argTypes := #[53] }, none⟩,
  ⟨some 12, .move (.tmp 16), none⟩,
  ⟨some 17, .extract (.tmp 12) 0, none⟩,
  ⟨some 18, .extract (.tmp 12) 1, none⟩,
  ⟨some 19, .extract (.tmp 12) 2, none⟩,
  ⟨some 5, .alloc 27, none⟩,
  ⟨none, .store 27 (.tmp 5) (.tmp 17), none⟩,
  ⟨some 6, .assign (.tmp 18), none⟩,
  ⟨some 7, .assign (.tmp 19), none⟩]
def f16_r4 : List LOp := [
  ⟨some 20, .move (.tmp 7), none⟩,
  ⟨some 21, .binOp .eql 38 (.tmp 20) (.const (.int .i64 0)) 38, none⟩,
  ⟨some 22, .move (.tmp 21), none⟩,
  ⟨some 23, .load 27 (.tmp 5), some (2, true)⟩,
  ⟨some 24, .buildSlice 22 1 #[(0, .tmp 23)], some (2, true)⟩,
  ⟨some 25, .call { callee := .value (.func 32), args := #[.tmp 24], argTypes := #[22] }, some (2, true)⟩,
  ⟨some 26, .unOp .not 4 (.tmp 25), some (2, true)⟩,
  ⟨some 27, .pick (.tmp 22) (.tmp 26) (.const (.bool false)), none⟩]
def f16_r5 : List LOp := [
  ⟨some 28, .build 27 #[], none⟩,
  ⟨none, .store 27 (.tmp 2) (.tmp 28), none⟩,
  ⟨some 3, .assign (.const (.int .i64 0)), none⟩,
  ⟨some 4, .assign (.const (.int .i64 4)), none⟩]
def f16_r6 : List LOp := [
  ⟨some 29, .load 27 (.tmp 5), none⟩,
  ⟨some 30, .move (.tmp 6), none⟩,
  ⟨some 31, .move (.tmp 7), none⟩,
  ⟨none, .store 27 (.tmp 2) (.tmp 29), none⟩,
  ⟨some 3, .assign (.tmp 30), none⟩,
  ⟨some 4, .assign (.tmp 31), none⟩]
def f16_c : LC := (.seq (.reg f16_r0 [] none) (.seq (.seq (.reg f16_r1 [] none) (.cond (.tmp 10) (.seq (.reg f16_r2 [] none) .ret) .skip)) (.seq (.reg f16_r3 [2] none) (.seq (.seq (.reg f16_r4 [] none) (.cond (.tmp 27) (.seq (.reg f16_r5 [] none) .ret) .skip)) (.seq (.reg f16_r6 [] none) .ret)))))
theorem f16_lc : Tryz.f16.body.map lc = some f16_c.st := by kernel_rfl
theorem f16_res : Tryz.f16.results.toList = [.cell 2 27, .tmp 3, .tmp 4] := by kernel_rfl
theorem f16_nt : Tryz.f16.ntmps = 32 := by kernel_rfl
theorem f16_nm : (Tryz.f16.name == "runtime.NumGoroutine") = false := by kernel_rfl

/-! quill/norm.Norm -/
def f17_r0 : List LOp := [
  ⟨some 1, .box 27 (.tmp 0), none⟩,
  ⟨some 2, .alloc 27, none⟩]
def f17_r1 : List LOp := [
  ⟨some 3, .load 27 (.tmp 1), none⟩,
  ⟨some 4, .buildSlice 22 1 #[(0, .tmp 3)], none⟩,
  ⟨some 5, .call { callee := .value (.func 32), args := #[.tmp 4], argTypes := #[22] }, none⟩,
  ⟨some 6, .unOp .not 4 (.tmp 5), none⟩]
def f17_r2 : List LOp := [
  ⟨some 7, .build 27 #[], none⟩,
  ⟨none, .store 27 (.tmp 2) (.tmp 7), none⟩]
def f17_r3 : List LOp := [
  ⟨some 8, .load 27 (.tmp 1), none⟩,
  ⟨some 9, .call { callee := .value (.func 33), args := #[.tmp 8], argTypes := #[27] }, none⟩,
  ⟨none, .store 27 (.tmp 2) (.tmp 9), none⟩]
def f17_c : LC := (.seq (.reg f17_r0 [] none) (.seq (.seq (.reg f17_r1 [] none) (.cond (.tmp 6) (.seq (.reg f17_r2 [] none) .ret) .skip)) (.seq (.reg f17_r3 [] none) .ret)))
theorem f17_lc : Tryz.f17.body.map lc = some f17_c.st := by kernel_rfl
theorem f17_res : Tryz.f17.results.toList = [.cell 2 27] := by kernel_rfl
theorem f17_nt : Tryz.f17.ntmps = 10 := by kernel_rfl
theorem f17_nm : (Tryz.f17.name == "runtime.NumGoroutine") = false := by kernel_rfl

/-! quill/rex.Word -/
def f18_r0 : List LOp := [
  ⟨some 2, .alloc 27, none⟩]
def f18_r1 : List LOp := [
  ⟨some 3, .assign (.const (.slice none 0 0)), none⟩]
def f18_r2 : List LOp := [
  ⟨some 5, .move (.tmp 0), none⟩,
  ⟨some 6, .call { callee := .builtin .len, args := #[.tmp 5], argTypes := #[9] }, none⟩,
  ⟨some 7, .move (.const (.int .i64 0)), none⟩]
def f18_r3 : List LOp := [
  ⟨some 8, .binOp .lss 3 (.tmp 7) (.tmp 6) 3, none⟩]
def f18_r4 : List LOp := [
  ⟨some 9, .move (.tmp 7), none⟩,
  ⟨some 4, .assign (.tmp 9), none⟩]
def f18_r5 : List LOp := [
  ⟨some 10, .move (.tmp 3), none⟩,
  ⟨some 11, .move (.tmp 0), none⟩,
  ⟨some 12, .move (.tmp 4), none⟩,
  ⟨some 13, .index 9 (.tmp 11) (.tmp 12), none⟩,
  ⟨some 14, .buildSlice 72 1 #[(0, .tmp 13)], none⟩,
  ⟨some 15, .call { callee := .value (.func 35), args := #[.tmp 14], argTypes := #[72] }, none⟩,
  ⟨some 16, .call { callee := .value (.func 34), args := #[.tmp 15], argTypes := #[25] }, none⟩,
  ⟨some 17, .buildSlice 22 1 #[(0, .tmp 16)], none⟩,
  ⟨some 18, .call { callee := .builtin .append, args := #[.tmp 10, .tmp 17], argTypes := #[22, 22] }, none⟩,
  ⟨some 3, .assign (.tmp 18), none⟩]
def f18_r6 : List LOp := [
  ⟨some 19, .binOp .add 3 (.tmp 7) (.const (.int .i64 1)) 3, none⟩,
  ⟨some 7, .move (.tmp 19), none⟩]
def f18_l7 : LC := (.seq (.reg f18_r3 [] none) (.seq (.cond (.tmp 8) .skip (.exit 0)) (.seq (.block 1 (.seq (.reg f18_r4 [] none) (.reg f18_r5 [] none))) (.reg f18_r6 [] none))))
def f18_i7 (t0 t2 t3 t6 t7 : D) : List D := [t0, .any, t2, t3, .any, .any, t6, t7, .any, .any, .any, .any, .any, .any, .any, .any, .any, .any, .any, .any, .any, .any]
def f18_r8 : List LOp := [
  ⟨some 20, .move (.tmp 3), none⟩,
  ⟨some 21, .call { callee := .value (.func 26), args := #[.tmp 20], argTypes := #[22] }, none⟩,
  ⟨none, .store 27 (.tmp 2) (.tmp 21), none⟩]
def f18_c : LC := (.seq (.reg f18_r0 [] none) (.seq (.reg f18_r1 [] none) (.seq (.seq (.reg f18_r2 [] none) (.block 0 (.loop f18_l7))) (.seq (.reg f18_r8 [] none) .ret))))
theorem f18_lc : Tryz.f18.body.map lc = some f18_c.st := by kernel_rfl
theorem f18_res : Tryz.f18.results.toList = [.cell 2 27] := by kernel_rfl
theorem f18_nt : Tryz.f18.ntmps = 22 := by kernel_rfl
theorem f18_nm : (Tryz.f18.name == "runtime.NumGoroutine") = false := by kernel_rfl

/-! quill/norm.Is -/
def f19_r0 : List LOp := [
  ⟨some 2, .assign (.const (.bool false)), none⟩]
def f19_r1 : List LOp := [
  ⟨some 3, .move (.tmp 0), none⟩,
  ⟨some 4, .call { callee := .value (.func 36), args := #[.tmp 3, .func 37], argTypes := #[22, 31] }, none⟩,
  ⟨some 5, .unOp .not 4 (.tmp 4), none⟩,
  ⟨some 2, .assign (.tmp 5), none⟩]
def f19_c : LC := (.seq (.reg f19_r0 [] none) (.seq (.reg f19_r1 [] none) .ret))
theorem f19_lc : Tryz.f19.body.map lc = some f19_c.st := by kernel_rfl
theorem f19_res : Tryz.f19.results.toList = [.tmp 2] := by kernel_rfl
theorem f19_nt : Tryz.f19.ntmps = 6 := by kernel_rfl
theorem f19_nm : (Tryz.f19.name == "runtime.NumGoroutine") = false := by kernel_rfl

/-! quill/quillref03.All -/
def f20_r0 : List LOp := [
  ⟨some 1, .box 27 (.tmp 0), none⟩,
  ⟨some 2, .assign (.const (.slice none 0 0)), none⟩]
def f20_r1 : List LOp := [
  ⟨some 5, .load 27 (.tmp 1), none⟩,
  ⟨some 6, .buildSlice 22 1 #[(0, .tmp 5)], none⟩,
  ⟨some 3, .assign (.tmp 6), none⟩]
def f20_r2 : List LOp := [
  ⟨some 7, .fieldAddr 27 (.tmp 1) 2, none⟩,
  ⟨some 8, .load 22 (.tmp 7), none⟩,
  ⟨some 9, .call { callee := .builtin .len, args := #[.tmp 8], argTypes := #[22] }, none⟩,
  ⟨some 10, .move (.const (.int .i64 0)), none⟩]
def f20_r3 : List LOp := [
  ⟨some 11, .binOp .lss 3 (.tmp 10) (.tmp 9) 3, none⟩]
def f20_r4 : List LOp := [
  ⟨some 12, .move (.tmp 10), none⟩,
  ⟨some 4, .assign (.tmp 12), none⟩]
def f20_r5 : List LOp := [
  ⟨some 13, .move (.tmp 3), none⟩,
  ⟨some 14, .fieldAddr 27 (.tmp 1) 2, none⟩,
  ⟨some 15, .load 22 (.tmp 14), none⟩,
  ⟨some 16, .move (.tmp 4), none⟩,
  ⟨some 17, .indexAddr 22 (.tmp 15) (.tmp 16), none⟩,
  ⟨some 18, .load 27 (.tmp 17), none⟩,
  ⟨some 19, .call { callee := .value (.func 20), args := #[.tmp 18], argTypes := #[27] }, none⟩,
  ⟨some 20, .call { callee := .builtin .append, args := #[.tmp 13, .tmp 19], argTypes := #[22, 22] }, none⟩,
  ⟨some 3, .assign (.tmp 20), none⟩]
def f20_r6 : List LOp := [
  ⟨some 21, .binOp .add 3 (.tmp 10) (.const (.int .i64 1)) 3, none⟩,
  ⟨some 10, .move (.tmp 21), none⟩]
def f20_l7 : LC := (.seq (.reg f20_r3 [] none) (.seq (.cond (.tmp 11) .skip (.exit 0)) (.seq (.block 1 (.seq (.reg f20_r4 [] none) (.reg f20_r5 [] none))) (.reg f20_r6 [] none))))
def f20_i7 (t1 t3 t9 t10 : D) : List D := [.any, t1, .any, t3, .any, .any, .any, .any, .any, t9, t10, .any, .any, .any, .any, .any, .any, .any, .any, .any, .any, .any, .any]
def f20_r8 : List LOp := [
  ⟨some 22, .move (.tmp 3), none⟩,
  ⟨some 2, .assign (.tmp 22), none⟩]
def f20_c : LC := (.seq (.reg f20_r0 [] none) (.seq (.reg f20_r1 [1] none) (.seq (.seq (.reg f20_r2 [] none) (.block 0 (.loop f20_l7))) (.seq (.reg f20_r8 [] none) .ret))))
theorem f20_lc : Tryz.f20.body.map lc = some f20_c.st := by kernel_rfl
theorem f20_res : Tryz.f20.results.toList = [.tmp 2] := by kernel_rfl
theorem f20_nt : Tryz.f20.ntmps = 23 := by kernel_rfl
theorem f20_nm : (Tryz.f20.name == "runtime.NumGoroutine") = false := by kernel_rfl

/-! quill/quillref03.Bare -/
def f21_r0 : List LOp := [
  ⟨some 2, .alloc 27, none⟩]
def f21_r1 : List LOp := [
  ⟨some 3, .move (.tmp 0), none⟩,
  ⟨some 4, .build 27 #[(0, .tmp 3)], none⟩,
  ⟨none, .store 27 (.tmp 2) (.tmp 4), none⟩]
def f21_c : LC := (.seq (.reg f21_r0 [] none) (.seq (.reg f21_r1 [] none) .ret))
theorem f21_lc : Tryz.f21.body.map lc = some f21_c.st := by kernel_rfl
theorem f21_res : Tryz.f21.results.toList = [.cell 2 27] := by kernel_rfl
theorem f21_nt : Tryz.f21.ntmps = 5 := by kernel_rfl
theorem f21_nm : (Tryz.f21.name == "runtime.NumGoroutine") = false := by kernel_rfl

/-! quill/quillref03.Many -/
def f22_r0 : List LOp := [
  ⟨some 1, .box 27 (.tmp 0), none⟩,
  ⟨some 2, .alloc 27, none⟩]
def f22_r1 : List LOp := [
  ⟨some 3, .load 27 (.tmp 1), none⟩,
  ⟨some 4, .buildSlice 22 1 #[(0, .tmp 3)], none⟩,
  ⟨some 5, .build 27 #[(0, .const (.int .u8 6)), (2, .tmp 4)], none⟩,
  ⟨none, .store 27 (.tmp 2) (.tmp 5), none⟩]
def f22_c : LC := (.seq (.reg f22_r0 [] none) (.seq (.reg f22_r1 [] none) .ret))
theorem f22_lc : Tryz.f22.body.map lc = some f22_c.st := by kernel_rfl
theorem f22_res : Tryz.f22.results.toList = [.cell 2 27] := by kernel_rfl
theorem f22_nt : Tryz.f22.ntmps = 6 := by kernel_rfl
theorem f22_nm : (Tryz.f22.name == "runtime.NumGoroutine") = false := by kernel_rfl

/-! quill/quillref08.Seq -/
def f23_r0 : List LOp := [
  ⟨some 2, .box 27 (.tmp 0), none⟩,
  ⟨some 3, .box 27 (.tmp 1), none⟩,
  ⟨some 4, .alloc 27, none⟩]
def f23_r1 : List LOp := [
  ⟨some 5, .fieldAddr 27 (.tmp 2) 0, none⟩,
  ⟨some 6, .load 5 (.tmp 5), none⟩,
  ⟨some 7, .binOp .eql 5 (.tmp 6) (.const (.int .u8 1)) 5, none⟩,
  ⟨some 8, .move (.tmp 7), none⟩,
  ⟨some 9, .fieldAddr 27 (.tmp 3) 0, some (3, false)⟩,
  ⟨some 10, .load 5 (.tmp 9), some (3, false)⟩,
  ⟨some 11, .binOp .eql 5 (.tmp 10) (.const (.int .u8 1)) 5, some (3, false)⟩,
  ⟨some 12, .pick (.tmp 8) (.const (.bool true)) (.tmp 11), none⟩]
def f23_r2 : List LOp := [
  ⟨some 13, .call { callee := .value (.func 21), args := #[.const (.int .u8 1)], argTypes := #[5] }, none⟩,
  ⟨none, .store 27 (.tmp 4) (.tmp 13), none⟩]
def f23_r3 : List LOp := [
  ⟨some 14, .fieldAddr 27 (.tmp 2) 0, none⟩,
  ⟨some 15, .load 5 (.tmp 14), none⟩,
  ⟨some 16, .binOp .eql 5 (.tmp 15) (.const (.int .u8 2)) 5, none⟩]
def f23_r4 : List LOp := [
  ⟨some 17, .load 27 (.tmp 3), none⟩,
  ⟨none, .store 27 (.tmp 4) (.tmp 17), none⟩]
def f23_r5 : List LOp := [
  ⟨some 18, .fieldAddr 27 (.tmp 3) 0, none⟩,
  ⟨some 19, .load 5 (.tmp 18), none⟩,
  ⟨some 20, .binOp .eql 5 (.tmp 19) (.const (.int .u8 2)) 5, none⟩]
def f23_r6 : List LOp := [
  ⟨some 21, .load 27 (.tmp 2), none⟩,
  ⟨none, .store 27 (.tmp 4) (.tmp 21), none⟩]
def f23_r7 : List LOp := [
  ⟨some 22, .fieldAddr 27 (.tmp 2) 0, none⟩,
  ⟨some 23, .load 5 (.tmp 22), none⟩,
  ⟨some 24, .binOp .eql 5 (.tmp 23) (.const (.int .u8 4)) 5, none⟩]
def f23_r8 : List LOp := [
  ⟨some 25, .fieldAddr 27 (.tmp 2) 2, none⟩,
  ⟨some 26, .load 22 (.tmp 25), none⟩,
  ⟨some 27, .indexAddr 22 (.tmp 26) (.const (.int .i64 0)), none⟩,
  ⟨some 28, .load 27 (.tmp 27), none⟩,
  ⟨some 29, .fieldAddr 27 (.tmp 2) 2, none⟩,
  ⟨some 30, .load 22 (.tmp 29), none⟩,
  ⟨some 31, .indexAddr 22 (.tmp 30) (.const (.int .i64 1)), none⟩,
  ⟨some 32, .load 27 (.tmp 31), none⟩,
  ⟨some 33, .load 27 (.tmp 3), none⟩,
  ⟨some 34, .call { callee := .value (.func 23), args := #[.tmp 32, .tmp 33], argTypes := #[27, 27] }, none⟩,
  ⟨some 35, .call { callee := .value (.func 23), args := #[.tmp 28, .tmp 34], argTypes := #[27, 27] }, none⟩,
  ⟨none, .store 27 (.tmp 4) (.tmp 35), none⟩]
def f23_r9 : List LOp := [
  ⟨some 36, .load 27 (.tmp 2), none⟩,
  ⟨some 37, .load 27 (.tmp 3), none⟩,
  ⟨some 38, .call { callee := .value (.func 39), args := #[.const (.int .u8 4), .tmp 36, .tmp 37], argTypes := #[5, 27, 27] }, none⟩,
  ⟨none, .store 27 (.tmp 4) (.tmp 38), none⟩]
def f23_c : LC := (.seq (.reg f23_r0 [] none) (.seq (.seq (.reg f23_r1 [] none) (.cond (.tmp 12) (.seq (.reg f23_r2 [] none) .ret) .skip)) (.seq (.seq (.reg f23_r3 [] none) (.cond (.tmp 16) (.seq (.reg f23_r4 [] none) .ret) .skip)) (.seq (.seq (.reg f23_r5 [] none) (.cond (.tmp 20) (.seq (.reg f23_r6 [] none) .ret) .skip)) (.seq (.seq (.reg f23_r7 [] none) (.cond (.tmp 24) (.seq (.reg f23_r8 [] (some 10)) .ret) .skip)) (.seq (.reg f23_r9 [] none) .ret))))))
theorem f23_lc : Tryz.f23.body.map lc = some f23_c.st := by kernel_rfl
theorem f23_res : Tryz.f23.results.toList = [.cell 4 27] := by kernel_rfl
theorem f23_nt : Tryz.f23.ntmps = 39 := by kernel_rfl
theorem f23_nm : (Tryz.f23.name == "runtime.NumGoroutine") = false := by kernel_rfl

/-! quill/quillref08.Alt -/
def f24_r0 : List LOp := [
  ⟨some 2, .alloc 27, none⟩]
def f24_r1 : List LOp := [
  ⟨some 8, .buildSlice 22 0 #[], none⟩,
  ⟨some 3, .assign (.tmp 8), none⟩]
def f24_r2 : List LOp := [
  ⟨some 9, .move (.tmp 0), none⟩,
  ⟨some 10, .call { callee := .builtin .len, args := #[.tmp 9], argTypes := #[22] }, none⟩,
  ⟨some 11, .move (.const (.int .i64 0)), none⟩]
def f24_r3 : List LOp := [
  ⟨some 12, .binOp .lss 3 (.tmp 11) (.tmp 10) 3, none⟩]
def f24_r4 : List LOp := [
  ⟨some 13, .move (.tmp 11), none⟩,
  ⟨some 4, .assign (.tmp 13), none⟩]
def f24_r5 : List LOp := [
  ⟨some 14, .move (.tmp 3), none⟩,
  ⟨some 15, .move (.tmp 0), none⟩,
  ⟨some 16, .move (.tmp 4), none⟩,
  ⟨some 17, .indexAddr 22 (.tmp 15) (.tmp 16), none⟩,
  ⟨some 18, .load 27 (.tmp 17), none⟩,
  ⟨some 19, .call { callee := .value (.func 40), args := #[.tmp 18], argTypes := #[27] }, none⟩,
  ⟨some 20, .call { callee := .builtin .append, args := #[.tmp 14, .tmp 19], argTypes := #[22, 22] }, none⟩,
  ⟨some 3, .assign (.tmp 20), none⟩]
def f24_r6 : List LOp := [
  ⟨some 21, .binOp .add 3 (.tmp 11) (.const (.int .i64 1)) 3, none⟩,
  ⟨some 11, .move (.tmp 21), none⟩]
def f24_l7 : LC := (.seq (.reg f24_r3 [] none) (.seq (.cond (.tmp 12) .skip (.exit 0)) (.seq (.block 1 (.seq (.reg f24_r4 [] none) (.reg f24_r5 [] none))) (.reg f24_r6 [] none))))
def f24_i7 (t0 t2 t3 t10 t11 : D) : List D := [t0, .any, t2, t3, .any, .any, .any, .any, .any, .any, t10, t11, .any, .any, .any, .any, .any, .any, .any, .any, .any, .any, .any, .any, .any, .any, .any, .any, .any, .any, .any, .any, .any, .any, .any, .any, .any, .any, .any, .any, .any, .any, .any, .any, .any, .any, .any, .any, .any, .any, .any, .any, .any, .any, .any, .any, .any, .any, .any, .any, .any, .any]
def f24_r8 : List LOp := [
  ⟨some 22, .build 25 #[], none⟩,
  ⟨some 5, .alloc 25, none⟩,
  ⟨none, .store 25 (.tmp 5) (.tmp 22), none⟩]
def f24_r9 : List LOp := [
  ⟨some 23, .buildSlice 22 0 #[], none⟩,
  ⟨some 6, .assign (.tmp 23), none⟩]
def f24_r10 : List LOp := [
  ⟨some 24, .move (.tmp 3), none⟩,
  ⟨some 25, .call { callee := .builtin .len, args := #[.tmp 24], argTypes := #[22] }, none⟩,
  ⟨some 26, .move (.const (.int .i64 0)), none⟩]
def f24_r11 : List LOp := [
  ⟨some 27, .binOp .lss 3 (.tmp 26) (.tmp 25) 3, none⟩]
def f24_r12 : List LOp := [
  ⟨some 28, .move (.tmp 26), none⟩,
  ⟨some 7, .assign (.tmp 28), none⟩]
def f24_r13 : List LOp := [
  ⟨some 29, .move (.tmp 3), none⟩,
  ⟨some 30, .move (.tmp 7), none⟩,
  ⟨some 31, .indexAddr 22 (.tmp 29) (.tmp 30), none⟩,
  ⟨some 32, .fieldAddr 27 (.tmp 31) 0, none⟩,
  ⟨some 33, .load 5 (.tmp 32), none⟩,
  ⟨some 34, .binOp .eql 5 (.tmp 33) (.const (.int .u8 3)) 5, none⟩]
def f24_r14 : List LOp := [
  ⟨some 35, .load 25 (.tmp 5), none⟩,
  ⟨some 36, .move (.tmp 3), none⟩,
  ⟨some 37, .move (.tmp 7), none⟩,
  ⟨some 38, .indexAddr 22 (.tmp 36) (.tmp 37), none⟩,
  ⟨some 39, .fieldAddr 27 (.tmp 38) 1, none⟩,
  ⟨some 40, .load 25 (.tmp 39), none⟩,
  ⟨some 41, .call { callee := .value (.func 41), args := #[.tmp 35, .tmp 40], argTypes := #[25, 25] }, none⟩,
  ⟨none, .store 25 (.tmp 5) (.tmp 41), none⟩]
def f24_r15 : List LOp := [
  ⟨some 42, .move (.tmp 6), none⟩,
  ⟨some 43, .move (.tmp 3), none⟩,
  ⟨some 44, .move (.tmp 7), none⟩,
  ⟨some 45, .indexAddr 22 (.tmp 43) (.tmp 44), none⟩,
  ⟨some 46, .load 27 (.tmp 45), none⟩,
  ⟨some 47, .buildSlice 22 1 #[(0, .tmp 46)], none⟩,
  ⟨some 48, .call { callee := .builtin .append, args := #[.tmp 42, .tmp 47], argTypes := #[22, 22] }, none⟩,
  ⟨some 6, .assign (.tmp 48), none⟩]
def f24_r16 : List LOp := [
  ⟨some 49, .binOp .add 3 (.tmp 26) (.const (.int .i64 1)) 3, none⟩,
  ⟨some 26, .move (.tmp 49), none⟩]
def f24_l17 : LC := (.seq (.reg f24_r11 [] none) (.seq (.cond (.tmp 27) .skip (.exit 2)) (.seq (.block 3 (.seq (.reg f24_r12 [] none) (.seq (.reg f24_r13 [] none) (.cond (.tmp 34) (.reg f24_r14 [] (some 6)) (.reg f24_r15 [] none))))) (.reg f24_r16 [] none))))
def f24_i17 (t2 t3 t5 t6 t25 t26 : D) : List D := [.any, .any, t2, t3, .any, t5, t6, .any, .any, .any, .any, .any, .any, .any, .any, .any, .any, .any, .any, .any, .any, .any, .any, .any, .any, t25, t26, .any, .any, .any, .any, .any, .any, .any, .any, .any, .any, .any, .any, .any, .any, .any, .any, .any, .any, .any, .any, .any, .any, .any, .any, .any, .any, .any, .any, .any, .any, .any, .any, .any, .any, .any]
def f24_r18 : List LOp := [
  ⟨some 50, .load 25 (.tmp 5), none⟩,
  ⟨some 51, .build 25 #[], none⟩,
  ⟨some 52, .binOp .neq 25 (.tmp 50) (.tmp 51) 25, none⟩]
def f24_r19 : List LOp := [
  ⟨some 53, .move (.tmp 6), none⟩,
  ⟨some 54, .load 25 (.tmp 5), none⟩,
  ⟨some 55, .call { callee := .value (.func 42), args := #[.tmp 54], argTypes := #[25] }, none⟩,
  ⟨some 56, .buildSlice 22 1 #[(0, .tmp 55)], none⟩,
  ⟨some 57, .call { callee := .builtin .append, args := #[.tmp 53, .tmp 56], argTypes := #[22, 22] }, none⟩,
  ⟨some 6, .assign (.tmp 57), none⟩]
def f24_r20 : List LOp := [
  ⟨some 58, .move (.tmp 6), none⟩,
  ⟨some 59, .call { callee := .value (.func 45), args := #[.tmp 58], argTypes := #[22] }, none⟩,
  ⟨some 60, .call { callee := .value (.func 44), args := #[.tmp 59], argTypes := #[22] }, none⟩,
  ⟨some 61, .call { callee := .value (.func 43), args := #[.const (.int .u8 5), .tmp 60], argTypes := #[5, 22] }, none⟩,
  ⟨none, .store 27 (.tmp 2) (.tmp 61), none⟩]
def f24_c : LC := (.seq (.reg f24_r0 [] none) (.seq (.reg f24_r1 [0] none) (.seq (.seq (.reg f24_r2 [] none) (.block 0 (.loop f24_l7))) (.seq (.reg f24_r8 [] none) (.seq (.reg f24_r9 [0] none) (.seq (.seq (.reg f24_r10 [] none) (.block 2 (.loop f24_l17))) (.seq (.seq (.reg f24_r18 [] none) (.cond (.tmp 52) (.reg f24_r19 [] none) .skip)) (.seq (.reg f24_r20 [] none) .ret))))))))
theorem f24_lc : Tryz.f24.body.map lc = some f24_c.st := by kernel_rfl
theorem f24_res : Tryz.f24.results.toList = [.cell 2 27] := by kernel_rfl
theorem f24_nt : Tryz.f24.ntmps = 62 := by kernel_rfl
theorem f24_nm : (Tryz.f24.name == "runtime.NumGoroutine") = false := by kernel_rfl

/-! quill/norm.all -/
def f25_r0 : List LOp := [
  ⟨some 2, .assign (.const (.slice none 0 0)), none⟩,
  ⟨some 3, .assign (.const (.bool false)), none⟩]
def f25_r1 : List LOp := [
  ⟨some 4, .assign (.const (.slice none 0 0)), none⟩]
def f25_r2 : List LOp := [
  ⟨some 7, .move (.tmp 0), none⟩,
  ⟨some 8, .call { callee := .builtin .len, args := #[.tmp 7], argTypes := #[22] }, none⟩,
  ⟨some 9, .move (.const (.int .i64 0)), none⟩]
def f25_r3 : List LOp := [
  ⟨some 10, .binOp .lss 3 (.tmp 9) (.tmp 8) 3, none⟩]
def f25_r4 : List LOp := [
  ⟨some 11, .indexAddr 22 (.tmp 7) (.tmp 9), none⟩,
  ⟨some 12, .load 27 (.tmp 11), none⟩,
  ⟨some 6, .alloc 27, none⟩,
  ⟨none, .store 27 (.tmp 6) (.tmp 12), none⟩]
def f25_r5 : List LOp := [
  ⟨some 13, .load 27 (.tmp 6), none⟩,
  ⟨some 14, .buildSlice 22 1 #[(0, .tmp 13)], none⟩,
  ⟨some 15, .call { callee := .value (.func 32), args := #[.tmp 14], argTypes := #[22] }, none⟩,
  ⟨some 16, .unOp .not 4 (.tmp 15), none⟩]
def f25_r6 : List LOp := [
  ⟨some 2, .assign (.const (.slice none 0 0)), none⟩,
  ⟨some 3, .assign (.const (.bool false)), none⟩]
def f25_r7 : List LOp := [
  ⟨some 17, .move (.tmp 4), none⟩,
  ⟨some 18, .load 27 (.tmp 6), none⟩,
  ⟨some 19, .call { callee := .value (.func 33), args := #[.tmp 18], argTypes := #[27] }, none⟩,
  ⟨some 20, .buildSlice 22 1 #[(0, .tmp 19)], none⟩,
  ⟨some 21, .call { callee := .builtin .append, args := #[.tmp 17, .tmp 20], argTypes := #[22, 22] }, none⟩,
  ⟨some 4, .assign (.tmp 21), none⟩]
def f25_r8 : List LOp := [
  ⟨some 22, .binOp .add 3 (.tmp 9) (.const (.int .i64 1)) 3, none⟩,
  ⟨some 9, .move (.tmp 22), none⟩]
def f25_l9 : LC := (.seq (.reg f25_r3 [] none) (.seq (.cond (.tmp 10) .skip (.exit 0)) (.seq (.block 1 (.seq (.reg f25_r4 [] none) (.seq (.seq (.reg f25_r5 [] none) (.cond (.tmp 16) (.seq (.reg f25_r6 [] none) .ret) .skip)) (.reg f25_r7 [] none)))) (.reg f25_r8 [] none))))
def f25_i9 (t4 t7 t8 t9 : D) : List D := [.any, .any, .any, .any, t4, .any, .any, t7, t8, t9, .any, .any, .any, .any, .any, .any, .any, .any, .any, .any, .any, .any, .any, .any]
def f25_r10 : List LOp := [
  ⟨some 23, .move (.tmp 4), none⟩,
  ⟨some 2, .assign (.tmp 23), none⟩,
  ⟨some 3, .assign (.const (.bool true)), none⟩]
def f25_c : LC := (.seq (.reg f25_r0 [] none) (.seq (.reg f25_r1 [] none) (.seq (.seq (.reg f25_r2 [] none) (.block 0 (.loop f25_l9))) (.seq (.reg f25_r10 [] none) .ret))))
theorem f25_lc : Tryz.f25.body.map lc = some f25_c.st := by kernel_rfl
theorem f25_res : Tryz.f25.results.toList = [.tmp 2, .tmp 3] := by kernel_rfl
theorem f25_nt : Tryz.f25.ntmps = 24 := by kernel_rfl
theorem f25_nm : (Tryz.f25.name == "runtime.NumGoroutine") = false := by kernel_rfl

/-! quill/rex.Then -/
def f26_r0 : List LOp := [
  ⟨some 2, .alloc 27, none⟩]
def f26_r1 : List LOp := [
  ⟨some 3, .move (.tmp 0), none⟩,
  ⟨some 4, .call { callee := .value (.func 46), args := #[.const (.int .u8 4), .const (.int .u8 2), .tmp 3], argTypes := #[5, 5, 22] }, none⟩,
  ⟨none, .store 27 (.tmp 2) (.tmp 4), none⟩]
def f26_c : LC := (.seq (.reg f26_r0 [] none) (.seq (.reg f26_r1 [] none) .ret))
theorem f26_lc : Tryz.f26.body.map lc = some f26_c.st := by kernel_rfl
theorem f26_res : Tryz.f26.results.toList = [.cell 2 27] := by kernel_rfl
theorem f26_nt : Tryz.f26.ntmps = 5 := by kernel_rfl
theorem f26_nm : (Tryz.f26.name == "runtime.NumGoroutine") = false := by kernel_rfl

/-! slices.Backward[[]quill/api.Re,quill/api.Re] -/
def f27_r0 : List LOp := [
  ⟨some 1, .box 22 (.tmp 0), none⟩,
  ⟨some 2, .assign (.const .nilFunc), none⟩]
def f27_r1 : List LOp := [
  ⟨some 3, .makeFunc (.func 47) #[] #[.tmp 1], none⟩,
  ⟨some 2, .assign (.tmp 3), none⟩]
def f27_c : LC := (.seq (.reg f27_r0 [] none) (.seq (.reg f27_r1 [] none) .ret))
theorem f27_lc : Tryz.f27.body.map lc = some f27_c.st := by kernel_rfl
theorem f27_res : Tryz.f27.results.toList = [.tmp 2] := by kernel_rfl
theorem f27_nt : Tryz.f27.ntmps = 4 := by kernel_rfl
theorem f27_nm : (Tryz.f27.name == "runtime.NumGoroutine") = false := by kernel_rfl

/-! quill/norm.seq -/
def f28_r0 : List LOp := [
  ⟨some 2, .box 27 (.tmp 0), none⟩,
  ⟨some 3, .box 27 (.tmp 1), none⟩,
  ⟨some 4, .alloc 27, none⟩]
def f28_r1 : List LOp := [
  ⟨some 6, .fieldAddr 27 (.tmp 2) 0, none⟩,
  ⟨some 7, .load 5 (.tmp 6), none⟩,
  ⟨some 8, .binOp .eql 5 (.tmp 7) (.const (.int .u8 1)) 5, none⟩,
  ⟨some 9, .move (.tmp 8), none⟩,
  ⟨some 10, .fieldAddr 27 (.tmp 3) 0, some (3, false)⟩,
  ⟨some 11, .load 5 (.tmp 10), some (3, false)⟩,
  ⟨some 12, .binOp .eql 5 (.tmp 11) (.const (.int .u8 1)) 5, some (3, false)⟩,
  ⟨some 13, .pick (.tmp 9) (.const (.bool true)) (.tmp 12), none⟩,
  ⟨some 5, .assign (.tmp 13), none⟩]
def f28_r2 : List LOp := [
  ⟨some 14, .call { callee := .value (.func 48), args := #[.const (.slice none 0 0)], argTypes := #[22] }, none⟩,
  ⟨none, .store 27 (.tmp 4) (.tmp 14), none⟩]
def f28_r3 : List LOp := [
  ⟨some 16, .fieldAddr 27 (.tmp 2) 0, none⟩,
  ⟨some 17, .load 5 (.tmp 16), none⟩,
  ⟨some 18, .binOp .eql 5 (.tmp 17) (.const (.int .u8 2)) 5, none⟩,
  ⟨some 15, .assign (.tmp 18), none⟩]
def f28_r4 : List LOp := [
  ⟨some 19, .load 27 (.tmp 3), none⟩,
  ⟨none, .store 27 (.tmp 4) (.tmp 19), none⟩]
def f28_r5 : List LOp := [
  ⟨some 21, .fieldAddr 27 (.tmp 3) 0, none⟩,
  ⟨some 22, .load 5 (.tmp 21), none⟩,
  ⟨some 23, .binOp .eql 5 (.tmp 22) (.const (.int .u8 2)) 5, none⟩,
  ⟨some 20, .assign (.tmp 23), none⟩]
def f28_r6 : List LOp := [
  ⟨some 24, .load 27 (.tmp 2), none⟩,
  ⟨none, .store 27 (.tmp 4) (.tmp 24), none⟩]
def f28_r7 : List LOp := [
  ⟨some 26, .fieldAddr 27 (.tmp 2) 0, none⟩,
  ⟨some 27, .load 5 (.tmp 26), none⟩,
  ⟨some 28, .binOp .eql 5 (.tmp 27) (.const (.int .u8 4)) 5, none⟩,
  ⟨some 25, .assign (.tmp 28), none⟩]
def f28_r8 : List LOp := [
  ⟨some 29, .fieldAddr 27 (.tmp 2) 2, none⟩,
  ⟨some 30, .load 22 (.tmp 29), none⟩,
  ⟨some 31, .indexAddr 22 (.tmp 30) (.const (.int .i64 0)), none⟩,
  ⟨some 32, .load 27 (.tmp 31), none⟩,
  ⟨some 33, .fieldAddr 27 (.tmp 2) 2, none⟩,
  ⟨some 34, .load 22 (.tmp 33), none⟩,
  ⟨some 35, .indexAddr 22 (.tmp 34) (.const (.int .i64 1)), none⟩,
  ⟨some 36, .load 27 (.tmp 35), none⟩,
  ⟨some 37, .load 27 (.tmp 3), none⟩,
  ⟨some 38, .call { callee := .value (.func 28), args := #[.tmp 36, .tmp 37], argTypes := #[27, 27] }, none⟩,
  ⟨some 39, .call { callee := .value (.func 28), args := #[.tmp 32, .tmp 38], argTypes := #[27, 27] }, none⟩,
  ⟨none, .store 27 (.tmp 4) (.tmp 39), none⟩]
def f28_r9 : List LOp := [
  ⟨some 40, .load 27 (.tmp 2), none⟩,
  ⟨some 41, .load 27 (.tmp 3), none⟩,
  ⟨some 42, .buildSlice 22 2 #[(0, .tmp 40), (1, .tmp 41)], none⟩,
  ⟨some 43, .call { callee := .value (.func 26), args := #[.tmp 42], argTypes := #[22] }, none⟩,
  ⟨none, .store 27 (.tmp 4) (.tmp 43), none⟩]
def f28_c : LC := (.seq (.reg f28_r0 [] none) (.seq (.block 0 (.seq (.reg f28_r1 [] none) (.cond (.tmp 5) (.seq (.reg f28_r2 [] none) .ret) (.seq (.reg f28_r3 [] none) (.cond (.tmp 15) (.seq (.reg f28_r4 [] none) .ret) (.seq (.reg f28_r5 [] none) (.cond (.tmp 20) (.seq (.reg f28_r6 [] none) .ret) (.seq (.reg f28_r7 [] none) (.cond (.tmp 25) (.seq (.reg f28_r8 [] (some 10)) .ret) .skip))))))))) (.seq (.reg f28_r9 [] none) .ret)))
theorem f28_lc : Tryz.f28.body.map lc = some f28_c.st := by kernel_rfl
theorem f28_res : Tryz.f28.results.toList = [.cell 4 27] := by kernel_rfl
theorem f28_nt : Tryz.f28.ntmps = 44 := by kernel_rfl
theorem f28_nm : (Tryz.f28.name == "runtime.NumGoroutine") = false := by kernel_rfl

/-! quill/norm.alt -/
def f29_r0 : List LOp := [
  ⟨some 2, .alloc 27, none⟩]
def f29_r1 : List LOp := [
  ⟨some 3, .alloc 25, none⟩]
def f29_r2 : List LOp := [
  ⟨some 5, .move (.tmp 0), none⟩,
  ⟨some 6, .call { callee := .value (.func 50), args := #[.tmp 5], argTypes := #[22] }, none⟩,
  ⟨some 7, .makeFunc (.func 51) #[] #[.tmp 3], none⟩,
  ⟨some 8, .call { callee := .value (.func 49), args := #[.tmp 6, .tmp 7], argTypes := #[22, 31] }, none⟩,
  ⟨some 4, .assign (.tmp 8), none⟩]
def f29_r3 : List LOp := [
  ⟨some 9, .load 25 (.tmp 3), none⟩,
  ⟨some 10, .build 25 #[], none⟩,
  ⟨some 11, .binOp .neq 25 (.tmp 9) (.tmp 10) 25, none⟩]
def f29_r4 : List LOp := [
  ⟨some 12, .move (.tmp 4), none⟩,
  ⟨some 13, .load 25 (.tmp 3), none⟩,
  ⟨some 14, .call { callee := .value (.func 34), args := #[.tmp 13], argTypes := #[25] }, none⟩,
  ⟨some 15, .buildSlice 22 1 #[(0, .tmp 14)], none⟩,
  ⟨some 16, .call { callee := .builtin .append, args := #[.tmp 12, .tmp 15], argTypes := #[22, 22] }, none⟩,
  ⟨some 4, .assign (.tmp 16), none⟩]
def f29_r5 : List LOp := [
  ⟨some 17, .move (.tmp 4), none⟩,
  ⟨some 18, .call { callee := .value (.func 54), args := #[.tmp 17], argTypes := #[22] }, none⟩,
  ⟨some 19, .call { callee := .value (.func 53), args := #[.tmp 18], argTypes := #[22] }, none⟩,
  ⟨some 20, .call { callee := .value (.func 48), args := #[.tmp 19], argTypes := #[22] }, none⟩,
  ⟨none, .store 27 (.tmp 2) (.tmp 20), none⟩]
def f29_c : LC := (.seq (.reg f29_r0 [] none) (.seq (.reg f29_r1 [] none) (.seq (.reg f29_r2 [] none) (.seq (.seq (.reg f29_r3 [] none) (.cond (.tmp 11) (.reg f29_r4 [] none) .skip)) (.seq (.reg f29_r5 [] none) .ret)))))
theorem f29_lc : Tryz.f29.body.map lc = some f29_c.st := by kernel_rfl
theorem f29_res : Tryz.f29.results.toList = [.cell 2 27] := by kernel_rfl
theorem f29_nt : Tryz.f29.ntmps = 21 := by kernel_rfl
theorem f29_nm : (Tryz.f29.name == "runtime.NumGoroutine") = false := by kernel_rfl

/-! quill/norm.star -/
def f30_r0 : List LOp := [
  ⟨some 1, .box 27 (.tmp 0), none⟩,
  ⟨some 2, .alloc 27, none⟩]
def f30_r1 : List LOp := [
  ⟨some 3, .fieldAddr 27 (.tmp 1) 0, none⟩,
  ⟨some 4, .load 5 (.tmp 3), none⟩]
def f30_r2 : List LOp := [
  ⟨some 6, .binOp .eql 5 (.tmp 4) (.const (.int .u8 1)) 5, none⟩,
  ⟨some 5, .assign (.tmp 6), none⟩]
def f30_r3 : List LOp := [
  ⟨some 7, .binOp .eql 5 (.tmp 4) (.const (.int .u8 2)) 5, none⟩,
  ⟨some 5, .assign (.tmp 7), none⟩]
def f30_r4 : List LOp := [
  ⟨some 8, .call { callee := .value (.func 26), args := #[.const (.slice none 0 0)], argTypes := #[22] }, none⟩,
  ⟨none, .store 27 (.tmp 2) (.tmp 8), none⟩]
def f30_r5 : List LOp := [
  ⟨some 10, .binOp .eql 5 (.tmp 4) (.const (.int .u8 6)) 5, none⟩,
  ⟨some 9, .assign (.tmp 10), none⟩]
def f30_r6 : List LOp := [
  ⟨some 11, .load 27 (.tmp 1), none⟩,
  ⟨none, .store 27 (.tmp 2) (.tmp 11), none⟩]
def f30_r7 : List LOp := [
  ⟨some 12, .load 27 (.tmp 1), none⟩,
  ⟨some 13, .call { callee := .value (.func 55), args := #[.tmp 12], argTypes := #[27] }, none⟩,
  ⟨none, .store 27 (.tmp 2) (.tmp 13), none⟩]
def f30_c : LC := (.seq (.reg f30_r0 [] none) (.seq (.seq (.reg f30_r1 [] none) (.block 0 (.seq (.seq (.reg f30_r2 [] none) (.cond (.tmp 5) .skip (.reg f30_r3 [] none))) (.cond (.tmp 5) (.seq (.reg f30_r4 [] none) .ret) (.seq (.reg f30_r5 [] none) (.cond (.tmp 9) (.seq (.reg f30_r6 [] none) .ret) .skip)))))) (.seq (.reg f30_r7 [] none) .ret)))
theorem f30_lc : Tryz.f30.body.map lc = some f30_c.st := by kernel_rfl
theorem f30_res : Tryz.f30.results.toList = [.cell 2 27] := by kernel_rfl
theorem f30_nt : Tryz.f30.ntmps = 14 := by kernel_rfl
theorem f30_nm : (Tryz.f30.name == "runtime.NumGoroutine") = false := by kernel_rfl

/-! (*quill/read.reader).whole -/
def f31_r0 : List LOp := [
  ⟨some 2, .alloc 27, none⟩,
  ⟨some 3, .alloc 3, none⟩,
  ⟨some 4, .alloc 38, none⟩]
def f31_r1 : List LOp := [
  ⟨some 5, .makeFunc (.func 56) #[] #[.tmp 2, .tmp 3, .tmp 4], none⟩,
  ⟨none, .defer { callee := .value (.tmp 5), args := #[], argTypes := #[] }, none⟩]
def f31_r2 : List LOp := [
  ⟨some 6, .move (.tmp 0), none⟩,
  ⟨some 7, .call { callee := .value (.func 57), args := #[.tmp 6], argTypes := #[53] }, none⟩,
  ⟨none, .store 27 (.tmp 2) (.tmp 7), none⟩]
def f31_r3 : List LOp := [
  ⟨some 8, .move (.tmp 0), none⟩,
  ⟨some 9, .nilCheck (.tmp 8), none⟩,
  ⟨some 10, .fieldAddr 55 (.tmp 9) 1, none⟩,
  ⟨some 11, .load 3 (.tmp 10), none⟩,
  ⟨some 12, .move (.tmp 0), none⟩,
  ⟨some 13, .nilCheck (.tmp 12), none⟩,
  ⟨some 14, .fieldAddr 55 (.tmp 13) 0, none⟩,
  ⟨some 15, .load 9 (.tmp 14), none⟩,
  ⟨some 16, .call { callee := .builtin .len, args := #[.tmp 15], argTypes := #[9] }, none⟩,
  ⟨some 17, .binOp .lss 3 (.tmp 11) (.tmp 16) 3, none⟩]
def f31_r4 : List LOp := [
  ⟨some 18, .move (.tmp 0), none⟩,
  ⟨some 19, .nilCheck (.tmp 18), none⟩,
  ⟨some 20, .fieldAddr 55 (.tmp 19) 1, none⟩,
  ⟨some 21, .load 3 (.tmp 20), none⟩,
  ⟨some 22, .build 69 #[(0, .tmp 21)], none⟩,
  ⟨some 23, .makeInterface 69 (.tmp 22), none⟩,
  ⟨none, .panic (.tmp 23), none⟩]
def f31_r5 : List LOp := [
  ⟨some 24, .load 27 (.tmp 2), none⟩,
  ⟨none, .store 27 (.tmp 2) (.tmp 24), none⟩,
  ⟨none, .store 3 (.tmp 3) (.const (.int .i64 0)), none⟩,
  ⟨none, .store 38 (.tmp 4) (.const (.int .i64 0)), none⟩]
def f31_c : LC := (.seq (.reg f31_r0 [] none) (.seq (.reg f31_r1 [] none) (.seq (.reg f31_r2 [] none) (.seq (.seq (.reg f31_r3 [] (some 9)) (.cond (.tmp 17) (.reg f31_r4 [] none) .skip)) (.seq (.reg f31_r5 [] none) .ret)))))
theorem f31_lc : Tryz.f31.body.map lc = some f31_c.st := by kernel_rfl
theorem f31_res : Tryz.f31.results.toList = [.cell 2 27, .cell 3 3, .cell 4 38] := by kernel_rfl
theorem f31_nt : Tryz.f31.ntmps = 25 := by kernel_rfl
theorem f31_nm : (Tryz.f31.name == "runtime.NumGoroutine") = false := by kernel_rfl

/-! quill/rex.May -/
def f32_r0 : List LOp := [
  ⟨some 2, .assign (.const (.bool false)), none⟩]
def f32_r1 : List LOp := [
  ⟨some 3, .move (.tmp 0), none⟩,
  ⟨some 4, .call { callee := .value (.func 36), args := #[.tmp 3, .func 58], argTypes := #[22, 31] }, none⟩,
  ⟨some 5, .unOp .not 4 (.tmp 4), none⟩,
  ⟨some 2, .assign (.tmp 5), none⟩]
def f32_c : LC := (.seq (.reg f32_r0 [] none) (.seq (.reg f32_r1 [] none) .ret))
theorem f32_lc : Tryz.f32.body.map lc = some f32_c.st := by kernel_rfl
theorem f32_res : Tryz.f32.results.toList = [.tmp 2] := by kernel_rfl
theorem f32_nt : Tryz.f32.ntmps = 6 := by kernel_rfl
theorem f32_nm : (Tryz.f32.name == "runtime.NumGoroutine") = false := by kernel_rfl

/-! quill/norm.norm -/
def f33_r0 : List LOp := [
  ⟨some 1, .box 27 (.tmp 0), none⟩,
  ⟨some 2, .alloc 27, none⟩]
def f33_r1 : List LOp := [
  ⟨some 3, .fieldAddr 27 (.tmp 1) 0, none⟩,
  ⟨some 4, .load 5 (.tmp 3), none⟩]
def f33_r2 : List LOp := [
  ⟨some 6, .binOp .eql 5 (.tmp 4) (.const (.int .u8 4)) 5, none⟩,
  ⟨some 5, .assign (.tmp 6), none⟩]
def f33_r3 : List LOp := [
  ⟨some 7, .fieldAddr 27 (.tmp 1) 2, none⟩,
  ⟨some 8, .load 22 (.tmp 7), none⟩,
  ⟨some 9, .indexAddr 22 (.tmp 8) (.const (.int .i64 0)), none⟩,
  ⟨some 10, .load 27 (.tmp 9), none⟩,
  ⟨some 11, .call { callee := .value (.func 33), args := #[.tmp 10], argTypes := #[27] }, none⟩,
  ⟨some 12, .fieldAddr 27 (.tmp 1) 2, none⟩,
  ⟨some 13, .load 22 (.tmp 12), none⟩,
  ⟨some 14, .indexAddr 22 (.tmp 13) (.const (.int .i64 1)), none⟩,
  ⟨some 15, .load 27 (.tmp 14), none⟩,
  ⟨some 16, .call { callee := .value (.func 33), args := #[.tmp 15], argTypes := #[27] }, none⟩,
  ⟨some 17, .call { callee := .value (.func 28), args := #[.tmp 11, .tmp 16], argTypes := #[27, 27] }, none⟩,
  ⟨none, .store 27 (.tmp 2) (.tmp 17), none⟩]
def f33_r4 : List LOp := [
  ⟨some 19, .binOp .eql 5 (.tmp 4) (.const (.int .u8 5)) 5, none⟩,
  ⟨some 18, .assign (.tmp 19), none⟩]
def f33_r5 : List LOp := [
  ⟨some 20, .fieldAddr 27 (.tmp 1) 2, none⟩,
  ⟨some 21, .load 22 (.tmp 20), none⟩,
  ⟨some 22, .indexAddr 22 (.tmp 21) (.const (.int .i64 0)), none⟩,
  ⟨some 23, .load 27 (.tmp 22), none⟩,
  ⟨some 24, .call { callee := .value (.func 33), args := #[.tmp 23], argTypes := #[27] }, none⟩,
  ⟨some 25, .fieldAddr 27 (.tmp 1) 2, none⟩,
  ⟨some 26, .load 22 (.tmp 25), none⟩,
  ⟨some 27, .indexAddr 22 (.tmp 26) (.const (.int .i64 1)), none⟩,
  ⟨some 28, .load 27 (.tmp 27), none⟩,
  ⟨some 29, .call { callee := .value (.func 33), args := #[.tmp 28], argTypes := #[27] }, none⟩,
  ⟨some 30, .buildSlice 22 2 #[(0, .tmp 24), (1, .tmp 29)], none⟩,
  ⟨some 31, .call { callee := .value (.func 29), args := #[.tmp 30], argTypes := #[22] }, none⟩,
  ⟨none, .store 27 (.tmp 2) (.tmp 31), none⟩]
def f33_r6 : List LOp := [
  ⟨some 33, .binOp .eql 5 (.tmp 4) (.const (.int .u8 6)) 5, none⟩,
  ⟨some 32, .assign (.tmp 33), none⟩]
def f33_r7 : List LOp := [
  ⟨some 34, .fieldAddr 27 (.tmp 1) 2, none⟩,
  ⟨some 35, .load 22 (.tmp 34), none⟩,
  ⟨some 36, .indexAddr 22 (.tmp 35) (.const (.int .i64 0)), none⟩,
  ⟨some 37, .load 27 (.tmp 36), none⟩,
  ⟨some 38, .call { callee := .value (.func 33), args := #[.tmp 37], argTypes := #[27] }, none⟩,
  ⟨some 39, .call { callee := .value (.func 30), args := #[.tmp 38], argTypes := #[27] }, none⟩,
  ⟨none, .store 27 (.tmp 2) (.tmp 39), none⟩]
def f33_r8 : List LOp := [
  ⟨some 40, .load 27 (.tmp 1), none⟩,
  ⟨none, .store 27 (.tmp 2) (.tmp 40), none⟩]
def f33_c : LC := (.seq (.reg f33_r0 [] none) (.seq (.seq (.reg f33_r1 [] none) (.block 0 (.seq (.reg f33_r2 [] none) (.cond (.tmp 5) (.seq (.reg f33_r3 [] (some 9)) .ret) (.seq (.reg f33_r4 [] none) (.cond (.tmp 18) (.seq (.reg f33_r5 [] (some 9)) .ret) (.seq (.reg f33_r6 [] none) (.cond (.tmp 32) (.seq (.reg f33_r7 [] none) .ret) .skip)))))))) (.seq (.reg f33_r8 [] none) .ret)))
theorem f33_lc : Tryz.f33.body.map lc = some f33_c.st := by kernel_rfl
theorem f33_res : Tryz.f33.results.toList = [.cell 2 27] := by kernel_rfl
theorem f33_nt : Tryz.f33.ntmps = 41 := by kernel_rfl
theorem f33_nm : (Tryz.f33.name == "runtime.NumGoroutine") = false := by kernel_rfl

/-! quill/rex.Of -/
def f34_r0 : List LOp := [
  ⟨some 1, .box 25 (.tmp 0), none⟩,
  ⟨some 2, .alloc 27, none⟩]
def f34_r1 : List LOp := [
  ⟨some 3, .load 25 (.tmp 1), none⟩,
  ⟨some 4, .build 25 #[], none⟩,
  ⟨some 5, .binOp .eql 25 (.tmp 3) (.tmp 4) 25, none⟩]
def f34_r2 : List LOp := [
  ⟨some 6, .build 27 #[(0, .const (.int .u8 1))], none⟩,
  ⟨none, .store 27 (.tmp 2) (.tmp 6), none⟩]
def f34_r3 : List LOp := [
  ⟨some 7, .load 25 (.tmp 1), none⟩,
  ⟨some 8, .build 27 #[(0, .const (.int .u8 3)), (1, .tmp 7)], none⟩,
  ⟨none, .store 27 (.tmp 2) (.tmp 8), none⟩]
def f34_c : LC := (.seq (.reg f34_r0 [] none) (.seq (.seq (.reg f34_r1 [] none) (.cond (.tmp 5) (.seq (.reg f34_r2 [] none) .ret) .skip)) (.seq (.reg f34_r3 [] none) .ret)))
theorem f34_lc : Tryz.f34.body.map lc = some f34_c.st := by kernel_rfl
theorem f34_res : Tryz.f34.results.toList = [.cell 2 27] := by kernel_rfl
theorem f34_nt : Tryz.f34.ntmps = 9 := by kernel_rfl
theorem f34_nm : (Tryz.f34.name == "runtime.NumGoroutine") = false := by kernel_rfl

/-! quill/set.Of -/
def f35_r0 : List LOp := [
  ⟨some 2, .alloc 25, none⟩]
def f35_r1 : List LOp := [
  ⟨some 3, .alloc 25, none⟩]
def f35_r2 : List LOp := [
  ⟨some 6, .move (.tmp 0), none⟩,
  ⟨some 7, .call { callee := .builtin .len, args := #[.tmp 6], argTypes := #[72] }, none⟩,
  ⟨some 8, .move (.const (.int .i64 0)), none⟩]
def f35_r3 : List LOp := [
  ⟨some 9, .binOp .lss 3 (.tmp 8) (.tmp 7) 3, none⟩]
def f35_r4 : List LOp := [
  ⟨some 10, .indexAddr 72 (.tmp 6) (.tmp 8), none⟩,
  ⟨some 11, .load 5 (.tmp 10), none⟩,
  ⟨some 5, .assign (.tmp 11), none⟩]
def f35_r5 : List LOp := [
  ⟨some 12, .move (.tmp 5), none⟩,
  ⟨some 13, .binOp .quo 5 (.tmp 12) (.const (.int .u8 64)) 5, none⟩,
  ⟨some 14, .indexAddr 25 (.tmp 3) (.tmp 13), none⟩,
  ⟨some 15, .load 23 (.tmp 14), none⟩,
  ⟨some 16, .move (.tmp 5), none⟩,
  ⟨some 17, .binOp .rem 5 (.tmp 16) (.const (.int .u8 64)) 5, none⟩,
  ⟨some 18, .binOp .shl 23 (.const (.int .u64 1)) (.tmp 17) 5, none⟩,
  ⟨some 19, .binOp .or 23 (.tmp 15) (.tmp 18) 23, none⟩,
  ⟨some 20, .indexAddr 25 (.tmp 3) (.tmp 13), none⟩,
  ⟨none, .store 23 (.tmp 20) (.tmp 19), none⟩]
def f35_r6 : List LOp := [
  ⟨some 21, .binOp .add 3 (.tmp 8) (.const (.int .i64 1)) 3, none⟩,
  ⟨some 8, .move (.tmp 21), none⟩]
def f35_l7 : LC := (.seq (.reg f35_r3 [] none) (.seq (.cond (.tmp 9) .skip (.exit 0)) (.seq (.block 1 (.seq (.reg f35_r4 [] none) (.reg f35_r5 [] none))) (.reg f35_r6 [] none))))
def f35_i7 (t2 t3 t6 t7 t8 : D) : List D := [.any, .any, t2, t3, .any, .any, t6, t7, t8, .any, .any, .any, .any, .any, .any, .any, .any, .any, .any, .any, .any, .any, .any]
def f35_r8 : List LOp := [
  ⟨some 22, .load 25 (.tmp 3), none⟩,
  ⟨none, .store 25 (.tmp 2) (.tmp 22), none⟩]
def f35_c : LC := (.seq (.reg f35_r0 [] none) (.seq (.reg f35_r1 [] none) (.seq (.seq (.reg f35_r2 [] none) (.block 0 (.loop f35_l7))) (.seq (.reg f35_r8 [] none) .ret))))
theorem f35_lc : Tryz.f35.body.map lc = some f35_c.st := by kernel_rfl
theorem f35_res : Tryz.f35.results.toList = [.cell 2 25] := by kernel_rfl
theorem f35_nt : Tryz.f35.ntmps = 23 := by kernel_rfl
theorem f35_nm : (Tryz.f35.name == "runtime.NumGoroutine") = false := by kernel_rfl

/-! slices.ContainsFunc[[]quill/api.Re,quill/api.Re] -/
def f36_r0 : List LOp := [
  ⟨some 4, .assign (.const (.bool false)), none⟩]
def f36_r1 : List LOp := [
  ⟨some 5, .move (.tmp 0), none⟩,
  ⟨some 6, .move (.tmp 1), none⟩,
  ⟨some 7, .call { callee := .value (.func 61), args := #[.tmp 5, .tmp 6], argTypes := #[22, 31] }, none⟩,
  ⟨some 8, .binOp .geq 3 (.tmp 7) (.const (.int .i64 0)) 3, none⟩,
  ⟨some 4, .assign (.tmp 8), none⟩]
def f36_c : LC := (.seq (.reg f36_r0 [] none) (.seq (.reg f36_r1 [] none) .ret))
theorem f36_lc : Tryz.f36.body.map lc = some f36_c.st := by kernel_rfl
theorem f36_res : Tryz.f36.results.toList = [.tmp 4] := by kernel_rfl
theorem f36_nt : Tryz.f36.ntmps = 9 := by kernel_rfl
theorem f36_nm : (Tryz.f36.name == "runtime.NumGoroutine") = false := by kernel_rfl

/-! quill/norm.Is$1 -/
def f37_r0 : List LOp := [
  ⟨some 1, .box 27 (.tmp 0), none⟩,
  ⟨some 2, .assign (.const (.bool false)), none⟩]
def f37_r1 : List LOp := [
  ⟨some 3, .load 27 (.tmp 1), none⟩,
  ⟨some 4, .buildSlice 22 1 #[(0, .tmp 3)], none⟩,
  ⟨some 5, .call { callee := .value (.func 32), args := #[.tmp 4], argTypes := #[22] }, none⟩,
  ⟨some 6, .unOp .not 4 (.tmp 5), none⟩,
  ⟨some 7, .move (.tmp 6), none⟩,
  ⟨some 8, .load 27 (.tmp 1), some (4, false)⟩,
  ⟨some 9, .call { callee := .value (.func 33), args := #[.tmp 8], argTypes := #[27] }, some (4, false)⟩,
  ⟨some 10, .load 27 (.tmp 1), some (4, false)⟩,
  ⟨some 11, .call { callee := .value (.func 38), args := #[.tmp 9, .tmp 10], argTypes := #[27, 27] }, some (4, false)⟩,
  ⟨some 12, .unOp .not 4 (.tmp 11), some (4, false)⟩,
  ⟨some 13, .pick (.tmp 7) (.const (.bool true)) (.tmp 12), none⟩,
  ⟨some 2, .assign (.tmp 13), none⟩]
def f37_c : LC := (.seq (.reg f37_r0 [] none) (.seq (.reg f37_r1 [] (some 8)) .ret))
theorem f37_lc : Tryz.f37.body.map lc = some f37_c.st := by kernel_rfl
theorem f37_res : Tryz.f37.results.toList = [.tmp 2] := by kernel_rfl
theorem f37_nt : Tryz.f37.ntmps = 14 := by kernel_rfl
theorem f37_nm : (Tryz.f37.name == "runtime.NumGoroutine") = false := by kernel_rfl

/-! quill/rex.Same -/
def f38_r0 : List LOp := [
  ⟨some 2, .box 27 (.tmp 0), none⟩,
  ⟨some 3, .box 27 (.tmp 1), none⟩,
  ⟨some 4, .assign (.const (.bool false)), none⟩]
def f38_r1 : List LOp := [
  ⟨some 5, .fieldAddr 27 (.tmp 2) 0, none⟩,
  ⟨some 6, .load 5 (.tmp 5), none⟩,
  ⟨some 7, .fieldAddr 27 (.tmp 3) 0, none⟩,
  ⟨some 8, .load 5 (.tmp 7), none⟩,
  ⟨some 9, .binOp .eql 5 (.tmp 6) (.tmp 8) 5, none⟩,
  ⟨some 10, .move (.tmp 9), none⟩,
  ⟨some 11, .fieldAddr 27 (.tmp 2) 1, some (5, true)⟩,
  ⟨some 12, .load 25 (.tmp 11), some (5, true)⟩,
  ⟨some 13, .fieldAddr 27 (.tmp 3) 1, some (5, true)⟩,
  ⟨some 14, .load 25 (.tmp 13), some (5, true)⟩,
  ⟨some 15, .binOp .eql 25 (.tmp 12) (.tmp 14) 25, some (5, true)⟩,
  ⟨some 16, .pick (.tmp 10) (.tmp 15) (.const (.bool false)), none⟩,
  ⟨some 17, .move (.tmp 16), none⟩,
  ⟨some 18, .fieldAddr 27 (.tmp 2) 2, some (12, true)⟩,
  ⟨some 19, .load 22 (.tmp 18), some (12, true)⟩,
  ⟨some 20, .fieldAddr 27 (.tmp 3) 2, some (12, true)⟩,
  ⟨some 21, .load 22 (.tmp 20), some (12, true)⟩,
  ⟨some 22, .call { callee := .value (.func 62), args := #[.tmp 19, .tmp 21, .func 38], argTypes := #[22, 22, 33] }, some (12, true)⟩,
  ⟨some 23, .pick (.tmp 17) (.tmp 22) (.const (.bool false)), none⟩,
  ⟨some 4, .assign (.tmp 23), none⟩]
def f38_c : LC := (.seq (.reg f38_r0 [] none) (.seq (.reg f38_r1 [] none) .ret))
theorem f38_lc : Tryz.f38.body.map lc = some f38_c.st := by kernel_rfl
theorem f38_res : Tryz.f38.results.toList = [.tmp 4] := by kernel_rfl
theorem f38_nt : Tryz.f38.ntmps = 24 := by kernel_rfl
theorem f38_nm : (Tryz.f38.name == "runtime.NumGoroutine") = false := by kernel_rfl

/-! quill/quillref03.Two -/
def f39_r0 : List LOp := [
  ⟨some 4, .box 27 (.tmp 1), none⟩,
  ⟨some 5, .box 27 (.tmp 2), none⟩,
  ⟨some 6, .alloc 27, none⟩]
def f39_r1 : List LOp := [
  ⟨some 7, .move (.tmp 0), none⟩,
  ⟨some 8, .load 27 (.tmp 4), none⟩,
  ⟨some 9, .load 27 (.tmp 5), none⟩,
  ⟨some 10, .buildSlice 22 2 #[(0, .tmp 8), (1, .tmp 9)], none⟩,
  ⟨some 11, .build 27 #[(0, .tmp 7), (2, .tmp 10)], none⟩,
  ⟨none, .store 27 (.tmp 6) (.tmp 11), none⟩]
def f39_c : LC := (.seq (.reg f39_r0 [] none) (.seq (.reg f39_r1 [] none) .ret))
theorem f39_lc : Tryz.f39.body.map lc = some f39_c.st := by kernel_rfl
theorem f39_res : Tryz.f39.results.toList = [.cell 6 27] := by kernel_rfl
theorem f39_nt : Tryz.f39.ntmps = 12 := by kernel_rfl
theorem f39_nm : (Tryz.f39.name == "runtime.NumGoroutine") = false := by kernel_rfl

/-! quill/quillref08.flat -/
def f40_r0 : List LOp := [
  ⟨some 1, .box 27 (.tmp 0), none⟩,
  ⟨some 2, .assign (.const (.slice none 0 0)), none⟩]
def f40_r1 : List LOp := [
  ⟨some 3, .fieldAddr 27 (.tmp 1) 0, none⟩,
  ⟨some 4, .load 5 (.tmp 3), none⟩,
  ⟨some 5, .binOp .eql 5 (.tmp 4) (.const (.int .u8 1)) 5, none⟩]
def f40_r2 : List LOp := [
  ⟨some 6, .buildSlice 22 0 #[], none⟩,
  ⟨some 2, .assign (.tmp 6), none⟩]
def f40_r3 : List LOp := [
  ⟨some 7, .fieldAddr 27 (.tmp 1) 0, none⟩,
  ⟨some 8, .load 5 (.tmp 7), none⟩,
  ⟨some 9, .binOp .eql 5 (.tmp 8) (.const (.int .u8 5)) 5, none⟩]
def f40_r4 : List LOp := [
  ⟨some 10, .fieldAddr 27 (.tmp 1) 2, none⟩,
  ⟨some 11, .load 22 (.tmp 10), none⟩,
  ⟨some 12, .indexAddr 22 (.tmp 11) (.const (.int .i64 0)), none⟩,
  ⟨some 13, .load 27 (.tmp 12), none⟩,
  ⟨some 14, .call { callee := .value (.func 40), args := #[.tmp 13], argTypes := #[27] }, none⟩,
  ⟨some 15, .fieldAddr 27 (.tmp 1) 2, none⟩,
  ⟨some 16, .load 22 (.tmp 15), none⟩,
  ⟨some 17, .indexAddr 22 (.tmp 16) (.const (.int .i64 1)), none⟩,
  ⟨some 18, .load 27 (.tmp 17), none⟩,
  ⟨some 19, .call { callee := .value (.func 40), args := #[.tmp 18], argTypes := #[27] }, none⟩,
  ⟨some 20, .call { callee := .builtin .append, args := #[.tmp 14, .tmp 19], argTypes := #[22, 22] }, none⟩,
  ⟨some 2, .assign (.tmp 20), none⟩]
def f40_r5 : List LOp := [
  ⟨some 21, .load 27 (.tmp 1), none⟩,
  ⟨some 22, .buildSlice 22 1 #[(0, .tmp 21)], none⟩,
  ⟨some 2, .assign (.tmp 22), none⟩]
def f40_c : LC := (.seq (.reg f40_r0 [] none) (.seq (.seq (.reg f40_r1 [] none) (.cond (.tmp 5) (.seq (.reg f40_r2 [0] none) .ret) .skip)) (.seq (.seq (.reg f40_r3 [] none) (.cond (.tmp 9) (.seq (.reg f40_r4 [] (some 9)) .ret) .skip)) (.seq (.reg f40_r5 [1] none) .ret))))
theorem f40_lc : Tryz.f40.body.map lc = some f40_c.st := by kernel_rfl
theorem f40_res : Tryz.f40.results.toList = [.tmp 2] := by kernel_rfl
theorem f40_nt : Tryz.f40.ntmps = 23 := by kernel_rfl
theorem f40_nm : (Tryz.f40.name == "runtime.NumGoroutine") = false := by kernel_rfl

/-! quill/quillref02.Join -/
def f41_r0 : List LOp := [
  ⟨some 2, .box 25 (.tmp 0), none⟩,
  ⟨some 3, .box 25 (.tmp 1), none⟩,
  ⟨some 4, .alloc 25, none⟩]
def f41_r1 : List LOp := [
  ⟨some 7, .load 25 (.tmp 2), none⟩,
  ⟨some 5, .alloc 25, none⟩,
  ⟨none, .store 25 (.tmp 5) (.tmp 7), none⟩]
def f41_r2 : List LOp := [
  ⟨some 6, .assign (.const (.int .i64 0)), none⟩]
def f41_r3 : List LOp := [
  ⟨some 8, .move (.tmp 6), none⟩,
  ⟨some 9, .binOp .lss 3 (.tmp 8) (.const (.int .i64 256)) 3, none⟩]
def f41_r4 : List LOp := [
  ⟨some 12, .load 25 (.tmp 3), none⟩,
  ⟨some 13, .move (.tmp 6), none⟩,
  ⟨some 14, .call { callee := .value (.func 63), args := #[.tmp 12, .tmp 13], argTypes := #[25, 3] }, none⟩]
def f41_r5 : List LOp := [
  ⟨some 15, .load 25 (.tmp 5), none⟩,
  ⟨some 16, .move (.tmp 6), none⟩,
  ⟨some 17, .call { callee := .value (.func 64), args := #[.tmp 15, .tmp 16], argTypes := #[25, 3] }, none⟩,
  ⟨none, .store 25 (.tmp 5) (.tmp 17), none⟩]
def f41_r6 : List LOp := [
  ⟨some 10, .move (.tmp 6), none⟩,
  ⟨some 11, .binOp .add 3 (.tmp 10) (.const (.int .i64 1)) 3, none⟩,
  ⟨some 6, .assign (.tmp 11), none⟩]
def f41_l7 : LC := (.seq (.seq (.reg f41_r3 [] none) (.cond (.tmp 9) .skip (.exit 0))) (.seq (.block 1 (.seq (.reg f41_r4 [] none) (.cond (.tmp 14) (.reg f41_r5 [] none) .skip))) (.reg f41_r6 [] none)))
def f41_i7 (t3 t4 t5 t6 : D) : List D := [.any, .any, .any, t3, t4, t5, t6, .any, .any, .any, .any, .any, .any, .any, .any, .any, .any, .any, .any]
def f41_r8 : List LOp := [
  ⟨some 18, .load 25 (.tmp 5), none⟩,
  ⟨none, .store 25 (.tmp 4) (.tmp 18), none⟩]
def f41_c : LC := (.seq (.reg f41_r0 [] none) (.seq (.reg f41_r1 [] none) (.seq (.seq (.reg f41_r2 [] none) (.block 0 (.loop f41_l7))) (.seq (.reg f41_r8 [] none) .ret))))
theorem f41_lc : Tryz.f41.body.map lc = some f41_c.st := by kernel_rfl
theorem f41_res : Tryz.f41.results.toList = [.cell 4 25] := by kernel_rfl
theorem f41_nt : Tryz.f41.ntmps = 19 := by kernel_rfl
theorem f41_nm : (Tryz.f41.name == "runtime.NumGoroutine") = false := by kernel_rfl

/-! quill/quillref03.Of -/
def f42_r0 : List LOp := [
  ⟨some 1, .box 25 (.tmp 0), none⟩,
  ⟨some 2, .alloc 27, none⟩]
def f42_r1 : List LOp := [
  ⟨some 3, .load 25 (.tmp 1), none⟩,
  ⟨some 4, .build 25 #[], none⟩,
  ⟨some 5, .binOp .eql 25 (.tmp 3) (.tmp 4) 25, none⟩]
def f42_r2 : List LOp := [
  ⟨some 6, .call { callee := .value (.func 21), args := #[.const (.int .u8 1)], argTypes := #[5] }, none⟩,
  ⟨none, .store 27 (.tmp 2) (.tmp 6), none⟩]
def f42_r3 : List LOp := [
  ⟨some 7, .load 25 (.tmp 1), none⟩,
  ⟨some 8, .build 27 #[(0, .const (.int .u8 3)), (1, .tmp 7)], none⟩,
  ⟨none, .store 27 (.tmp 2) (.tmp 8), none⟩]
def f42_c : LC := (.seq (.reg f42_r0 [] none) (.seq (.seq (.reg f42_r1 [] none) (.cond (.tmp 5) (.seq (.reg f42_r2 [] none) .ret) .skip)) (.seq (.reg f42_r3 [] none) .ret)))
theorem f42_lc : Tryz.f42.body.map lc = some f42_c.st := by kernel_rfl
theorem f42_res : Tryz.f42.results.toList = [.cell 2 27] := by kernel_rfl
theorem f42_nt : Tryz.f42.ntmps = 9 := by kernel_rfl
theorem f42_nm : (Tryz.f42.name == "runtime.NumGoroutine") = false := by kernel_rfl

/-! quill/quillref03.Fold -/
def f43_r0 : List LOp := [
  ⟨some 4, .alloc 27, none⟩]
def f43_r1 : List LOp := [
  ⟨some 5, .move (.tmp 1), none⟩,
  ⟨some 6, .call { callee := .builtin .len, args := #[.tmp 5], argTypes := #[22] }, none⟩,
  ⟨some 7, .binOp .eql 3 (.tmp 6) (.const (.int .i64 0)) 3, none⟩]
def f43_r2 : List LOp := [
  ⟨some 8, .move (.tmp 0), none⟩,
  ⟨some 9, .binOp .eql 5 (.tmp 8) (.const (.int .u8 4)) 5, none⟩]
def f43_r3 : List LOp := [
  ⟨some 10, .call { callee := .value (.func 21), args := #[.const (.int .u8 2)], argTypes := #[5] }, none⟩,
  ⟨none, .store 27 (.tmp 4) (.tmp 10), none⟩]
def f43_r4 : List LOp := [
  ⟨some 11, .call { callee := .value (.func 21), args := #[.const (.int .u8 1)], argTypes := #[5] }, none⟩,
  ⟨none, .store 27 (.tmp 4) (.tmp 11), none⟩]
def f43_r5 : List LOp := [
  ⟨some 12, .move (.tmp 1), none⟩,
  ⟨some 13, .call { callee := .builtin .len, args := #[.tmp 12], argTypes := #[22] }, none⟩,
  ⟨some 14, .binOp .eql 3 (.tmp 13) (.const (.int .i64 1)) 3, none⟩]
def f43_r6 : List LOp := [
  ⟨some 15, .move (.tmp 1), none⟩,
  ⟨some 16, .indexAddr 22 (.tmp 15) (.const (.int .i64 0)), none⟩,
  ⟨some 17, .load 27 (.tmp 16), none⟩,
  ⟨none, .store 27 (.tmp 4) (.tmp 17), none⟩]
def f43_r7 : List LOp := [
  ⟨some 18, .move (.tmp 0), none⟩,
  ⟨some 19, .move (.tmp 1), none⟩,
  ⟨some 20, .indexAddr 22 (.tmp 19) (.const (.int .i64 0)), none⟩,
  ⟨some 21, .load 27 (.tmp 20), none⟩,
  ⟨some 22, .move (.tmp 0), none⟩,
  ⟨some 23, .move (.tmp 1), none⟩,
  ⟨some 24, .slice 22 (.tmp 23) (some (.const (.int .i64 1))) none none, none⟩,
  ⟨some 25, .call { callee := .value (.func 43), args := #[.tmp 22, .tmp 24], argTypes := #[5, 22] }, none⟩,
  ⟨some 26, .call { callee := .value (.func 39), args := #[.tmp 18, .tmp 21, .tmp 25], argTypes := #[5, 27, 27] }, none⟩,
  ⟨none, .store 27 (.tmp 4) (.tmp 26), none⟩]
def f43_c : LC := (.seq (.reg f43_r0 [] none) (.seq (.seq (.reg f43_r1 [] none) (.cond (.tmp 7) (.seq (.seq (.reg f43_r2 [] none) (.cond (.tmp 9) (.seq (.reg f43_r3 [] none) .ret) .skip)) (.seq (.reg f43_r4 [] none) .ret)) .skip)) (.seq (.seq (.reg f43_r5 [] none) (.cond (.tmp 14) (.seq (.reg f43_r6 [] none) .ret) .skip)) (.seq (.reg f43_r7 [] (some 8)) .ret))))
theorem f43_lc : Tryz.f43.body.map lc = some f43_c.st := by kernel_rfl
theorem f43_res : Tryz.f43.results.toList = [.cell 4 27] := by kernel_rfl
theorem f43_nt : Tryz.f43.ntmps = 27 := by kernel_rfl
theorem f43_nm : (Tryz.f43.name == "runtime.NumGoroutine") = false := by kernel_rfl

/-! quill/quillref04.Once -/
def f44_r0 : List LOp := [
  ⟨some 2, .assign (.const (.slice none 0 0)), none⟩]
def f44_r1 : List LOp := [
  ⟨some 5, .buildSlice 22 0 #[], none⟩,
  ⟨some 3, .assign (.tmp 5), none⟩]
def f44_r2 : List LOp := [
  ⟨some 6, .move (.tmp 0), none⟩,
  ⟨some 7, .call { callee := .builtin .len, args := #[.tmp 6], argTypes := #[22] }, none⟩,
  ⟨some 8, .move (.const (.int .i64 0)), none⟩]
def f44_r3 : List LOp := [
  ⟨some 9, .binOp .lss 3 (.tmp 8) (.tmp 7) 3, none⟩]
def f44_r4 : List LOp := [
  ⟨some 10, .move (.tmp 8), none⟩,
  ⟨some 4, .assign (.tmp 10), none⟩]
def f44_r5 : List LOp := [
  ⟨some 11, .move (.tmp 3), none⟩,
  ⟨some 12, .move (.tmp 0), none⟩,
  ⟨some 13, .move (.tmp 4), none⟩,
  ⟨some 14, .indexAddr 22 (.tmp 12) (.tmp 13), none⟩,
  ⟨some 15, .load 27 (.tmp 14), none⟩,
  ⟨some 16, .call { callee := .value (.func 65), args := #[.tmp 11, .tmp 15], argTypes := #[22, 27] }, none⟩,
  ⟨some 17, .unOp .not 4 (.tmp 16), none⟩]
def f44_r6 : List LOp := [
  ⟨some 18, .move (.tmp 3), none⟩,
  ⟨some 19, .move (.tmp 0), none⟩,
  ⟨some 20, .move (.tmp 4), none⟩,
  ⟨some 21, .indexAddr 22 (.tmp 19) (.tmp 20), none⟩,
  ⟨some 22, .load 27 (.tmp 21), none⟩,
  ⟨some 23, .buildSlice 22 1 #[(0, .tmp 22)], none⟩,
  ⟨some 24, .call { callee := .builtin .append, args := #[.tmp 18, .tmp 23], argTypes := #[22, 22] }, none⟩,
  ⟨some 3, .assign (.tmp 24), none⟩]
def f44_r7 : List LOp := [
  ⟨some 25, .binOp .add 3 (.tmp 8) (.const (.int .i64 1)) 3, none⟩,
  ⟨some 8, .move (.tmp 25), none⟩]
def f44_l8 : LC := (.seq (.reg f44_r3 [] none) (.seq (.cond (.tmp 9) .skip (.exit 0)) (.seq (.block 1 (.seq (.reg f44_r4 [] none) (.seq (.reg f44_r5 [] none) (.cond (.tmp 17) (.reg f44_r6 [] none) .skip)))) (.reg f44_r7 [] none))))
def f44_i8 (t0 t3 t7 t8 : D) : List D := [t0, .any, .any, t3, .any, .any, .any, t7, t8, .any, .any, .any, .any, .any, .any, .any, .any, .any, .any, .any, .any, .any, .any, .any, .any, .any, .any]
def f44_r9 : List LOp := [
  ⟨some 26, .move (.tmp 3), none⟩,
  ⟨some 2, .assign (.tmp 26), none⟩]
def f44_c : LC := (.seq (.reg f44_r0 [] none) (.seq (.reg f44_r1 [0] none) (.seq (.seq (.reg f44_r2 [] none) (.block 0 (.loop f44_l8))) (.seq (.reg f44_r9 [] none) .ret))))
theorem f44_lc : Tryz.f44.body.map lc = some f44_c.st := by kernel_rfl
theorem f44_res : Tryz.f44.results.toList = [.tmp 2] := by kernel_rfl
theorem f44_nt : Tryz.f44.ntmps = 27 := by kernel_rfl
theorem f44_nm : (Tryz.f44.name == "runtime.NumGoroutine") = false := by kernel_rfl

/-! quill/quillref04.Sort -/
def f45_r0 : List LOp := [
  ⟨some 2, .assign (.const (.slice none 0 0)), none⟩]
def f45_r1 : List LOp := [
  ⟨some 8, .buildSlice 22 0 #[], none⟩,
  ⟨some 3, .assign (.tmp 8), none⟩]
def f45_r2 : List LOp := [
  ⟨some 9, .move (.tmp 0), none⟩,
  ⟨some 10, .call { callee := .builtin .len, args := #[.tmp 9], argTypes := #[22] }, none⟩,
  ⟨some 11, .move (.const (.int .i64 0)), none⟩]
def f45_r3 : List LOp := [
  ⟨some 12, .binOp .lss 3 (.tmp 11) (.tmp 10) 3, none⟩]
def f45_r4 : List LOp := [
  ⟨some 13, .move (.tmp 11), none⟩,
  ⟨some 4, .assign (.tmp 13), none⟩]
def f45_r5 : List LOp := [
  ⟨some 14, .buildSlice 22 0 #[], none⟩,
  ⟨some 5, .assign (.tmp 14), none⟩]
def f45_r6 : List LOp := [
  ⟨some 6, .assign (.const (.bool false)), none⟩]
def f45_r7 : List LOp := [
  ⟨some 15, .move (.tmp 3), none⟩,
  ⟨some 16, .call { callee := .builtin .len, args := #[.tmp 15], argTypes := #[22] }, none⟩,
  ⟨some 17, .move (.const (.int .i64 0)), none⟩]
def f45_r8 : List LOp := [
  ⟨some 18, .binOp .lss 3 (.tmp 17) (.tmp 16) 3, none⟩]
def f45_r9 : List LOp := [
  ⟨some 19, .move (.tmp 17), none⟩,
  ⟨some 7, .assign (.tmp 19), none⟩]
def f45_r10 : List LOp := [
  ⟨some 20, .move (.tmp 6), none⟩,
  ⟨some 21, .unOp .not 4 (.tmp 20), none⟩,
  ⟨some 22, .move (.tmp 21), none⟩,
  ⟨some 23, .move (.tmp 0), some (2, true)⟩,
  ⟨some 24, .move (.tmp 4), some (2, true)⟩,
  ⟨some 25, .indexAddr 22 (.tmp 23) (.tmp 24), some (2, true)⟩,
  ⟨some 26, .load 27 (.tmp 25), some (2, true)⟩,
  ⟨some 27, .move (.tmp 3), some (2, true)⟩,
  ⟨some 28, .move (.tmp 7), some (2, true)⟩,
  ⟨some 29, .indexAddr 22 (.tmp 27) (.tmp 28), some (2, true)⟩,
  ⟨some 30, .load 27 (.tmp 29), some (2, true)⟩,
  ⟨some 31, .call { callee := .value (.func 66), args := #[.tmp 26, .tmp 30], argTypes := #[27, 27] }, some (2, true)⟩,
  ⟨some 32, .binOp .lss 3 (.tmp 31) (.const (.int .i64 0)) 3, some (2, true)⟩,
  ⟨some 33, .pick (.tmp 22) (.tmp 32) (.const (.bool false)), none⟩]
def f45_r11 : List LOp := [
  ⟨some 34, .move (.tmp 5), none⟩,
  ⟨some 35, .move (.tmp 0), none⟩,
  ⟨some 36, .move (.tmp 4), none⟩,
  ⟨some 37, .indexAddr 22 (.tmp 35) (.tmp 36), none⟩,
  ⟨some 38, .load 27 (.tmp 37), none⟩,
  ⟨some 39, .buildSlice 22 1 #[(0, .tmp 38)], none⟩,
  ⟨some 40, .call { callee := .builtin .append, args := #[.tmp 34, .tmp 39], argTypes := #[22, 22] }, none⟩,
  ⟨some 5, .assign (.tmp 40), none⟩]
def f45_r12 : List LOp := [
  ⟨some 6, .assign (.const (.bool true)), none⟩]
def f45_r13 : List LOp := [
  ⟨some 41, .move (.tmp 5), none⟩,
  ⟨some 42, .move (.tmp 3), none⟩,
  ⟨some 43, .move (.tmp 7), none⟩,
  ⟨some 44, .indexAddr 22 (.tmp 42) (.tmp 43), none⟩,
  ⟨some 45, .load 27 (.tmp 44), none⟩,
  ⟨some 46, .buildSlice 22 1 #[(0, .tmp 45)], none⟩,
  ⟨some 47, .call { callee := .builtin .append, args := #[.tmp 41, .tmp 46], argTypes := #[22, 22] }, none⟩,
  ⟨some 5, .assign (.tmp 47), none⟩]
def f45_r14 : List LOp := [
  ⟨some 48, .binOp .add 3 (.tmp 17) (.const (.int .i64 1)) 3, none⟩,
  ⟨some 17, .move (.tmp 48), none⟩]
def f45_l15 : LC := (.seq (.reg f45_r8 [] none) (.seq (.cond (.tmp 18) .skip (.exit 2)) (.seq (.block 3 (.seq (.reg f45_r9 [] none) (.seq (.seq (.reg f45_r10 [] (some 11)) (.cond (.tmp 33) (.seq (.reg f45_r11 [] none) (.reg f45_r12 [] none)) .skip)) (.reg f45_r13 [] none)))) (.reg f45_r14 [] none))))
def f45_i15 (t0 t3 t4 t5 t6 t10 t11 t16 t17 : D) : List D := [t0, .any, .any, t3, t4, t5, t6, .any, .any, .any, t10, t11, .any, .any, .any, .any, t16, t17, .any, .any, .any, .any, .any, .any, .any, .any, .any, .any, .any, .any, .any, .any, .any, .any, .any, .any, .any, .any, .any, .any, .any, .any, .any, .any, .any, .any, .any, .any, .any, .any, .any, .any, .any, .any, .any, .any, .any, .any, .any, .any, .any]
def f45_r16 : List LOp := [
  ⟨some 49, .move (.tmp 6), none⟩,
  ⟨some 50, .unOp .not 4 (.tmp 49), none⟩]
def f45_r17 : List LOp := [
  ⟨some 51, .move (.tmp 5), none⟩,
  ⟨some 52, .move (.tmp 0), none⟩,
  ⟨some 53, .move (.tmp 4), none⟩,
  ⟨some 54, .indexAddr 22 (.tmp 52) (.tmp 53), none⟩,
  ⟨some 55, .load 27 (.tmp 54), none⟩,
  ⟨some 56, .buildSlice 22 1 #[(0, .tmp 55)], none⟩,
  ⟨some 57, .call { callee := .builtin .append, args := #[.tmp 51, .tmp 56], argTypes := #[22, 22] }, none⟩,
  ⟨some 5, .assign (.tmp 57), none⟩]
def f45_r18 : List LOp := [
  ⟨some 58, .move (.tmp 5), none⟩,
  ⟨some 3, .assign (.tmp 58), none⟩]
def f45_r19 : List LOp := [
  ⟨some 59, .binOp .add 3 (.tmp 11) (.const (.int .i64 1)) 3, none⟩,
  ⟨some 11, .move (.tmp 59), none⟩]
def f45_l20 : LC := (.seq (.reg f45_r3 [] none) (.seq (.cond (.tmp 12) .skip (.exit 0)) (.seq (.block 1 (.seq (.reg f45_r4 [] none) (.seq (.reg f45_r5 [0] none) (.seq (.reg f45_r6 [] none) (.seq (.seq (.reg f45_r7 [] none) (.block 2 (.loop f45_l15))) (.seq (.seq (.reg f45_r16 [] none) (.cond (.tmp 50) (.reg f45_r17 [] none) .skip)) (.reg f45_r18 [] none))))))) (.reg f45_r19 [] none))))
def f45_i20 (t0 t3 t10 t11 : D) : List D := [t0, .any, .any, t3, .any, .any, .any, .any, .any, .any, t10, t11, .any, .any, .any, .any, .any, .any, .any, .any, .any, .any, .any, .any, .any, .any, .any, .any, .any, .any, .any, .any, .any, .any, .any, .any, .any, .any, .any, .any, .any, .any, .any, .any, .any, .any, .any, .any, .any, .any, .any, .any, .any, .any, .any, .any, .any, .any, .any, .any, .any]
def f45_r21 : List LOp := [
  ⟨some 60, .move (.tmp 3), none⟩,
  ⟨some 2, .assign (.tmp 60), none⟩]
def f45_c : LC := (.seq (.reg f45_r0 [] none) (.seq (.reg f45_r1 [0] none) (.seq (.seq (.reg f45_r2 [] none) (.block 0 (.loop f45_l20))) (.seq (.reg f45_r21 [] none) .ret))))
theorem f45_lc : Tryz.f45.body.map lc = some f45_c.st := by kernel_rfl
theorem f45_res : Tryz.f45.results.toList = [.tmp 2] := by kernel_rfl
theorem f45_nt : Tryz.f45.ntmps = 61 := by kernel_rfl
theorem f45_nm : (Tryz.f45.name == "runtime.NumGoroutine") = false := by kernel_rfl

/-! quill/rex.fold -/
def f46_r0 : List LOp := [
  ⟨some 3, .box 5 (.tmp 0), none⟩,
  ⟨some 6, .alloc 27, none⟩]
def f46_r1 : List LOp := [
  ⟨some 10, .move (.tmp 2), none⟩,
  ⟨some 11, .call { callee := .builtin .len, args := #[.tmp 10], argTypes := #[22] }, none⟩,
  ⟨some 12, .binOp .eql 3 (.tmp 11) (.const (.int .i64 0)) 3, none⟩]
def f46_r2 : List LOp := [
  ⟨some 13, .move (.tmp 1), none⟩,
  ⟨some 14, .build 27 #[(0, .tmp 13)], none⟩,
  ⟨none, .store 27 (.tmp 6) (.tmp 14), none⟩]
def f46_r3 : List LOp := [
  ⟨some 15, .move (.tmp 2), none⟩,
  ⟨some 16, .move (.tmp 2), none⟩,
  ⟨some 17, .call { callee := .builtin .len, args := #[.tmp 16], argTypes := #[22] }, none⟩,
  ⟨some 18, .binOp .sub 3 (.tmp 17) (.const (.int .i64 1)) 3, none⟩,
  ⟨some 19, .indexAddr 22 (.tmp 15) (.tmp 18), none⟩,
  ⟨some 20, .load 27 (.tmp 19), none⟩,
  ⟨some 7, .alloc 27, none⟩,
  ⟨none, .store 27 (.tmp 7) (.tmp 20), none⟩]
def f46_r4 : List LOp := [
  ⟨some 21, .move (.tmp 2), none⟩,
  ⟨some 22, .move (.tmp 2), none⟩,
  ⟨some 23, .call { callee := .builtin .len, args := #[.tmp 22], argTypes := #[22] }, none⟩,
  ⟨some 24, .binOp .sub 3 (.tmp 23) (.const (.int .i64 1)) 3, none⟩,
  ⟨some 25, .slice 22 (.tmp 21) none (some (.tmp 24)) none, none⟩,
  ⟨some 26, .call { callee := .value (.func 27), args := #[.tmp 25], argTypes := #[22] }, none⟩]
def f46_r5 : List LOp := [
  ⟨some 9, .alloc 27, none⟩,
  ⟨none, .store 27 (.tmp 9) (.tmp 28), none⟩]
def f46_r6 : List LOp := [
  ⟨some 29, .load 5 (.tmp 3), none⟩,
  ⟨some 30, .load 27 (.tmp 9), none⟩,
  ⟨some 31, .load 27 (.tmp 7), none⟩,
  ⟨some 32, .buildSlice 22 2 #[(0, .tmp 30), (1, .tmp 31)], none⟩,
  ⟨some 33, .build 27 #[(0, .tmp 29), (2, .tmp 32)], none⟩,
  ⟨none, .store 27 (.tmp 7) (.tmp 33), none⟩]
def f46_a7 : LC := (.reg f46_r5 [] none)
def f46_b7 : LC := (.block 1 (.reg f46_r6 [] none))
def f46_r8 : List LOp := [
  ⟨some 34, .load 27 (.tmp 7), none⟩,
  ⟨none, .store 27 (.tmp 6) (.tmp 34), none⟩]
def f46_c : LC := (.seq (.reg f46_r0 [] none) (.seq (.seq (.reg f46_r1 [] none) (.cond (.tmp 12) (.seq (.reg f46_r2 [] none) .ret) .skip)) (.seq (.reg f46_r3 [] none) (.seq (.seq (.reg f46_r4 [] none) (.block 0 (.rfun (.tmp 26) [27, 28] f46_a7 f46_b7))) (.seq (.reg f46_r8 [] none) .ret)))))
theorem f46_lc : Tryz.f46.body.map lc = some f46_c.st := by kernel_rfl
theorem f46_res : Tryz.f46.results.toList = [.cell 6 27] := by kernel_rfl
theorem f46_nt : Tryz.f46.ntmps = 35 := by kernel_rfl
theorem f46_nm : (Tryz.f46.name == "runtime.NumGoroutine") = false := by kernel_rfl

/-! slices.Backward[[]quill/api.Re,quill/api.Re]$1 -/
def f47_r0 : List LOp := [
  ⟨some 4, .load 22 (.tmp 1), none⟩,
  ⟨some 5, .call { callee := .builtin .len, args := #[.tmp 4], argTypes := #[22] }, none⟩,
  ⟨some 6, .binOp .sub 3 (.tmp 5) (.const (.int .i64 1)) 3, none⟩,
  ⟨some 3, .assign (.tmp 6), none⟩]
def f47_r1 : List LOp := [
  ⟨some 7, .move (.tmp 3), none⟩,
  ⟨some 8, .binOp .geq 3 (.tmp 7) (.const (.int .i64 0)) 3, none⟩]
def f47_r2 : List LOp := [
  ⟨some 11, .move (.tmp 0), none⟩,
  ⟨some 12, .move (.tmp 3), none⟩,
  ⟨some 13, .load 22 (.tmp 1), none⟩,
  ⟨some 14, .move (.tmp 3), none⟩,
  ⟨some 15, .indexAddr 22 (.tmp 13) (.tmp 14), none⟩,
  ⟨some 16, .load 27 (.tmp 15), none⟩,
  ⟨some 17, .call { callee := .value (.tmp 11), args := #[.tmp 12, .tmp 16], argTypes := #[3, 27] }, none⟩,
  ⟨some 18, .unOp .not 4 (.tmp 17), none⟩]
def f47_r3 : List LOp := [
  ⟨some 9, .move (.tmp 3), none⟩,
  ⟨some 10, .binOp .sub 3 (.tmp 9) (.const (.int .i64 1)) 3, none⟩,
  ⟨some 3, .assign (.tmp 10), none⟩]
def f47_l4 : LC := (.seq (.seq (.reg f47_r1 [] none) (.cond (.tmp 8) .skip (.exit 0))) (.seq (.block 1 (.seq (.reg f47_r2 [] none) (.cond (.tmp 18) .ret .skip))) (.reg f47_r3 [] none)))
def f47_i4 (t0 t1 t3 : D) : List D := [t0, t1, .any, t3, .any, .any, .any, .any, .any, .any, .any, .any, .any, .any, .any, .any, .any, .any, .any]
def f47_c : LC := (.seq (.reg f47_r0 [] none) (.block 0 (.loop f47_l4)))
theorem f47_lc : Tryz.f47.body.map lc = some f47_c.st := by kernel_rfl
theorem f47_res : Tryz.f47.results.toList = [] := by kernel_rfl
theorem f47_nt : Tryz.f47.ntmps = 19 := by kernel_rfl
theorem f47_nm : (Tryz.f47.name == "runtime.NumGoroutine") = false := by kernel_rfl

/-! quill/rex.Or -/
def f48_r0 : List LOp := [
  ⟨some 2, .alloc 27, none⟩]
def f48_r1 : List LOp := [
  ⟨some 3, .move (.tmp 0), none⟩,
  ⟨some 4, .call { callee := .value (.func 46), args := #[.const (.int .u8 5), .const (.int .u8 1), .tmp 3], argTypes := #[5, 5, 22] }, none⟩,
  ⟨none, .store 27 (.tmp 2) (.tmp 4), none⟩]
def f48_c : LC := (.seq (.reg f48_r0 [] none) (.seq (.reg f48_r1 [] none) .ret))
theorem f48_lc : Tryz.f48.body.map lc = some f48_c.st := by kernel_rfl
theorem f48_res : Tryz.f48.results.toList = [.cell 2 27] := by kernel_rfl
theorem f48_nt : Tryz.f48.ntmps = 5 := by kernel_rfl
theorem f48_nm : (Tryz.f48.name == "runtime.NumGoroutine") = false := by kernel_rfl

/-! slices.DeleteFunc[[]quill/api.Re,quill/api.Re] -/
def f49_r0 : List LOp := [
  ⟨some 4, .assign (.const (.slice none 0 0)), none⟩]
def f49_r1 : List LOp := [
  ⟨some 8, .move (.tmp 0), none⟩,
  ⟨some 9, .move (.tmp 1), none⟩,
  ⟨some 10, .call { callee := .value (.func 61), args := #[.tmp 8, .tmp 9], argTypes := #[22, 31] }, none⟩,
  ⟨some 5, .assign (.tmp 10), none⟩]
def f49_r2 : List LOp := [
  ⟨some 11, .move (.tmp 5), none⟩,
  ⟨some 12, .binOp .eql 3 (.tmp 11) (.const (.int .i64 (-1))) 3, none⟩]
def f49_r3 : List LOp := [
  ⟨some 13, .move (.tmp 0), none⟩,
  ⟨some 4, .assign (.tmp 13), none⟩]
def f49_r4 : List LOp := [
  ⟨some 14, .move (.tmp 5), none⟩,
  ⟨some 15, .binOp .add 3 (.tmp 14) (.const (.int .i64 1)) 3, none⟩,
  ⟨some 6, .assign (.tmp 15), none⟩]
def f49_r5 : List LOp := [
  ⟨some 16, .move (.tmp 6), none⟩,
  ⟨some 17, .move (.tmp 0), none⟩,
  ⟨some 18, .call { callee := .builtin .len, args := #[.tmp 17], argTypes := #[22] }, none⟩,
  ⟨some 19, .binOp .lss 3 (.tmp 16) (.tmp 18) 3, none⟩]
def f49_r6 : List LOp := [
  ⟨some 22, .move (.tmp 0), none⟩,
  ⟨some 23, .move (.tmp 6), none⟩,
  ⟨some 24, .indexAddr 22 (.tmp 22) (.tmp 23), none⟩,
  ⟨some 25, .load 27 (.tmp 24), none⟩,
  ⟨some 7, .alloc 27, none⟩,
  ⟨none, .store 27 (.tmp 7) (.tmp 25), none⟩]
def f49_r7 : List LOp := [
  ⟨some 26, .move (.tmp 1), none⟩,
  ⟨some 27, .load 27 (.tmp 7), none⟩,
  ⟨some 28, .call { callee := .value (.tmp 26), args := #[.tmp 27], argTypes := #[27] }, none⟩,
  ⟨some 29, .unOp .not 4 (.tmp 28), none⟩]
def f49_r8 : List LOp := [
  ⟨some 30, .move (.tmp 0), none⟩,
  ⟨some 31, .move (.tmp 5), none⟩,
  ⟨some 32, .load 27 (.tmp 7), none⟩,
  ⟨some 33, .indexAddr 22 (.tmp 30) (.tmp 31), none⟩,
  ⟨none, .store 27 (.tmp 33) (.tmp 32), none⟩]
def f49_r9 : List LOp := [
  ⟨some 34, .move (.tmp 5), none⟩,
  ⟨some 35, .binOp .add 3 (.tmp 34) (.const (.int .i64 1)) 3, none⟩,
  ⟨some 5, .assign (.tmp 35), none⟩]
def f49_r10 : List LOp := [
  ⟨some 20, .move (.tmp 6), none⟩,
  ⟨some 21, .binOp .add 3 (.tmp 20) (.const (.int .i64 1)) 3, none⟩,
  ⟨some 6, .assign (.tmp 21), none⟩]
def f49_l11 : LC := (.seq (.seq (.reg f49_r5 [] none) (.cond (.tmp 19) .skip (.exit 0))) (.seq (.block 1 (.seq (.reg f49_r6 [] none) (.seq (.reg f49_r7 [] none) (.cond (.tmp 29) (.seq (.reg f49_r8 [] none) (.reg f49_r9 [] none)) .skip)))) (.reg f49_r10 [] none)))
def f49_i11 (t0 t1 t5 t6 : D) : List D := [t0, t1, .any, .any, .any, t5, t6, .any, .any, .any, .any, .any, .any, .any, .any, .any, .any, .any, .any, .any, .any, .any, .any, .any, .any, .any, .any, .any, .any, .any, .any, .any, .any, .any, .any, .any, .any, .any, .any, .any, .any, .any]
def f49_r12 : List LOp := [
  ⟨some 36, .move (.tmp 0), none⟩,
  ⟨some 37, .move (.tmp 5), none⟩,
  ⟨some 38, .slice 22 (.tmp 36) (some (.tmp 37)) none none, none⟩,
  ⟨none, .call { callee := .builtin .clear, args := #[.tmp 38], argTypes := #[22] }, none⟩]
def f49_r13 : List LOp := [
  ⟨some 39, .move (.tmp 0), none⟩,
  ⟨some 40, .move (.tmp 5), none⟩,
  ⟨some 41, .slice 22 (.tmp 39) none (some (.tmp 40)) none, none⟩,
  ⟨some 4, .assign (.tmp 41), none⟩]
def f49_c : LC := (.seq (.reg f49_r0 [] none) (.seq (.reg f49_r1 [] none) (.seq (.seq (.reg f49_r2 [] none) (.cond (.tmp 12) (.seq (.reg f49_r3 [] none) .ret) .skip)) (.seq (.seq (.reg f49_r4 [] none) (.block 0 (.loop f49_l11))) (.seq (.reg f49_r12 [] none) (.seq (.reg f49_r13 [] none) .ret))))))
theorem f49_lc : Tryz.f49.body.map lc = some f49_c.st := by kernel_rfl
theorem f49_res : Tryz.f49.results.toList = [.tmp 4] := by kernel_rfl
theorem f49_nt : Tryz.f49.ntmps = 42 := by kernel_rfl
theorem f49_nm : (Tryz.f49.name == "runtime.NumGoroutine") = false := by kernel_rfl

/-! quill/norm.flat -/
def f50_r0 : List LOp := [
  ⟨some 2, .assign (.const (.slice none 0 0)), none⟩]
def f50_r1 : List LOp := [
  ⟨some 3, .assign (.const (.slice none 0 0)), none⟩]
def f50_r2 : List LOp := [
  ⟨some 6, .move (.tmp 0), none⟩,
  ⟨some 7, .call { callee := .builtin .len, args := #[.tmp 6], argTypes := #[22] }, none⟩,
  ⟨some 8, .move (.const (.int .i64 0)), none⟩]
def f50_r3 : List LOp := [
  ⟨some 9, .binOp .lss 3 (.tmp 8) (.tmp 7) 3, none⟩]
def f50_r4 : List LOp := [
  ⟨some 10, .indexAddr 22 (.tmp 6) (.tmp 8), none⟩,
  ⟨some 11, .load 27 (.tmp 10), none⟩,
  ⟨some 5, .alloc 27, none⟩,
  ⟨none, .store 27 (.tmp 5) (.tmp 11), none⟩]
def f50_r5 : List LOp := [
  ⟨some 12, .fieldAddr 27 (.tmp 5) 0, none⟩,
  ⟨some 13, .load 5 (.tmp 12), none⟩]
def f50_r6 : List LOp := [
  ⟨some 19, .binOp .eql 5 (.tmp 13) (.const (.int .u8 1)) 5, none⟩,
  ⟨some 18, .assign (.tmp 19), none⟩]
def f50_r7 : List LOp := [
  ⟨some 21, .binOp .eql 5 (.tmp 13) (.const (.int .u8 5)) 5, none⟩,
  ⟨some 20, .assign (.tmp 21), none⟩]
def f50_r8 : List LOp := [
  ⟨some 22, .move (.tmp 3), none⟩,
  ⟨some 23, .fieldAddr 27 (.tmp 5) 2, none⟩,
  ⟨some 24, .load 22 (.tmp 23), none⟩,
  ⟨some 25, .call { callee := .value (.func 50), args := #[.tmp 24], argTypes := #[22] }, none⟩,
  ⟨some 26, .call { callee := .builtin .append, args := #[.tmp 22, .tmp 25], argTypes := #[22, 22] }, none⟩,
  ⟨some 3, .assign (.tmp 26), none⟩]
def f50_r9 : List LOp := [
  ⟨some 14, .move (.tmp 3), none⟩,
  ⟨some 15, .load 27 (.tmp 5), none⟩,
  ⟨some 16, .buildSlice 22 1 #[(0, .tmp 15)], none⟩,
  ⟨some 17, .call { callee := .builtin .append, args := #[.tmp 14, .tmp 16], argTypes := #[22, 22] }, none⟩,
  ⟨some 3, .assign (.tmp 17), none⟩]
def f50_r10 : List LOp := [
  ⟨some 27, .binOp .add 3 (.tmp 8) (.const (.int .i64 1)) 3, none⟩,
  ⟨some 8, .move (.tmp 27), none⟩]
def f50_l11 : LC := (.seq (.reg f50_r3 [] none) (.seq (.cond (.tmp 9) .skip (.exit 0)) (.seq (.block 1 (.seq (.reg f50_r4 [] none) (.seq (.reg f50_r5 [] none) (.block 2 (.seq (.reg f50_r6 [] none) (.cond (.tmp 18) .skip (.seq (.reg f50_r7 [] none) (.cond (.tmp 20) (.reg f50_r8 [] none) (.reg f50_r9 [] none))))))))) (.reg f50_r10 [] none))))
def f50_i11 (t3 t6 t7 t8 : D) : List D := [.any, .any, .any, t3, .any, .any, t6, t7, t8, .any, .any, .any, .any, .any, .any, .any, .any, .any, .any, .any, .any, .any, .any, .any, .any, .any, .any, .any, .any]
def f50_r12 : List LOp := [
  ⟨some 28, .move (.tmp 3), none⟩,
  ⟨some 2, .assign (.tmp 28), none⟩]
def f50_c : LC := (.seq (.reg f50_r0 [] none) (.seq (.reg f50_r1 [] none) (.seq (.seq (.reg f50_r2 [] none) (.block 0 (.loop f50_l11))) (.seq (.reg f50_r12 [] none) .ret))))
theorem f50_lc : Tryz.f50.body.map lc = some f50_c.st := by kernel_rfl
theorem f50_res : Tryz.f50.results.toList = [.tmp 2] := by kernel_rfl
theorem f50_nt : Tryz.f50.ntmps = 29 := by kernel_rfl
theorem f50_nm : (Tryz.f50.name == "runtime.NumGoroutine") = false := by kernel_rfl

/-! quill/norm.alt$1 -/
def f51_r0 : List LOp := [
  ⟨some 2, .box 27 (.tmp 0), none⟩,
  ⟨some 3, .assign (.const (.bool false)), none⟩]
def f51_r1 : List LOp := [
  ⟨some 4, .fieldAddr 27 (.tmp 2) 0, none⟩,
  ⟨some 5, .load 5 (.tmp 4), none⟩,
  ⟨some 6, .binOp .eql 5 (.tmp 5) (.const (.int .u8 3)) 5, none⟩]
def f51_r2 : List LOp := [
  ⟨some 7, .load 25 (.tmp 1), none⟩,
  ⟨some 8, .fieldAddr 27 (.tmp 2) 1, none⟩,
  ⟨some 9, .load 25 (.tmp 8), none⟩,
  ⟨some 10, .buildSlice 78 2 #[(0, .tmp 7), (1, .tmp 9)], none⟩,
  ⟨some 11, .call { callee := .value (.func 52), args := #[.tmp 10], argTypes := #[78] }, none⟩,
  ⟨none, .store 25 (.tmp 1) (.tmp 11), none⟩]
def f51_r3 : List LOp := [
  ⟨some 12, .fieldAddr 27 (.tmp 2) 0, none⟩,
  ⟨some 13, .load 5 (.tmp 12), none⟩,
  ⟨some 14, .binOp .eql 5 (.tmp 13) (.const (.int .u8 3)) 5, none⟩,
  ⟨some 3, .assign (.tmp 14), none⟩]
def f51_c : LC := (.seq (.reg f51_r0 [] none) (.seq (.seq (.reg f51_r1 [] none) (.cond (.tmp 6) (.reg f51_r2 [] none) .skip)) (.seq (.reg f51_r3 [] none) .ret)))
theorem f51_lc : Tryz.f51.body.map lc = some f51_c.st := by kernel_rfl
theorem f51_res : Tryz.f51.results.toList = [.tmp 3] := by kernel_rfl
theorem f51_nt : Tryz.f51.ntmps = 15 := by kernel_rfl
theorem f51_nm : (Tryz.f51.name == "runtime.NumGoroutine") = false := by kernel_rfl

/-! quill/set.Join -/
def f52_r0 : List LOp := [
  ⟨some 2, .alloc 25, none⟩]
def f52_r1 : List LOp := [
  ⟨some 3, .alloc 25, none⟩]
def f52_r2 : List LOp := [
  ⟨some 7, .move (.tmp 0), none⟩,
  ⟨some 8, .call { callee := .builtin .len, args := #[.tmp 7], argTypes := #[78] }, none⟩,
  ⟨some 9, .move (.const (.int .i64 0)), none⟩]
def f52_r3 : List LOp := [
  ⟨some 10, .binOp .lss 3 (.tmp 9) (.tmp 8) 3, none⟩]
def f52_r4 : List LOp := [
  ⟨some 11, .indexAddr 78 (.tmp 7) (.tmp 9), none⟩,
  ⟨some 12, .load 25 (.tmp 11), none⟩,
  ⟨some 5, .alloc 25, none⟩,
  ⟨none, .store 25 (.tmp 5) (.tmp 12), none⟩]
def f52_r5 : List LOp := [
  ⟨some 13, .move (.const (.int .i64 0)), none⟩]
def f52_r6 : List LOp := [
  ⟨some 14, .binOp .lss 3 (.tmp 13) (.const (.int .i64 4)) 3, none⟩]
def f52_r7 : List LOp := [
  ⟨some 15, .move (.tmp 13), none⟩,
  ⟨some 6, .assign (.tmp 15), none⟩]
def f52_r8 : List LOp := [
  ⟨some 16, .move (.tmp 6), none⟩,
  ⟨some 17, .indexAddr 25 (.tmp 3) (.tmp 16), none⟩,
  ⟨some 18, .load 23 (.tmp 17), none⟩,
  ⟨some 19, .move (.tmp 6), none⟩,
  ⟨some 20, .indexAddr 25 (.tmp 5) (.tmp 19), none⟩,
  ⟨some 21, .load 23 (.tmp 20), none⟩,
  ⟨some 22, .binOp .or 23 (.tmp 18) (.tmp 21) 23, none⟩,
  ⟨some 23, .indexAddr 25 (.tmp 3) (.tmp 16), none⟩,
  ⟨none, .store 23 (.tmp 23) (.tmp 22), none⟩]
def f52_r9 : List LOp := [
  ⟨some 24, .binOp .add 3 (.tmp 13) (.const (.int .i64 1)) 3, none⟩,
  ⟨some 13, .move (.tmp 24), none⟩]
def f52_l10 : LC := (.seq (.reg f52_r6 [] none) (.seq (.cond (.tmp 14) .skip (.exit 2)) (.seq (.block 3 (.seq (.reg f52_r7 [] none) (.reg f52_r8 [] (some 6)))) (.reg f52_r9 [] none))))
def f52_i10 (t2 t3 t5 t7 t8 t9 t13 : D) : List D := [.any, .any, t2, t3, .any, t5, .any, t7, t8, t9, .any, .any, .any, t13, .any, .any, .any, .any, .any, .any, .any, .any, .any, .any, .any, .any, .any]
def f52_r11 : List LOp := [
  ⟨some 25, .binOp .add 3 (.tmp 9) (.const (.int .i64 1)) 3, none⟩,
  ⟨some 9, .move (.tmp 25), none⟩]
def f52_l12 : LC := (.seq (.reg f52_r3 [] none) (.seq (.cond (.tmp 10) .skip (.exit 0)) (.seq (.block 1 (.seq (.reg f52_r4 [] none) (.seq (.reg f52_r5 [] none) (.block 2 (.loop f52_l10))))) (.reg f52_r11 [] none))))
def f52_i12 (t2 t3 t7 t8 t9 : D) : List D := [.any, .any, t2, t3, .any, .any, .any, t7, t8, t9, .any, .any, .any, .any, .any, .any, .any, .any, .any, .any, .any, .any, .any, .any, .any, .any, .any]
def f52_r13 : List LOp := [
  ⟨some 26, .load 25 (.tmp 3), none⟩,
  ⟨none, .store 25 (.tmp 2) (.tmp 26), none⟩]
def f52_c : LC := (.seq (.reg f52_r0 [] none) (.seq (.reg f52_r1 [] none) (.seq (.seq (.reg f52_r2 [] none) (.block 0 (.loop f52_l12))) (.seq (.reg f52_r13 [] none) .ret))))
theorem f52_lc : Tryz.f52.body.map lc = some f52_c.st := by kernel_rfl
theorem f52_res : Tryz.f52.results.toList = [.cell 2 25] := by kernel_rfl
theorem f52_nt : Tryz.f52.ntmps = 27 := by kernel_rfl
theorem f52_nm : (Tryz.f52.name == "runtime.NumGoroutine") = false := by kernel_rfl

/-! quill/order.Once -/
def f53_r0 : List LOp := [
  ⟨some 2, .assign (.const (.slice none 0 0)), none⟩]
def f53_r1 : List LOp := [
  ⟨some 3, .assign (.const (.slice none 0 0)), none⟩]
def f53_r2 : List LOp := [
  ⟨some 6, .move (.tmp 0), none⟩,
  ⟨some 7, .call { callee := .builtin .len, args := #[.tmp 6], argTypes := #[22] }, none⟩,
  ⟨some 8, .move (.const (.int .i64 0)), none⟩]
def f53_r3 : List LOp := [
  ⟨some 9, .binOp .lss 3 (.tmp 8) (.tmp 7) 3, none⟩]
def f53_r4 : List LOp := [
  ⟨some 10, .indexAddr 22 (.tmp 6) (.tmp 8), none⟩,
  ⟨some 11, .load 27 (.tmp 10), none⟩,
  ⟨some 5, .alloc 27, none⟩,
  ⟨none, .store 27 (.tmp 5) (.tmp 11), none⟩]
def f53_r5 : List LOp := [
  ⟨some 12, .move (.tmp 3), none⟩,
  ⟨some 13, .makeFunc (.func 67) #[] #[.tmp 5], none⟩,
  ⟨some 14, .call { callee := .value (.func 36), args := #[.tmp 12, .tmp 13], argTypes := #[22, 31] }, none⟩,
  ⟨some 15, .unOp .not 4 (.tmp 14), none⟩]
def f53_r6 : List LOp := [
  ⟨some 16, .move (.tmp 3), none⟩,
  ⟨some 17, .load 27 (.tmp 5), none⟩,
  ⟨some 18, .buildSlice 22 1 #[(0, .tmp 17)], none⟩,
  ⟨some 19, .call { callee := .builtin .append, args := #[.tmp 16, .tmp 18], argTypes := #[22, 22] }, none⟩,
  ⟨some 3, .assign (.tmp 19), none⟩]
def f53_r7 : List LOp := [
  ⟨some 20, .binOp .add 3 (.tmp 8) (.const (.int .i64 1)) 3, none⟩,
  ⟨some 8, .move (.tmp 20), none⟩]
def f53_l8 : LC := (.seq (.reg f53_r3 [] none) (.seq (.cond (.tmp 9) .skip (.exit 0)) (.seq (.block 1 (.seq (.reg f53_r4 [] none) (.seq (.reg f53_r5 [] none) (.cond (.tmp 15) (.reg f53_r6 [] none) .skip)))) (.reg f53_r7 [] none))))
def f53_i8 (t3 t6 t7 t8 : D) : List D := [.any, .any, .any, t3, .any, .any, t6, t7, t8, .any, .any, .any, .any, .any, .any, .any, .any, .any, .any, .any, .any, .any]
def f53_r9 : List LOp := [
  ⟨some 21, .move (.tmp 3), none⟩,
  ⟨some 2, .assign (.tmp 21), none⟩]
def f53_c : LC := (.seq (.reg f53_r0 [] none) (.seq (.reg f53_r1 [] none) (.seq (.seq (.reg f53_r2 [] none) (.block 0 (.loop f53_l8))) (.seq (.reg f53_r9 [] none) .ret))))
theorem f53_lc : Tryz.f53.body.map lc = some f53_c.st := by kernel_rfl
theorem f53_res : Tryz.f53.results.toList = [.tmp 2] := by kernel_rfl
theorem f53_nt : Tryz.f53.ntmps = 22 := by kernel_rfl
theorem f53_nm : (Tryz.f53.name == "runtime.NumGoroutine") = false := by kernel_rfl

/-! quill/order.Sort -/
def f54_r0 : List LOp := [
  ⟨some 2, .assign (.const (.slice none 0 0)), none⟩]
def f54_r1 : List LOp := [
  ⟨some 3, .move (.tmp 0), none⟩,
  ⟨some 4, .call { callee := .value (.func 70), args := #[.tmp 3], argTypes := #[22] }, none⟩,
  ⟨some 5, .call { callee := .value (.func 69), args := #[.tmp 4, .func 68], argTypes := #[81, 77] }, none⟩,
  ⟨some 2, .assign (.tmp 5), none⟩]
def f54_c : LC := (.seq (.reg f54_r0 [] none) (.seq (.reg f54_r1 [] none) .ret))
theorem f54_lc : Tryz.f54.body.map lc = some f54_c.st := by kernel_rfl
theorem f54_res : Tryz.f54.results.toList = [.tmp 2] := by kernel_rfl
theorem f54_nt : Tryz.f54.ntmps = 6 := by kernel_rfl
theorem f54_nm : (Tryz.f54.name == "runtime.NumGoroutine") = false := by kernel_rfl

/-! quill/rex.Many -/
def f55_r0 : List LOp := [
  ⟨some 1, .box 27 (.tmp 0), none⟩,
  ⟨some 2, .alloc 27, none⟩]
def f55_r1 : List LOp := [
  ⟨some 3, .load 27 (.tmp 1), none⟩,
  ⟨some 4, .buildSlice 22 1 #[(0, .tmp 3)], none⟩,
  ⟨some 5, .build 27 #[(0, .const (.int .u8 6)), (2, .tmp 4)], none⟩,
  ⟨none, .store 27 (.tmp 2) (.tmp 5), none⟩]
def f55_c : LC := (.seq (.reg f55_r0 [] none) (.seq (.reg f55_r1 [] none) .ret))
theorem f55_lc : Tryz.f55.body.map lc = some f55_c.st := by kernel_rfl
theorem f55_res : Tryz.f55.results.toList = [.cell 2 27] := by kernel_rfl
theorem f55_nt : Tryz.f55.ntmps = 6 := by kernel_rfl
theorem f55_nm : (Tryz.f55.name == "runtime.NumGoroutine") = false := by kernel_rfl

/-! (*quill/read.reader).whole$1 -/
def f56_r0 : List LOp := [
  ⟨some 6, .call { callee := .builtin .recover, args := #[], argTypes := #[] }, none⟩]
def f56_r1 : List LOp := [
  ⟨some 8, .binOp .eql 20 (.tmp 6) (.const .nilIface) 20, none⟩]
def f56_r2 : List LOp := [
  ⟨some 3, .assign (.tmp 6), none⟩]
def f56_r3 : List LOp := [
  ⟨some 9, .typeAssert (.tmp 6) 20 69 true, none⟩,
  ⟨some 10, .extract (.tmp 9) 1, none⟩,
  ⟨some 11, .extract (.tmp 9) 0, none⟩]
def f56_r4 : List LOp := [
  ⟨some 4, .alloc 69, none⟩,
  ⟨none, .store 69 (.tmp 4) (.tmp 11), none⟩]
def f56_r5 : List LOp := [
  ⟨some 12, .build 27 #[], none⟩,
  ⟨some 13, .fieldAddr 69 (.tmp 4) 0, none⟩,
  ⟨some 14, .load 3 (.tmp 13), none⟩,
  ⟨none, .store 27 (.tmp 0) (.tmp 12), none⟩,
  ⟨none, .store 3 (.tmp 1) (.tmp 14), none⟩,
  ⟨none, .store 38 (.tmp 2) (.const (.int .i64 2)), none⟩]
def f56_r6 : List LOp := [
  ⟨some 5, .assign (.tmp 6), none⟩]
def f56_r7 : List LOp := [
  ⟨some 7, .move (.tmp 5), none⟩,
  ⟨none, .panic (.tmp 7), none⟩]
def f56_c : LC := (.seq (.reg f56_r0 [] none) (.block 0 (.seq (.reg f56_r1 [] none) (.cond (.tmp 8) (.reg f56_r2 [] none) (.seq (.reg f56_r3 [] none) (.cond (.tmp 10) (.seq (.reg f56_r4 [] none) (.regq f56_r5 [] 0 (.both (.op 0 (.both (.op 1 (.both (.op 2 (.op 3 (.op 4 (.op 5 .done)))) (.op 3 (.op 2 (.op 4 (.op 5 .done)))))) (.op 3 (.op 1 (.op 2 (.op 4 (.op 5 .done))))))) (.op 1 (.both (.op 0 (.both (.op 2 (.op 3 (.op 4 (.op 5 .done)))) (.op 3 (.op 2 (.op 4 (.op 5 .done)))))) (.op 2 (.op 0 (.op 3 (.op 4 (.op 5 .done)))))))))) (.seq (.reg f56_r6 [] none) (.reg f56_r7 [] none))))))))
theorem f56_lc : Tryz.f56.body.map lc = some f56_c.st := by kernel_rfl
theorem f56_res : Tryz.f56.results.toList = [] := by kernel_rfl
theorem f56_nt : Tryz.f56.ntmps = 15 := by kernel_rfl
theorem f56_nm : (Tryz.f56.name == "runtime.NumGoroutine") = false := by kernel_rfl

/-! (*quill/read.reader).alt -/
def f57_r0 : List LOp := [
  ⟨some 2, .alloc 27, none⟩]
def f57_r1 : List LOp := [
  ⟨some 4, .move (.tmp 0), none⟩,
  ⟨some 5, .call { callee := .value (.func 71), args := #[.tmp 4], argTypes := #[53] }, none⟩,
  ⟨some 6, .buildSlice 22 1 #[(0, .tmp 5)], none⟩,
  ⟨some 3, .assign (.tmp 6), none⟩]
def f57_r2 : List LOp := [
  ⟨some 7, .move (.tmp 0), none⟩,
  ⟨some 8, .call { callee := .value (.func 72), args := #[.tmp 7, .const (.string { data := #[124] })], argTypes := #[53, 9] }, none⟩]
def f57_r3 : List LOp := [
  ⟨some 9, .move (.tmp 0), none⟩,
  ⟨some 10, .nilCheck (.tmp 9), none⟩,
  ⟨some 11, .fieldAddr 55 (.tmp 10) 1, none⟩,
  ⟨some 12, .load 3 (.tmp 11), none⟩,
  ⟨some 13, .binOp .add 3 (.tmp 12) (.const (.int .i64 1)) 3, none⟩,
  ⟨some 14, .nilCheck (.tmp 9), none⟩,
  ⟨some 15, .fieldAddr 55 (.tmp 14) 1, none⟩,
  ⟨none, .store 3 (.tmp 15) (.tmp 13), none⟩]
def f57_r4 : List LOp := [
  ⟨some 16, .move (.tmp 3), none⟩,
  ⟨some 17, .move (.tmp 0), none⟩,
  ⟨some 18, .call { callee := .value (.func 71), args := #[.tmp 17], argTypes := #[53] }, none⟩,
  ⟨some 19, .buildSlice 22 1 #[(0, .tmp 18)], none⟩,
  ⟨some 20, .call { callee := .builtin .append, args := #[.tmp 16, .tmp 19], argTypes := #[22, 22] }, none⟩,
  ⟨some 3, .assign (.tmp 20), none⟩]
def f57_l5 : LC := (.seq (.seq (.reg f57_r2 [] none) (.cond (.tmp 8) .skip (.exit 0))) (.block 1 (.seq (.reg f57_r3 [] none) (.reg f57_r4 [] none))))
def f57_i5 (t0 t2 t3 : D) : List D := [t0, .any, t2, t3, .any, .any, .any, .any, .any, .any, .any, .any, .any, .any, .any, .any, .any, .any, .any, .any, .any, .any, .any]
def f57_r6 : List LOp := [
  ⟨some 21, .move (.tmp 3), none⟩,
  ⟨some 22, .call { callee := .value (.func 48), args := #[.tmp 21], argTypes := #[22] }, none⟩,
  ⟨none, .store 27 (.tmp 2) (.tmp 22), none⟩]
def f57_c : LC := (.seq (.reg f57_r0 [] none) (.seq (.reg f57_r1 [2] none) (.seq (.block 0 (.loop f57_l5)) (.seq (.reg f57_r6 [] none) .ret))))
theorem f57_lc : Tryz.f57.body.map lc = some f57_c.st := by kernel_rfl
theorem f57_res : Tryz.f57.results.toList = [.cell 2 27] := by kernel_rfl
theorem f57_nt : Tryz.f57.ntmps = 23 := by kernel_rfl
theorem f57_nm : (Tryz.f57.name == "runtime.NumGoroutine") = false := by kernel_rfl

/-! quill/rex.May$1 -/
def f58_r0 : List LOp := [
  ⟨some 1, .box 27 (.tmp 0), none⟩,
  ⟨some 2, .assign (.const (.bool false)), none⟩]
def f58_r1 : List LOp := [
  ⟨some 3, .load 27 (.tmp 1), none⟩,
  ⟨some 4, .call { callee := .value (.func 59), args := #[.tmp 3], argTypes := #[27] }, none⟩,
  ⟨some 5, .unOp .not 4 (.tmp 4), none⟩,
  ⟨some 6, .move (.tmp 5), none⟩,
  ⟨some 7, .load 27 (.tmp 1), some (3, false)⟩,
  ⟨some 8, .buildSlice 22 1 #[(0, .tmp 7)], some (3, false)⟩,
  ⟨some 9, .call { callee := .value (.func 60), args := #[.tmp 8], argTypes := #[22] }, some (3, false)⟩,
  ⟨some 10, .binOp .gtr 3 (.tmp 9) (.const (.int .i64 2000)) 3, some (3, false)⟩,
  ⟨some 11, .pick (.tmp 6) (.const (.bool true)) (.tmp 10), none⟩,
  ⟨some 2, .assign (.tmp 11), none⟩]
def f58_c : LC := (.seq (.reg f58_r0 [] none) (.seq (.reg f58_r1 [] none) .ret))
theorem f58_lc : Tryz.f58.body.map lc = some f58_c.st := by kernel_rfl
theorem f58_res : Tryz.f58.results.toList = [.tmp 2] := by kernel_rfl
theorem f58_nt : Tryz.f58.ntmps = 12 := by kernel_rfl
theorem f58_nm : (Tryz.f58.name == "runtime.NumGoroutine") = false := by kernel_rfl

/-! quill/rex.nodes -/
def f59_r0 : List LOp := [
  ⟨some 1, .box 27 (.tmp 0), none⟩,
  ⟨some 2, .assign (.const (.bool false)), none⟩]
def f59_r1 : List LOp := [
  ⟨some 3, .load 27 (.tmp 1), none⟩,
  ⟨some 4, .call { callee := .value (.func 73), args := #[.tmp 3], argTypes := #[27] }, none⟩,
  ⟨some 5, .move (.tmp 4), none⟩,
  ⟨some 6, .fieldAddr 27 (.tmp 1) 2, some (2, true)⟩,
  ⟨some 7, .load 22 (.tmp 6), some (2, true)⟩,
  ⟨some 8, .call { callee := .value (.func 36), args := #[.tmp 7, .func 74], argTypes := #[22, 31] }, some (2, true)⟩,
  ⟨some 9, .unOp .not 4 (.tmp 8), some (2, true)⟩,
  ⟨some 10, .pick (.tmp 5) (.tmp 9) (.const (.bool false)), none⟩,
  ⟨some 2, .assign (.tmp 10), none⟩]
def f59_c : LC := (.seq (.reg f59_r0 [] none) (.seq (.reg f59_r1 [] none) .ret))
theorem f59_lc : Tryz.f59.body.map lc = some f59_c.st := by kernel_rfl
theorem f59_res : Tryz.f59.results.toList = [.tmp 2] := by kernel_rfl
theorem f59_nt : Tryz.f59.ntmps = 11 := by kernel_rfl
theorem f59_nm : (Tryz.f59.name == "runtime.NumGoroutine") = false := by kernel_rfl

/-! quill/rex.Size -/
def f60_r0 : List LOp := [
  ⟨some 2, .assign (.const (.int .i64 0)), none⟩]
def f60_r1 : List LOp := [
  ⟨some 6, .move (.tmp 0), none⟩,
  ⟨some 7, .call { callee := .builtin .len, args := #[.tmp 6], argTypes := #[22] }, none⟩,
  ⟨some 3, .assign (.tmp 7), none⟩]
def f60_r2 : List LOp := [
  ⟨some 8, .move (.tmp 0), none⟩,
  ⟨some 9, .call { callee := .builtin .len, args := #[.tmp 8], argTypes := #[22] }, none⟩,
  ⟨some 10, .move (.const (.int .i64 0)), none⟩]
def f60_r3 : List LOp := [
  ⟨some 11, .binOp .lss 3 (.tmp 10) (.tmp 9) 3, none⟩]
def f60_r4 : List LOp := [
  ⟨some 12, .indexAddr 22 (.tmp 8) (.tmp 10), none⟩,
  ⟨some 13, .load 27 (.tmp 12), none⟩,
  ⟨some 5, .alloc 27, none⟩,
  ⟨none, .store 27 (.tmp 5) (.tmp 13), none⟩]
def f60_r5 : List LOp := [
  ⟨some 14, .move (.tmp 3), none⟩,
  ⟨some 15, .fieldAddr 27 (.tmp 5) 2, none⟩,
  ⟨some 16, .load 22 (.tmp 15), none⟩,
  ⟨some 17, .call { callee := .value (.func 60), args := #[.tmp 16], argTypes := #[22] }, none⟩,
  ⟨some 18, .binOp .add 3 (.tmp 14) (.tmp 17) 3, none⟩,
  ⟨some 3, .assign (.tmp 18), none⟩]
def f60_r6 : List LOp := [
  ⟨some 19, .binOp .add 3 (.tmp 10) (.const (.int .i64 1)) 3, none⟩,
  ⟨some 10, .move (.tmp 19), none⟩]
def f60_l7 : LC := (.seq (.reg f60_r3 [] none) (.seq (.cond (.tmp 11) .skip (.exit 0)) (.seq (.block 1 (.seq (.reg f60_r4 [] none) (.reg f60_r5 [] none))) (.reg f60_r6 [] none))))
def f60_i7 (t3 t8 t9 t10 : D) : List D := [.any, .any, .any, t3, .any, .any, .any, .any, t8, t9, t10, .any, .any, .any, .any, .any, .any, .any, .any, .any, .any]
def f60_r8 : List LOp := [
  ⟨some 20, .move (.tmp 3), none⟩,
  ⟨some 2, .assign (.tmp 20), none⟩]
def f60_c : LC := (.seq (.reg f60_r0 [] none) (.seq (.reg f60_r1 [] none) (.seq (.seq (.reg f60_r2 [] none) (.block 0 (.loop f60_l7))) (.seq (.reg f60_r8 [] none) .ret))))
theorem f60_lc : Tryz.f60.body.map lc = some f60_c.st := by kernel_rfl
theorem f60_res : Tryz.f60.results.toList = [.tmp 2] := by kernel_rfl
theorem f60_nt : Tryz.f60.ntmps = 21 := by kernel_rfl
theorem f60_nm : (Tryz.f60.name == "runtime.NumGoroutine") = false := by kernel_rfl

/-! slices.IndexFunc[[]quill/api.Re,quill/api.Re] -/
def f61_r0 : List LOp := [
  ⟨some 4, .assign (.const (.int .i64 0)), none⟩]
def f61_r1 : List LOp := [
  ⟨some 6, .move (.tmp 0), none⟩,
  ⟨some 7, .call { callee := .builtin .len, args := #[.tmp 6], argTypes := #[22] }, none⟩,
  ⟨some 8, .move (.const (.int .i64 0)), none⟩]
def f61_r2 : List LOp := [
  ⟨some 9, .binOp .lss 3 (.tmp 8) (.tmp 7) 3, none⟩]
def f61_r3 : List LOp := [
  ⟨some 10, .move (.tmp 8), none⟩,
  ⟨some 5, .assign (.tmp 10), none⟩]
def f61_r4 : List LOp := [
  ⟨some 11, .move (.tmp 1), none⟩,
  ⟨some 12, .move (.tmp 0), none⟩,
  ⟨some 13, .move (.tmp 5), none⟩,
  ⟨some 14, .indexAddr 22 (.tmp 12) (.tmp 13), none⟩,
  ⟨some 15, .load 27 (.tmp 14), none⟩,
  ⟨some 16, .call { callee := .value (.tmp 11), args := #[.tmp 15], argTypes := #[27] }, none⟩]
def f61_r5 : List LOp := [
  ⟨some 17, .move (.tmp 5), none⟩,
  ⟨some 4, .assign (.tmp 17), none⟩]
def f61_r6 : List LOp := [
  ⟨some 18, .binOp .add 3 (.tmp 8) (.const (.int .i64 1)) 3, none⟩,
  ⟨some 8, .move (.tmp 18), none⟩]
def f61_l7 : LC := (.seq (.reg f61_r2 [] none) (.seq (.cond (.tmp 9) .skip (.exit 0)) (.seq (.block 1 (.seq (.reg f61_r3 [] none) (.seq (.reg f61_r4 [] none) (.cond (.tmp 16) (.seq (.reg f61_r5 [] none) .ret) .skip)))) (.reg f61_r6 [] none))))
def f61_i7 (t0 t1 t7 t8 : D) : List D := [t0, t1, .any, .any, .any, .any, .any, t7, t8, .any, .any, .any, .any, .any, .any, .any, .any, .any, .any]
def f61_r8 : List LOp := [
  ⟨some 4, .assign (.const (.int .i64 (-1))), none⟩]
def f61_c : LC := (.seq (.reg f61_r0 [] none) (.seq (.seq (.reg f61_r1 [] none) (.block 0 (.loop f61_l7))) (.seq (.reg f61_r8 [] none) .ret)))
theorem f61_lc : Tryz.f61.body.map lc = some f61_c.st := by kernel_rfl
theorem f61_res : Tryz.f61.results.toList = [.tmp 4] := by kernel_rfl
theorem f61_nt : Tryz.f61.ntmps = 19 := by kernel_rfl
theorem f61_nm : (Tryz.f61.name == "runtime.NumGoroutine") = false := by kernel_rfl

/-! slices.EqualFunc[[]quill/api.Re,[]quill/api.Re,quill/api.Re,quill/api.Re] -/
def f62_r0 : List LOp := [
  ⟨some 6, .assign (.const (.bool false)), none⟩]
def f62_r1 : List LOp := [
  ⟨some 10, .move (.tmp 0), none⟩,
  ⟨some 11, .call { callee := .builtin .len, args := #[.tmp 10], argTypes := #[22] }, none⟩,
  ⟨some 12, .move (.tmp 1), none⟩,
  ⟨some 13, .call { callee := .builtin .len, args := #[.tmp 12], argTypes := #[22] }, none⟩,
  ⟨some 14, .binOp .neq 3 (.tmp 11) (.tmp 13) 3, none⟩]
def f62_r2 : List LOp := [
  ⟨some 6, .assign (.const (.bool false)), none⟩]
def f62_r3 : List LOp := [
  ⟨some 15, .move (.tmp 0), none⟩,
  ⟨some 16, .call { callee := .builtin .len, args := #[.tmp 15], argTypes := #[22] }, none⟩,
  ⟨some 17, .move (.const (.int .i64 0)), none⟩]
def f62_r4 : List LOp := [
  ⟨some 18, .binOp .lss 3 (.tmp 17) (.tmp 16) 3, none⟩]
def f62_r5 : List LOp := [
  ⟨some 19, .move (.tmp 17), none⟩,
  ⟨some 20, .indexAddr 22 (.tmp 15) (.tmp 17), none⟩,
  ⟨some 21, .load 27 (.tmp 20), none⟩,
  ⟨some 8, .alloc 27, none⟩,
  ⟨some 7, .assign (.tmp 19), none⟩,
  ⟨none, .store 27 (.tmp 8) (.tmp 21), none⟩]
def f62_r6 : List LOp := [
  ⟨some 22, .move (.tmp 1), none⟩,
  ⟨some 23, .move (.tmp 7), none⟩,
  ⟨some 24, .indexAddr 22 (.tmp 22) (.tmp 23), none⟩,
  ⟨some 25, .load 27 (.tmp 24), none⟩,
  ⟨some 9, .alloc 27, none⟩,
  ⟨none, .store 27 (.tmp 9) (.tmp 25), none⟩]
def f62_r7 : List LOp := [
  ⟨some 26, .move (.tmp 2), none⟩,
  ⟨some 27, .load 27 (.tmp 8), none⟩,
  ⟨some 28, .load 27 (.tmp 9), none⟩,
  ⟨some 29, .call { callee := .value (.tmp 26), args := #[.tmp 27, .tmp 28], argTypes := #[27, 27] }, none⟩,
  ⟨some 30, .unOp .not 4 (.tmp 29), none⟩]
def f62_r8 : List LOp := [
  ⟨some 6, .assign (.const (.bool false)), none⟩]
def f62_r9 : List LOp := [
  ⟨some 31, .binOp .add 3 (.tmp 17) (.const (.int .i64 1)) 3, none⟩,
  ⟨some 17, .move (.tmp 31), none⟩]
def f62_l10 : LC := (.seq (.reg f62_r4 [] none) (.seq (.cond (.tmp 18) .skip (.exit 0)) (.seq (.block 1 (.seq (.reg f62_r5 [] none) (.seq (.reg f62_r6 [] none) (.seq (.reg f62_r7 [] none) (.cond (.tmp 30) (.seq (.reg f62_r8 [] none) .ret) .skip))))) (.reg f62_r9 [] none))))
def f62_i10 (t1 t2 t15 t16 t17 : D) : List D := [.any, t1, t2, .any, .any, .any, .any, .any, .any, .any, .any, .any, .any, .any, .any, t15, t16, t17, .any, .any, .any, .any, .any, .any, .any, .any, .any, .any, .any, .any, .any, .any]
def f62_r11 : List LOp := [
  ⟨some 6, .assign (.const (.bool true)), none⟩]
def f62_c : LC := (.seq (.reg f62_r0 [] none) (.seq (.seq (.reg f62_r1 [] none) (.cond (.tmp 14) (.seq (.reg f62_r2 [] none) .ret) .skip)) (.seq (.seq (.reg f62_r3 [] none) (.block 0 (.loop f62_l10))) (.seq (.reg f62_r11 [] none) .ret))))
theorem f62_lc : Tryz.f62.body.map lc = some f62_c.st := by kernel_rfl
theorem f62_res : Tryz.f62.results.toList = [.tmp 6] := by kernel_rfl
theorem f62_nt : Tryz.f62.ntmps = 32 := by kernel_rfl
theorem f62_nm : (Tryz.f62.name == "runtime.NumGoroutine") = false := by kernel_rfl

/-! quill/quillref02.Has -/
def f63_r0 : List LOp := [
  ⟨some 2, .box 25 (.tmp 0), none⟩,
  ⟨some 4, .assign (.const (.bool false)), none⟩]
def f63_r1 : List LOp := [
  ⟨some 7, .move (.tmp 1), none⟩,
  ⟨some 8, .binOp .quo 3 (.tmp 7) (.const (.int .i64 64)) 3, none⟩,
  ⟨some 9, .indexAddr 25 (.tmp 2) (.tmp 8), none⟩,
  ⟨some 10, .load 23 (.tmp 9), none⟩,
  ⟨some 5, .assign (.tmp 10), none⟩]
def f63_r2 : List LOp := [
  ⟨some 6, .assign (.const (.int .i64 0)), none⟩]
def f63_r3 : List LOp := [
  ⟨some 11, .move (.tmp 6), none⟩,
  ⟨some 12, .move (.tmp 1), none⟩,
  ⟨some 13, .binOp .rem 3 (.tmp 12) (.const (.int .i64 64)) 3, none⟩,
  ⟨some 14, .binOp .lss 3 (.tmp 11) (.tmp 13) 3, none⟩]
def f63_r4 : List LOp := [
  ⟨some 17, .move (.tmp 5), none⟩,
  ⟨some 18, .binOp .quo 23 (.tmp 17) (.const (.int .u64 2)) 23, none⟩,
  ⟨some 5, .assign (.tmp 18), none⟩]
def f63_r5 : List LOp := [
  ⟨some 15, .move (.tmp 6), none⟩,
  ⟨some 16, .binOp .add 3 (.tmp 15) (.const (.int .i64 1)) 3, none⟩,
  ⟨some 6, .assign (.tmp 16), none⟩]
def f63_l6 : LC := (.seq (.seq (.reg f63_r3 [] none) (.cond (.tmp 14) .skip (.exit 0))) (.seq (.block 1 (.reg f63_r4 [] none)) (.reg f63_r5 [] none)))
def f63_i6 (t1 t5 t6 : D) : List D := [.any, t1, .any, .any, .any, t5, t6, .any, .any, .any, .any, .any, .any, .any, .any, .any, .any, .any, .any, .any, .any, .any]
def f63_r7 : List LOp := [
  ⟨some 19, .move (.tmp 5), none⟩,
  ⟨some 20, .binOp .rem 23 (.tmp 19) (.const (.int .u64 2)) 23, none⟩,
  ⟨some 21, .binOp .eql 23 (.tmp 20) (.const (.int .u64 1)) 23, none⟩,
  ⟨some 4, .assign (.tmp 21), none⟩]
def f63_c : LC := (.seq (.reg f63_r0 [] none) (.seq (.reg f63_r1 [] none) (.seq (.seq (.reg f63_r2 [] none) (.block 0 (.loop f63_l6))) (.seq (.reg f63_r7 [] none) .ret))))
theorem f63_lc : Tryz.f63.body.map lc = some f63_c.st := by kernel_rfl
theorem f63_res : Tryz.f63.results.toList = [.tmp 4] := by kernel_rfl
theorem f63_nt : Tryz.f63.ntmps = 22 := by kernel_rfl
theorem f63_nm : (Tryz.f63.name == "runtime.NumGoroutine") = false := by kernel_rfl

/-! quill/quillref02.With -/
def f64_r0 : List LOp := [
  ⟨some 2, .box 25 (.tmp 0), none⟩,
  ⟨some 4, .alloc 25, none⟩]
def f64_r1 : List LOp := [
  ⟨some 7, .load 25 (.tmp 2), none⟩,
  ⟨some 8, .move (.tmp 1), none⟩,
  ⟨some 9, .call { callee := .value (.func 63), args := #[.tmp 7, .tmp 8], argTypes := #[25, 3] }, none⟩]
def f64_r2 : List LOp := [
  ⟨some 10, .load 25 (.tmp 2), none⟩,
  ⟨none, .store 25 (.tmp 4) (.tmp 10), none⟩]
def f64_r3 : List LOp := [
  ⟨some 5, .assign (.const (.int .u64 1)), none⟩]
def f64_r4 : List LOp := [
  ⟨some 6, .assign (.const (.int .i64 0)), none⟩]
def f64_r5 : List LOp := [
  ⟨some 11, .move (.tmp 6), none⟩,
  ⟨some 12, .move (.tmp 1), none⟩,
  ⟨some 13, .binOp .rem 3 (.tmp 12) (.const (.int .i64 64)) 3, none⟩,
  ⟨some 14, .binOp .lss 3 (.tmp 11) (.tmp 13) 3, none⟩]
def f64_r6 : List LOp := [
  ⟨some 17, .move (.tmp 5), none⟩,
  ⟨some 18, .binOp .mul 23 (.const (.int .u64 2)) (.tmp 17) 23, none⟩,
  ⟨some 5, .assign (.tmp 18), none⟩]
def f64_r7 : List LOp := [
  ⟨some 15, .move (.tmp 6), none⟩,
  ⟨some 16, .binOp .add 3 (.tmp 15) (.const (.int .i64 1)) 3, none⟩,
  ⟨some 6, .assign (.tmp 16), none⟩]
def f64_l8 : LC := (.seq (.seq (.reg f64_r5 [] none) (.cond (.tmp 14) .skip (.exit 0))) (.seq (.block 1 (.reg f64_r6 [] none)) (.reg f64_r7 [] none)))
def f64_i8 (t1 t2 t4 t5 t6 : D) : List D := [.any, t1, t2, .any, t4, t5, t6, .any, .any, .any, .any, .any, .any, .any, .any, .any, .any, .any, .any, .any, .any, .any, .any, .any, .any, .any, .any, .any, .any]
def f64_r9 : List LOp := [
  ⟨some 19, .move (.tmp 1), none⟩,
  ⟨some 20, .binOp .quo 3 (.tmp 19) (.const (.int .i64 64)) 3, none⟩,
  ⟨some 21, .move (.tmp 1), none⟩,
  ⟨some 22, .binOp .quo 3 (.tmp 21) (.const (.int .i64 64)) 3, none⟩,
  ⟨some 23, .indexAddr 25 (.tmp 2) (.tmp 22), none⟩,
  ⟨some 24, .load 23 (.tmp 23), none⟩,
  ⟨some 25, .move (.tmp 5), none⟩,
  ⟨some 26, .binOp .add 23 (.tmp 24) (.tmp 25) 23, none⟩,
  ⟨some 27, .indexAddr 25 (.tmp 2) (.tmp 20), none⟩,
  ⟨none, .store 23 (.tmp 27) (.tmp 26), none⟩]
def f64_r10 : List LOp := [
  ⟨some 28, .load 25 (.tmp 2), none⟩,
  ⟨none, .store 25 (.tmp 4) (.tmp 28), none⟩]
def f64_c : LC := (.seq (.reg f64_r0 [0] none) (.seq (.seq (.reg f64_r1 [] none) (.cond (.tmp 9) (.seq (.reg f64_r2 [] none) .ret) .skip)) (.seq (.reg f64_r3 [] none) (.seq (.seq (.reg f64_r4 [] none) (.block 0 (.loop f64_l8))) (.seq (.reg f64_r9 [] none) (.seq (.reg f64_r10 [] none) .ret))))))
theorem f64_lc : Tryz.f64.body.map lc = some f64_c.st := by kernel_rfl
theorem f64_res : Tryz.f64.results.toList = [.cell 4 25] := by kernel_rfl
theorem f64_nt : Tryz.f64.ntmps = 29 := by kernel_rfl
theorem f64_nm : (Tryz.f64.name == "runtime.NumGoroutine") = false := by kernel_rfl

/-! quill/quillref04.In -/
def f65_r0 : List LOp := [
  ⟨some 3, .box 27 (.tmp 1), none⟩,
  ⟨some 4, .assign (.const (.bool false)), none⟩]
def f65_r1 : List LOp := [
  ⟨some 6, .move (.tmp 0), none⟩,
  ⟨some 7, .call { callee := .builtin .len, args := #[.tmp 6], argTypes := #[22] }, none⟩,
  ⟨some 8, .move (.const (.int .i64 0)), none⟩]
def f65_r2 : List LOp := [
  ⟨some 9, .binOp .lss 3 (.tmp 8) (.tmp 7) 3, none⟩]
def f65_r3 : List LOp := [
  ⟨some 10, .move (.tmp 8), none⟩,
  ⟨some 5, .assign (.tmp 10), none⟩]
def f65_r4 : List LOp := [
  ⟨some 11, .move (.tmp 0), none⟩,
  ⟨some 12, .move (.tmp 5), none⟩,
  ⟨some 13, .indexAddr 22 (.tmp 11) (.tmp 12), none⟩,
  ⟨some 14, .load 27 (.tmp 13), none⟩,
  ⟨some 15, .load 27 (.tmp 3), none⟩,
  ⟨some 16, .call { callee := .value (.func 10), args := #[.tmp 14, .tmp 15], argTypes := #[27, 27] }, none⟩]
def f65_r5 : List LOp := [
  ⟨some 4, .assign (.const (.bool true)), none⟩]
def f65_r6 : List LOp := [
  ⟨some 17, .binOp .add 3 (.tmp 8) (.const (.int .i64 1)) 3, none⟩,
  ⟨some 8, .move (.tmp 17), none⟩]
def f65_l7 : LC := (.seq (.reg f65_r2 [] none) (.seq (.cond (.tmp 9) .skip (.exit 0)) (.seq (.block 1 (.seq (.reg f65_r3 [] none) (.seq (.reg f65_r4 [] (some 5)) (.cond (.tmp 16) (.seq (.reg f65_r5 [] none) .ret) .skip)))) (.reg f65_r6 [] none))))
def f65_i7 (t0 t3 t7 t8 : D) : List D := [t0, .any, .any, t3, .any, .any, .any, t7, t8, .any, .any, .any, .any, .any, .any, .any, .any, .any]
def f65_r8 : List LOp := [
  ⟨some 4, .assign (.const (.bool false)), none⟩]
def f65_c : LC := (.seq (.reg f65_r0 [] none) (.seq (.seq (.reg f65_r1 [] none) (.block 0 (.loop f65_l7))) (.seq (.reg f65_r8 [] none) .ret)))
theorem f65_lc : Tryz.f65.body.map lc = some f65_c.st := by kernel_rfl
theorem f65_res : Tryz.f65.results.toList = [.tmp 4] := by kernel_rfl
theorem f65_nt : Tryz.f65.ntmps = 18 := by kernel_rfl
theorem f65_nm : (Tryz.f65.name == "runtime.NumGoroutine") = false := by kernel_rfl

/-! quill/quillref04.Two -/
def f66_r0 : List LOp := [
  ⟨some 2, .box 27 (.tmp 0), none⟩,
  ⟨some 3, .box 27 (.tmp 1), none⟩,
  ⟨some 4, .assign (.const (.int .i64 0)), none⟩]
def f66_r1 : List LOp := [
  ⟨some 8, .fieldAddr 27 (.tmp 2) 0, none⟩,
  ⟨some 9, .load 5 (.tmp 8), none⟩,
  ⟨some 10, .fieldAddr 27 (.tmp 3) 0, none⟩,
  ⟨some 11, .load 5 (.tmp 10), none⟩,
  ⟨some 12, .binOp .lss 5 (.tmp 9) (.tmp 11) 5, none⟩]
def f66_r2 : List LOp := [
  ⟨some 4, .assign (.const (.int .i64 (-1))), none⟩]
def f66_r3 : List LOp := [
  ⟨some 13, .fieldAddr 27 (.tmp 2) 0, none⟩,
  ⟨some 14, .load 5 (.tmp 13), none⟩,
  ⟨some 15, .fieldAddr 27 (.tmp 3) 0, none⟩,
  ⟨some 16, .load 5 (.tmp 15), none⟩,
  ⟨some 17, .binOp .gtr 5 (.tmp 14) (.tmp 16) 5, none⟩]
def f66_r4 : List LOp := [
  ⟨some 4, .assign (.const (.int .i64 1)), none⟩]
def f66_r5 : List LOp := [
  ⟨some 18, .fieldAddr 27 (.tmp 2) 1, none⟩,
  ⟨some 19, .load 25 (.tmp 18), none⟩,
  ⟨some 20, .fieldAddr 27 (.tmp 3) 1, none⟩,
  ⟨some 21, .load 25 (.tmp 20), none⟩,
  ⟨some 22, .call { callee := .value (.func 75), args := #[.tmp 19, .tmp 21], argTypes := #[25, 25] }, none⟩,
  ⟨some 5, .assign (.tmp 22), none⟩]
def f66_r6 : List LOp := [
  ⟨some 23, .move (.tmp 5), none⟩,
  ⟨some 24, .binOp .neq 3 (.tmp 23) (.const (.int .i64 0)) 3, none⟩]
def f66_r7 : List LOp := [
  ⟨some 25, .move (.tmp 5), none⟩,
  ⟨some 4, .assign (.tmp 25), none⟩]
def f66_r8 : List LOp := [
  ⟨some 26, .fieldAddr 27 (.tmp 2) 2, none⟩,
  ⟨some 27, .load 22 (.tmp 26), none⟩,
  ⟨some 28, .call { callee := .builtin .len, args := #[.tmp 27], argTypes := #[22] }, none⟩,
  ⟨some 29, .move (.const (.int .i64 0)), none⟩]
def f66_r9 : List LOp := [
  ⟨some 30, .binOp .lss 3 (.tmp 29) (.tmp 28) 3, none⟩]
def f66_r10 : List LOp := [
  ⟨some 31, .move (.tmp 29), none⟩,
  ⟨some 6, .assign (.tmp 31), none⟩]
def f66_r11 : List LOp := [
  ⟨some 32, .move (.tmp 6), none⟩,
  ⟨some 33, .fieldAddr 27 (.tmp 3) 2, none⟩,
  ⟨some 34, .load 22 (.tmp 33), none⟩,
  ⟨some 35, .call { callee := .builtin .len, args := #[.tmp 34], argTypes := #[22] }, none⟩,
  ⟨some 36, .binOp .eql 3 (.tmp 32) (.tmp 35) 3, none⟩]
def f66_r12 : List LOp := [
  ⟨some 4, .assign (.const (.int .i64 1)), none⟩]
def f66_r13 : List LOp := [
  ⟨some 37, .fieldAddr 27 (.tmp 2) 2, none⟩,
  ⟨some 38, .load 22 (.tmp 37), none⟩,
  ⟨some 39, .move (.tmp 6), none⟩,
  ⟨some 40, .indexAddr 22 (.tmp 38) (.tmp 39), none⟩,
  ⟨some 41, .load 27 (.tmp 40), none⟩,
  ⟨some 42, .fieldAddr 27 (.tmp 3) 2, none⟩,
  ⟨some 43, .load 22 (.tmp 42), none⟩,
  ⟨some 44, .move (.tmp 6), none⟩,
  ⟨some 45, .indexAddr 22 (.tmp 43) (.tmp 44), none⟩,
  ⟨some 46, .load 27 (.tmp 45), none⟩,
  ⟨some 47, .call { callee := .value (.func 66), args := #[.tmp 41, .tmp 46], argTypes := #[27, 27] }, none⟩,
  ⟨some 7, .assign (.tmp 47), none⟩]
def f66_r14 : List LOp := [
  ⟨some 48, .move (.tmp 7), none⟩,
  ⟨some 49, .binOp .neq 3 (.tmp 48) (.const (.int .i64 0)) 3, none⟩]
def f66_r15 : List LOp := [
  ⟨some 50, .move (.tmp 7), none⟩,
  ⟨some 4, .assign (.tmp 50), none⟩]
def f66_r16 : List LOp := [
  ⟨some 51, .binOp .add 3 (.tmp 29) (.const (.int .i64 1)) 3, none⟩,
  ⟨some 29, .move (.tmp 51), none⟩]
def f66_l17 : LC := (.seq (.reg f66_r9 [] none) (.seq (.cond (.tmp 30) .skip (.exit 0)) (.seq (.block 1 (.seq (.reg f66_r10 [] none) (.seq (.seq (.reg f66_r11 [] none) (.cond (.tmp 36) (.seq (.reg f66_r12 [] none) .ret) .skip)) (.seq (.reg f66_r13 [] (some 10)) (.seq (.reg f66_r14 [] none) (.cond (.tmp 49) (.seq (.reg f66_r15 [] none) .ret) .skip)))))) (.reg f66_r16 [] none))))
def f66_i17 (t2 t3 t28 t29 : D) : List D := [.any, .any, t2, t3, .any, .any, .any, .any, .any, .any, .any, .any, .any, .any, .any, .any, .any, .any, .any, .any, .any, .any, .any, .any, .any, .any, .any, .any, t28, t29, .any, .any, .any, .any, .any, .any, .any, .any, .any, .any, .any, .any, .any, .any, .any, .any, .any, .any, .any, .any, .any, .any, .any, .any, .any, .any, .any, .any, .any]
def f66_r18 : List LOp := [
  ⟨some 52, .fieldAddr 27 (.tmp 2) 2, none⟩,
  ⟨some 53, .load 22 (.tmp 52), none⟩,
  ⟨some 54, .call { callee := .builtin .len, args := #[.tmp 53], argTypes := #[22] }, none⟩,
  ⟨some 55, .fieldAddr 27 (.tmp 3) 2, none⟩,
  ⟨some 56, .load 22 (.tmp 55), none⟩,
  ⟨some 57, .call { callee := .builtin .len, args := #[.tmp 56], argTypes := #[22] }, none⟩,
  ⟨some 58, .binOp .lss 3 (.tmp 54) (.tmp 57) 3, none⟩]
def f66_r19 : List LOp := [
  ⟨some 4, .assign (.const (.int .i64 (-1))), none⟩]
def f66_r20 : List LOp := [
  ⟨some 4, .assign (.const (.int .i64 0)), none⟩]
def f66_c : LC := (.seq (.reg f66_r0 [] none) (.seq (.seq (.reg f66_r1 [] none) (.cond (.tmp 12) (.seq (.reg f66_r2 [] none) .ret) .skip)) (.seq (.seq (.reg f66_r3 [] none) (.cond (.tmp 17) (.seq (.reg f66_r4 [] none) .ret) .skip)) (.seq (.reg f66_r5 [] none) (.seq (.seq (.reg f66_r6 [] none) (.cond (.tmp 24) (.seq (.reg f66_r7 [] none) .ret) .skip)) (.seq (.seq (.reg f66_r8 [] none) (.block 0 (.loop f66_l17))) (.seq (.seq (.reg f66_r18 [] none) (.cond (.tmp 58) (.seq (.reg f66_r19 [] none) .ret) .skip)) (.seq (.reg f66_r20 [] none) .ret))))))))
theorem f66_lc : Tryz.f66.body.map lc = some f66_c.st := by kernel_rfl
theorem f66_res : Tryz.f66.results.toList = [.tmp 4] := by kernel_rfl
theorem f66_nt : Tryz.f66.ntmps = 59 := by kernel_rfl
theorem f66_nm : (Tryz.f66.name == "runtime.NumGoroutine") = false := by kernel_rfl

/-! quill/order.Once$1 -/
def f67_r0 : List LOp := [
  ⟨some 2, .box 27 (.tmp 0), none⟩,
  ⟨some 3, .assign (.const (.bool false)), none⟩]
def f67_r1 : List LOp := [
  ⟨some 4, .load 27 (.tmp 2), none⟩,
  ⟨some 5, .load 27 (.tmp 1), none⟩,
  ⟨some 6, .call { callee := .value (.func 68), args := #[.tmp 4, .tmp 5], argTypes := #[27, 27] }, none⟩,
  ⟨some 7, .binOp .eql 3 (.tmp 6) (.const (.int .i64 0)) 3, none⟩,
  ⟨some 3, .assign (.tmp 7), none⟩]
def f67_c : LC := (.seq (.reg f67_r0 [] none) (.seq (.reg f67_r1 [] none) .ret))
theorem f67_lc : Tryz.f67.body.map lc = some f67_c.st := by kernel_rfl
theorem f67_res : Tryz.f67.results.toList = [.tmp 3] := by kernel_rfl
theorem f67_nt : Tryz.f67.ntmps = 8 := by kernel_rfl
theorem f67_nm : (Tryz.f67.name == "runtime.NumGoroutine") = false := by kernel_rfl

/-! quill/order.Two -/
def f68_r0 : List LOp := [
  ⟨some 2, .box 27 (.tmp 0), none⟩,
  ⟨some 3, .box 27 (.tmp 1), none⟩,
  ⟨some 4, .assign (.const (.int .i64 0)), none⟩]
def f68_r1 : List LOp := [
  ⟨some 5, .fieldAddr 27 (.tmp 2) 0, none⟩,
  ⟨some 6, .load 5 (.tmp 5), none⟩,
  ⟨some 7, .fieldAddr 27 (.tmp 3) 0, none⟩,
  ⟨some 8, .load 5 (.tmp 7), none⟩,
  ⟨some 9, .call { callee := .value (.func 77), args := #[.tmp 6, .tmp 8], argTypes := #[5, 5] }, none⟩,
  ⟨some 10, .fieldAddr 27 (.tmp 2) 1, none⟩,
  ⟨some 11, .load 25 (.tmp 10), none⟩,
  ⟨some 12, .fieldAddr 27 (.tmp 3) 1, none⟩,
  ⟨some 13, .load 25 (.tmp 12), none⟩,
  ⟨some 14, .call { callee := .value (.func 78), args := #[.tmp 11, .tmp 13], argTypes := #[25, 25] }, none⟩,
  ⟨some 15, .fieldAddr 27 (.tmp 2) 2, none⟩,
  ⟨some 16, .load 22 (.tmp 15), none⟩,
  ⟨some 17, .fieldAddr 27 (.tmp 3) 2, none⟩,
  ⟨some 18, .load 22 (.tmp 17), none⟩,
  ⟨some 19, .call { callee := .value (.func 79), args := #[.tmp 16, .tmp 18, .func 68], argTypes := #[22, 22, 77] }, none⟩,
  ⟨some 20, .buildSlice 44 3 #[(0, .tmp 9), (1, .tmp 14), (2, .tmp 19)], none⟩,
  ⟨some 21, .call { callee := .value (.func 76), args := #[.tmp 20], argTypes := #[44] }, none⟩,
  ⟨some 4, .assign (.tmp 21), none⟩]
def f68_c : LC := (.seq (.reg f68_r0 [] none) (.seq (.reg f68_r1 [] (some 14)) .ret))
theorem f68_lc : Tryz.f68.body.map lc = some f68_c.st := by kernel_rfl
theorem f68_res : Tryz.f68.results.toList = [.tmp 4] := by kernel_rfl
theorem f68_nt : Tryz.f68.ntmps = 22 := by kernel_rfl
theorem f68_nm : (Tryz.f68.name == "runtime.NumGoroutine") = false := by kernel_rfl

/-! slices.SortedStableFunc[quill/api.Re] -/
def f69_r0 : List LOp := [
  ⟨some 4, .assign (.const (.slice none 0 0)), none⟩]
def f69_r1 : List LOp := [
  ⟨some 6, .move (.tmp 0), none⟩,
  ⟨some 7, .call { callee := .value (.func 80), args := #[.tmp 6], argTypes := #[81] }, none⟩,
  ⟨some 5, .assign (.tmp 7), none⟩]
def f69_r2 : List LOp := [
  ⟨some 8, .move (.tmp 5), none⟩,
  ⟨some 9, .move (.tmp 1), none⟩,
  ⟨some 10, .call { callee := .value (.func 81), args := #[.tmp 8, .tmp 9], argTypes := #[22, 77] }, none⟩]
def f69_r3 : List LOp := [
  ⟨some 11, .move (.tmp 5), none⟩,
  ⟨some 4, .assign (.tmp 11), none⟩]
def f69_c : LC := (.seq (.reg f69_r0 [] none) (.seq (.reg f69_r1 [] none) (.seq (.reg f69_r2 [] none) (.seq (.reg f69_r3 [] none) .ret))))
theorem f69_lc : Tryz.f69.body.map lc = some f69_c.st := by kernel_rfl
theorem f69_res : Tryz.f69.results.toList = [.tmp 4] := by kernel_rfl
theorem f69_nt : Tryz.f69.ntmps = 12 := by kernel_rfl
theorem f69_nm : (Tryz.f69.name == "runtime.NumGoroutine") = false := by kernel_rfl

/-! slices.Values[[]quill/api.Re,quill/api.Re] -/
def f70_r0 : List LOp := [
  ⟨some 1, .box 22 (.tmp 0), none⟩,
  ⟨some 2, .assign (.const .nilFunc), none⟩]
def f70_r1 : List LOp := [
  ⟨some 3, .makeFunc (.func 82) #[] #[.tmp 1], none⟩,
  ⟨some 2, .assign (.tmp 3), none⟩]
def f70_c : LC := (.seq (.reg f70_r0 [] none) (.seq (.reg f70_r1 [] none) .ret))
theorem f70_lc : Tryz.f70.body.map lc = some f70_c.st := by kernel_rfl
theorem f70_res : Tryz.f70.results.toList = [.tmp 2] := by kernel_rfl
theorem f70_nt : Tryz.f70.ntmps = 4 := by kernel_rfl
theorem f70_nm : (Tryz.f70.name == "runtime.NumGoroutine") = false := by kernel_rfl

/-! (*quill/read.reader).row -/
def f71_r0 : List LOp := [
  ⟨some 2, .alloc 27, none⟩]
def f71_r1 : List LOp := [
  ⟨some 4, .move (.tmp 0), none⟩,
  ⟨some 5, .call { callee := .value (.func 83), args := #[.tmp 4], argTypes := #[53] }, none⟩,
  ⟨some 6, .buildSlice 22 1 #[(0, .tmp 5)], none⟩,
  ⟨some 3, .assign (.tmp 6), none⟩]
def f71_r2 : List LOp := [
  ⟨some 7, .move (.tmp 0), none⟩,
  ⟨some 8, .call { callee := .value (.func 72), args := #[.tmp 7, .const (.string { data := #[46, 91, 40] })], argTypes := #[53, 9] }, none⟩,
  ⟨some 9, .move (.tmp 8), none⟩,
  ⟨some 10, .move (.tmp 0), some (2, false)⟩,
  ⟨some 11, .call { callee := .value (.func 84), args := #[.tmp 10], argTypes := #[53] }, some (2, false)⟩,
  ⟨some 12, .pick (.tmp 9) (.const (.bool true)) (.tmp 11), none⟩]
def f71_r3 : List LOp := [
  ⟨some 13, .move (.tmp 3), none⟩,
  ⟨some 14, .move (.tmp 0), none⟩,
  ⟨some 15, .call { callee := .value (.func 83), args := #[.tmp 14], argTypes := #[53] }, none⟩,
  ⟨some 16, .buildSlice 22 1 #[(0, .tmp 15)], none⟩,
  ⟨some 17, .call { callee := .builtin .append, args := #[.tmp 13, .tmp 16], argTypes := #[22, 22] }, none⟩,
  ⟨some 3, .assign (.tmp 17), none⟩]
def f71_l4 : LC := (.seq (.seq (.reg f71_r2 [] none) (.cond (.tmp 12) .skip (.exit 0))) (.block 1 (.reg f71_r3 [] none)))
def f71_i4 (t0 t2 t3 : D) : List D := [t0, .any, t2, t3, .any, .any, .any, .any, .any, .any, .any, .any, .any, .any, .any, .any, .any, .any, .any, .any]
def f71_r5 : List LOp := [
  ⟨some 18, .move (.tmp 3), none⟩,
  ⟨some 19, .call { callee := .value (.func 26), args := #[.tmp 18], argTypes := #[22] }, none⟩,
  ⟨none, .store 27 (.tmp 2) (.tmp 19), none⟩]
def f71_c : LC := (.seq (.reg f71_r0 [] none) (.seq (.reg f71_r1 [2] none) (.seq (.block 0 (.loop f71_l4)) (.seq (.reg f71_r5 [] none) .ret))))
theorem f71_lc : Tryz.f71.body.map lc = some f71_c.st := by kernel_rfl
theorem f71_res : Tryz.f71.results.toList = [.cell 2 27] := by kernel_rfl
theorem f71_nt : Tryz.f71.ntmps = 20 := by kernel_rfl
theorem f71_nm : (Tryz.f71.name == "runtime.NumGoroutine") = false := by kernel_rfl

/-! (*quill/read.reader).is -/
def f72_r0 : List LOp := [
  ⟨some 4, .assign (.const (.bool false)), none⟩]
def f72_r1 : List LOp := [
  ⟨some 5, .move (.tmp 0), none⟩,
  ⟨some 6, .nilCheck (.tmp 5), none⟩,
  ⟨some 7, .fieldAddr 55 (.tmp 6) 1, none⟩,
  ⟨some 8, .load 3 (.tmp 7), none⟩,
  ⟨some 9, .move (.tmp 0), none⟩,
  ⟨some 10, .nilCheck (.tmp 9), none⟩,
  ⟨some 11, .fieldAddr 55 (.tmp 10) 0, none⟩,
  ⟨some 12, .load 9 (.tmp 11), none⟩,
  ⟨some 13, .call { callee := .builtin .len, args := #[.tmp 12], argTypes := #[9] }, none⟩,
  ⟨some 14, .binOp .lss 3 (.tmp 8) (.tmp 13) 3, none⟩,
  ⟨some 15, .move (.tmp 14), none⟩,
  ⟨some 16, .move (.tmp 1), some (10, true)⟩,
  ⟨some 17, .move (.tmp 0), some (10, true)⟩,
  ⟨some 18, .nilCheck (.tmp 17), some (10, true)⟩,
  ⟨some 19, .fieldAddr 55 (.tmp 18) 0, some (10, true)⟩,
  ⟨some 20, .load 9 (.tmp 19), some (10, true)⟩,
  ⟨some 21, .move (.tmp 0), some (10, true)⟩,
  ⟨some 22, .nilCheck (.tmp 21), some (10, true)⟩,
  ⟨some 23, .fieldAddr 55 (.tmp 22) 1, some (10, true)⟩,
  ⟨some 24, .load 3 (.tmp 23), some (10, true)⟩,
  ⟨some 25, .index 9 (.tmp 20) (.tmp 24), some (10, true)⟩,
  ⟨some 26, .call { callee := .value (.func 85), args := #[.tmp 16, .tmp 25], argTypes := #[9, 5] }, some (10, true)⟩,
  ⟨some 27, .binOp .geq 3 (.tmp 26) (.const (.int .i64 0)) 3, some (10, true)⟩,
  ⟨some 28, .pick (.tmp 15) (.tmp 27) (.const (.bool false)), none⟩,
  ⟨some 4, .assign (.tmp 28), none⟩]
def f72_c : LC := (.seq (.reg f72_r0 [] none) (.seq (.reg f72_r1 [] (some 24)) .ret))
theorem f72_lc : Tryz.f72.body.map lc = some f72_c.st := by kernel_rfl
theorem f72_res : Tryz.f72.results.toList = [.tmp 4] := by kernel_rfl
theorem f72_nt : Tryz.f72.ntmps = 29 := by kernel_rfl
theorem f72_nm : (Tryz.f72.name == "runtime.NumGoroutine") = false := by kernel_rfl

/-! quill/rex.node -/
def f73_r0 : List LOp := [
  ⟨some 1, .box 27 (.tmp 0), none⟩,
  ⟨some 2, .assign (.const (.bool false)), none⟩]
def f73_r1 : List LOp := [
  ⟨some 5, .fieldAddr 27 (.tmp 1) 2, none⟩,
  ⟨some 6, .load 22 (.tmp 5), none⟩,
  ⟨some 7, .call { callee := .builtin .len, args := #[.tmp 6], argTypes := #[22] }, none⟩,
  ⟨some 8, .fieldAddr 27 (.tmp 1) 1, none⟩,
  ⟨some 9, .load 25 (.tmp 8), none⟩,
  ⟨some 10, .build 25 #[], none⟩,
  ⟨some 11, .binOp .eql 25 (.tmp 9) (.tmp 10) 25, none⟩,
  ⟨some 3, .assign (.tmp 7), none⟩,
  ⟨some 4, .assign (.tmp 11), none⟩]
def f73_r2 : List LOp := [
  ⟨some 12, .fieldAddr 27 (.tmp 1) 0, none⟩,
  ⟨some 13, .load 5 (.tmp 12), none⟩]
def f73_r3 : List LOp := [
  ⟨some 15, .binOp .eql 5 (.tmp 13) (.const (.int .u8 1)) 5, none⟩,
  ⟨some 14, .assign (.tmp 15), none⟩]
def f73_r4 : List LOp := [
  ⟨some 16, .binOp .eql 5 (.tmp 13) (.const (.int .u8 2)) 5, none⟩,
  ⟨some 14, .assign (.tmp 16), none⟩]
def f73_r5 : List LOp := [
  ⟨some 17, .move (.tmp 3), none⟩,
  ⟨some 18, .binOp .eql 3 (.tmp 17) (.const (.int .i64 0)) 3, none⟩,
  ⟨some 19, .move (.tmp 18), none⟩,
  ⟨some 20, .move (.tmp 4), some (2, true)⟩,
  ⟨some 21, .pick (.tmp 19) (.tmp 20) (.const (.bool false)), none⟩,
  ⟨some 2, .assign (.tmp 21), none⟩]
def f73_r6 : List LOp := [
  ⟨some 23, .binOp .eql 5 (.tmp 13) (.const (.int .u8 3)) 5, none⟩,
  ⟨some 22, .assign (.tmp 23), none⟩]
def f73_r7 : List LOp := [
  ⟨some 24, .move (.tmp 3), none⟩,
  ⟨some 25, .binOp .eql 3 (.tmp 24) (.const (.int .i64 0)) 3, none⟩,
  ⟨some 26, .move (.tmp 25), none⟩,
  ⟨some 27, .move (.tmp 4), some (2, true)⟩,
  ⟨some 28, .unOp .not 4 (.tmp 27), some (2, true)⟩,
  ⟨some 29, .pick (.tmp 26) (.tmp 28) (.const (.bool false)), none⟩,
  ⟨some 2, .assign (.tmp 29), none⟩]
def f73_r8 : List LOp := [
  ⟨some 31, .binOp .eql 5 (.tmp 13) (.const (.int .u8 4)) 5, none⟩,
  ⟨some 30, .assign (.tmp 31), none⟩]
def f73_r9 : List LOp := [
  ⟨some 32, .binOp .eql 5 (.tmp 13) (.const (.int .u8 5)) 5, none⟩,
  ⟨some 30, .assign (.tmp 32), none⟩]
def f73_r10 : List LOp := [
  ⟨some 33, .move (.tmp 3), none⟩,
  ⟨some 34, .binOp .eql 3 (.tmp 33) (.const (.int .i64 2)) 3, none⟩,
  ⟨some 35, .move (.tmp 34), none⟩,
  ⟨some 36, .move (.tmp 4), some (2, true)⟩,
  ⟨some 37, .pick (.tmp 35) (.tmp 36) (.const (.bool false)), none⟩,
  ⟨some 2, .assign (.tmp 37), none⟩]
def f73_r11 : List LOp := [
  ⟨some 39, .binOp .eql 5 (.tmp 13) (.const (.int .u8 6)) 5, none⟩,
  ⟨some 38, .assign (.tmp 39), none⟩]
def f73_r12 : List LOp := [
  ⟨some 40, .move (.tmp 3), none⟩,
  ⟨some 41, .binOp .eql 3 (.tmp 40) (.const (.int .i64 1)) 3, none⟩,
  ⟨some 42, .move (.tmp 41), none⟩,
  ⟨some 43, .move (.tmp 4), some (2, true)⟩,
  ⟨some 44, .pick (.tmp 42) (.tmp 43) (.const (.bool false)), none⟩,
  ⟨some 2, .assign (.tmp 44), none⟩]
def f73_r13 : List LOp := [
  ⟨some 2, .assign (.const (.bool false)), none⟩]
def f73_c : LC := (.seq (.reg f73_r0 [] none) (.seq (.regp f73_r1 [] [] 8) (.seq (.seq (.reg f73_r2 [] none) (.block 0 (.seq (.seq (.reg f73_r3 [] none) (.cond (.tmp 14) .skip (.reg f73_r4 [] none))) (.cond (.tmp 14) (.seq (.reg f73_r5 [] none) .ret) (.seq (.reg f73_r6 [] none) (.cond (.tmp 22) (.seq (.reg f73_r7 [] none) .ret) (.seq (.seq (.reg f73_r8 [] none) (.cond (.tmp 30) .skip (.reg f73_r9 [] none))) (.cond (.tmp 30) (.seq (.reg f73_r10 [] none) .ret) (.seq (.reg f73_r11 [] none) (.cond (.tmp 38) (.seq (.reg f73_r12 [] none) .ret) .skip)))))))))) (.seq (.reg f73_r13 [] none) .ret))))
theorem f73_lc : Tryz.f73.body.map lc = some f73_c.st := by kernel_rfl
theorem f73_res : Tryz.f73.results.toList = [.tmp 2] := by kernel_rfl
theorem f73_nt : Tryz.f73.ntmps = 45 := by kernel_rfl
theorem f73_nm : (Tryz.f73.name == "runtime.NumGoroutine") = false := by kernel_rfl

/-! quill/rex.nodes$1 -/
def f74_r0 : List LOp := [
  ⟨some 1, .box 27 (.tmp 0), none⟩,
  ⟨some 2, .assign (.const (.bool false)), none⟩]
def f74_r1 : List LOp := [
  ⟨some 3, .load 27 (.tmp 1), none⟩,
  ⟨some 4, .call { callee := .value (.func 59), args := #[.tmp 3], argTypes := #[27] }, none⟩,
  ⟨some 5, .unOp .not 4 (.tmp 4), none⟩,
  ⟨some 2, .assign (.tmp 5), none⟩]
def f74_c : LC := (.seq (.reg f74_r0 [] none) (.seq (.reg f74_r1 [] none) .ret))
theorem f74_lc : Tryz.f74.body.map lc = some f74_c.st := by kernel_rfl
theorem f74_res : Tryz.f74.results.toList = [.tmp 2] := by kernel_rfl
theorem f74_nt : Tryz.f74.ntmps = 6 := by kernel_rfl
theorem f74_nm : (Tryz.f74.name == "runtime.NumGoroutine") = false := by kernel_rfl

/-! quill/quillref02.Order -/
def f75_r0 : List LOp := [
  ⟨some 2, .box 25 (.tmp 0), none⟩,
  ⟨some 3, .box 25 (.tmp 1), none⟩,
  ⟨some 4, .assign (.const (.int .i64 0)), none⟩]
def f75_r1 : List LOp := [
  ⟨some 5, .assign (.const (.int .i64 0)), none⟩]
def f75_r2 : List LOp := [
  ⟨some 6, .move (.tmp 5), none⟩,
  ⟨some 7, .binOp .lss 3 (.tmp 6) (.const (.int .i64 4)) 3, none⟩]
def f75_r3 : List LOp := [
  ⟨some 10, .move (.tmp 5), none⟩,
  ⟨some 11, .indexAddr 25 (.tmp 2) (.tmp 10), none⟩,
  ⟨some 12, .load 23 (.tmp 11), none⟩,
  ⟨some 13, .move (.tmp 5), none⟩,
  ⟨some 14, .indexAddr 25 (.tmp 3) (.tmp 13), none⟩,
  ⟨some 15, .load 23 (.tmp 14), none⟩,
  ⟨some 16, .binOp .lss 23 (.tmp 12) (.tmp 15) 23, none⟩]
def f75_r4 : List LOp := [
  ⟨some 4, .assign (.const (.int .i64 (-1))), none⟩]
def f75_r5 : List LOp := [
  ⟨some 17, .move (.tmp 5), none⟩,
  ⟨some 18, .indexAddr 25 (.tmp 2) (.tmp 17), none⟩,
  ⟨some 19, .load 23 (.tmp 18), none⟩,
  ⟨some 20, .move (.tmp 5), none⟩,
  ⟨some 21, .indexAddr 25 (.tmp 3) (.tmp 20), none⟩,
  ⟨some 22, .load 23 (.tmp 21), none⟩,
  ⟨some 23, .binOp .gtr 23 (.tmp 19) (.tmp 22) 23, none⟩]
def f75_r6 : List LOp := [
  ⟨some 4, .assign (.const (.int .i64 1)), none⟩]
def f75_r7 : List LOp := [
  ⟨some 8, .move (.tmp 5), none⟩,
  ⟨some 9, .binOp .add 3 (.tmp 8) (.const (.int .i64 1)) 3, none⟩,
  ⟨some 5, .assign (.tmp 9), none⟩]
def f75_l8 : LC := (.seq (.seq (.reg f75_r2 [] none) (.cond (.tmp 7) .skip (.exit 0))) (.seq (.block 1 (.seq (.seq (.reg f75_r3 [] (some 6)) (.cond (.tmp 16) (.seq (.reg f75_r4 [] none) .ret) .skip)) (.seq (.reg f75_r5 [] (some 6)) (.cond (.tmp 23) (.seq (.reg f75_r6 [] none) .ret) .skip)))) (.reg f75_r7 [] none)))
def f75_i8 (t2 t3 t5 : D) : List D := [.any, .any, t2, t3, .any, t5, .any, .any, .any, .any, .any, .any, .any, .any, .any, .any, .any, .any, .any, .any, .any, .any, .any, .any]
def f75_r9 : List LOp := [
  ⟨some 4, .assign (.const (.int .i64 0)), none⟩]
def f75_c : LC := (.seq (.reg f75_r0 [] none) (.seq (.seq (.reg f75_r1 [] none) (.block 0 (.loop f75_l8))) (.seq (.reg f75_r9 [] none) .ret)))
theorem f75_lc : Tryz.f75.body.map lc = some f75_c.st := by kernel_rfl
theorem f75_res : Tryz.f75.results.toList = [.tmp 4] := by kernel_rfl
theorem f75_nt : Tryz.f75.ntmps = 24 := by kernel_rfl
theorem f75_nm : (Tryz.f75.name == "runtime.NumGoroutine") = false := by kernel_rfl

/-! cmp.Or[int] -/
def f76_r0 : List LOp := [
  ⟨some 2, .assign (.const (.int .i64 0)), none⟩]
def f76_r1 : List LOp := [
  ⟨some 3, .assign (.const (.int .i64 0)), none⟩]
def f76_r2 : List LOp := [
  ⟨some 6, .move (.tmp 0), none⟩,
  ⟨some 7, .call { callee := .builtin .len, args := #[.tmp 6], argTypes := #[44] }, none⟩,
  ⟨some 8, .move (.const (.int .i64 0)), none⟩]
def f76_r3 : List LOp := [
  ⟨some 9, .binOp .lss 3 (.tmp 8) (.tmp 7) 3, none⟩]
def f76_r4 : List LOp := [
  ⟨some 10, .indexAddr 44 (.tmp 6) (.tmp 8), none⟩,
  ⟨some 11, .load 3 (.tmp 10), none⟩,
  ⟨some 5, .assign (.tmp 11), none⟩]
def f76_r5 : List LOp := [
  ⟨some 12, .move (.tmp 5), none⟩,
  ⟨some 13, .move (.tmp 3), none⟩,
  ⟨some 14, .binOp .neq 3 (.tmp 12) (.tmp 13) 3, none⟩]
def f76_r6 : List LOp := [
  ⟨some 15, .move (.tmp 5), none⟩,
  ⟨some 2, .assign (.tmp 15), none⟩]
def f76_r7 : List LOp := [
  ⟨some 16, .binOp .add 3 (.tmp 8) (.const (.int .i64 1)) 3, none⟩,
  ⟨some 8, .move (.tmp 16), none⟩]
def f76_l8 : LC := (.seq (.reg f76_r3 [] none) (.seq (.cond (.tmp 9) .skip (.exit 0)) (.seq (.block 1 (.seq (.reg f76_r4 [] none) (.seq (.reg f76_r5 [] none) (.cond (.tmp 14) (.seq (.reg f76_r6 [] none) .ret) .skip)))) (.reg f76_r7 [] none))))
def f76_i8 (t3 t6 t7 t8 : D) : List D := [.any, .any, .any, t3, .any, .any, t6, t7, t8, .any, .any, .any, .any, .any, .any, .any, .any, .any]
def f76_r9 : List LOp := [
  ⟨some 17, .move (.tmp 3), none⟩,
  ⟨some 2, .assign (.tmp 17), none⟩]
def f76_c : LC := (.seq (.reg f76_r0 [] none) (.seq (.reg f76_r1 [] none) (.seq (.seq (.reg f76_r2 [] none) (.block 0 (.loop f76_l8))) (.seq (.reg f76_r9 [] none) .ret))))
theorem f76_lc : Tryz.f76.body.map lc = some f76_c.st := by kernel_rfl
theorem f76_res : Tryz.f76.results.toList = [.tmp 2] := by kernel_rfl
theorem f76_nt : Tryz.f76.ntmps = 18 := by kernel_rfl
theorem f76_nm : (Tryz.f76.name == "runtime.NumGoroutine") = false := by kernel_rfl

/-! cmp.Compare[uint8] -/
def f77_r0 : List LOp := [
  ⟨some 4, .assign (.const (.int .i64 0)), none⟩]
def f77_r1 : List LOp := [
  ⟨some 7, .move (.tmp 0), none⟩,
  ⟨some 8, .call { callee := .value (.func 86), args := #[.tmp 7], argTypes := #[5] }, none⟩,
  ⟨some 5, .assign (.tmp 8), none⟩]
def f77_r2 : List LOp := [
  ⟨some 9, .move (.tmp 1), none⟩,
  ⟨some 10, .call { callee := .value (.func 86), args := #[.tmp 9], argTypes := #[5] }, none⟩,
  ⟨some 6, .assign (.tmp 10), none⟩]
def f77_r3 : List LOp := [
  ⟨some 11, .move (.tmp 5), none⟩]
def f77_r4 : List LOp := [
  ⟨some 12, .move (.tmp 6), none⟩]
def f77_r5 : List LOp := [
  ⟨some 4, .assign (.const (.int .i64 0)), none⟩]
def f77_r6 : List LOp := [
  ⟨some 4, .assign (.const (.int .i64 (-1))), none⟩]
def f77_r7 : List LOp := [
  ⟨some 13, .move (.tmp 6), none⟩]
def f77_r8 : List LOp := [
  ⟨some 4, .assign (.const (.int .i64 1)), none⟩]
def f77_r9 : List LOp := [
  ⟨some 14, .move (.tmp 0), none⟩,
  ⟨some 15, .move (.tmp 1), none⟩,
  ⟨some 16, .binOp .lss 5 (.tmp 14) (.tmp 15) 5, none⟩]
def f77_r10 : List LOp := [
  ⟨some 4, .assign (.const (.int .i64 (-1))), none⟩]
def f77_r11 : List LOp := [
  ⟨some 17, .move (.tmp 0), none⟩,
  ⟨some 18, .move (.tmp 1), none⟩,
  ⟨some 19, .binOp .gtr 5 (.tmp 17) (.tmp 18) 5, none⟩]
def f77_r12 : List LOp := [
  ⟨some 4, .assign (.const (.int .i64 1)), none⟩]
def f77_r13 : List LOp := [
  ⟨some 4, .assign (.const (.int .i64 0)), none⟩]
def f77_c : LC := (.seq (.reg f77_r0 [] none) (.seq (.reg f77_r1 [] none) (.seq (.reg f77_r2 [] none) (.seq (.seq (.reg f77_r3 [] none) (.cond (.tmp 11) (.seq (.seq (.reg f77_r4 [] none) (.cond (.tmp 12) (.seq (.reg f77_r5 [] none) .ret) .skip)) (.seq (.reg f77_r6 [] none) .ret)) .skip)) (.seq (.seq (.reg f77_r7 [] none) (.cond (.tmp 13) (.seq (.reg f77_r8 [] none) .ret) .skip)) (.seq (.seq (.reg f77_r9 [] none) (.cond (.tmp 16) (.seq (.reg f77_r10 [] none) .ret) .skip)) (.seq (.seq (.reg f77_r11 [] none) (.cond (.tmp 19) (.seq (.reg f77_r12 [] none) .ret) .skip)) (.seq (.reg f77_r13 [] none) .ret))))))))
theorem f77_lc : Tryz.f77.body.map lc = some f77_c.st := by kernel_rfl
theorem f77_res : Tryz.f77.results.toList = [.tmp 4] := by kernel_rfl
theorem f77_nt : Tryz.f77.ntmps = 20 := by kernel_rfl
theorem f77_nm : (Tryz.f77.name == "runtime.NumGoroutine") = false := by kernel_rfl

/-! quill/set.Order -/
def f78_r0 : List LOp := [
  ⟨some 2, .box 25 (.tmp 0), none⟩,
  ⟨some 3, .box 25 (.tmp 1), none⟩,
  ⟨some 4, .assign (.const (.int .i64 0)), none⟩]
def f78_r1 : List LOp := [
  ⟨some 5, .slice 25 (.tmp 2) none none none, none⟩,
  ⟨some 6, .slice 25 (.tmp 3) none none none, none⟩,
  ⟨some 7, .call { callee := .value (.func 87), args := #[.tmp 5, .tmp 6, .func 88], argTypes := #[93, 93, 94] }, none⟩,
  ⟨some 4, .assign (.tmp 7), none⟩]
def f78_c : LC := (.seq (.reg f78_r0 [] none) (.seq (.reg f78_r1 [] (some 2)) .ret))
theorem f78_lc : Tryz.f78.body.map lc = some f78_c.st := by kernel_rfl
theorem f78_res : Tryz.f78.results.toList = [.tmp 4] := by kernel_rfl
theorem f78_nt : Tryz.f78.ntmps = 8 := by kernel_rfl
theorem f78_nm : (Tryz.f78.name == "runtime.NumGoroutine") = false := by kernel_rfl

/-! slices.CompareFunc[[]quill/api.Re,[]quill/api.Re,quill/api.Re,quill/api.Re] -/
def f79_r0 : List LOp := [
  ⟨some 6, .assign (.const (.int .i64 0)), none⟩]
def f79_r1 : List LOp := [
  ⟨some 11, .move (.tmp 0), none⟩,
  ⟨some 12, .call { callee := .builtin .len, args := #[.tmp 11], argTypes := #[22] }, none⟩,
  ⟨some 13, .move (.const (.int .i64 0)), none⟩]
def f79_r2 : List LOp := [
  ⟨some 14, .binOp .lss 3 (.tmp 13) (.tmp 12) 3, none⟩]
def f79_r3 : List LOp := [
  ⟨some 15, .move (.tmp 13), none⟩,
  ⟨some 16, .indexAddr 22 (.tmp 11) (.tmp 13), none⟩,
  ⟨some 17, .load 27 (.tmp 16), none⟩,
  ⟨some 8, .alloc 27, none⟩,
  ⟨some 7, .assign (.tmp 15), none⟩,
  ⟨none, .store 27 (.tmp 8) (.tmp 17), none⟩]
def f79_r4 : List LOp := [
  ⟨some 18, .move (.tmp 7), none⟩,
  ⟨some 19, .move (.tmp 1), none⟩,
  ⟨some 20, .call { callee := .builtin .len, args := #[.tmp 19], argTypes := #[22] }, none⟩,
  ⟨some 21, .binOp .geq 3 (.tmp 18) (.tmp 20) 3, none⟩]
def f79_r5 : List LOp := [
  ⟨some 6, .assign (.const (.int .i64 1)), none⟩]
def f79_r6 : List LOp := [
  ⟨some 22, .move (.tmp 1), none⟩,
  ⟨some 23, .move (.tmp 7), none⟩,
  ⟨some 24, .indexAddr 22 (.tmp 22) (.tmp 23), none⟩,
  ⟨some 25, .load 27 (.tmp 24), none⟩,
  ⟨some 9, .alloc 27, none⟩,
  ⟨none, .store 27 (.tmp 9) (.tmp 25), none⟩]
def f79_r7 : List LOp := [
  ⟨some 26, .move (.tmp 2), none⟩,
  ⟨some 27, .load 27 (.tmp 8), none⟩,
  ⟨some 28, .load 27 (.tmp 9), none⟩,
  ⟨some 29, .call { callee := .value (.tmp 26), args := #[.tmp 27, .tmp 28], argTypes := #[27, 27] }, none⟩,
  ⟨some 10, .assign (.tmp 29), none⟩]
def f79_r8 : List LOp := [
  ⟨some 30, .move (.tmp 10), none⟩,
  ⟨some 31, .binOp .neq 3 (.tmp 30) (.const (.int .i64 0)) 3, none⟩]
def f79_r9 : List LOp := [
  ⟨some 32, .move (.tmp 10), none⟩,
  ⟨some 6, .assign (.tmp 32), none⟩]
def f79_r10 : List LOp := [
  ⟨some 33, .binOp .add 3 (.tmp 13) (.const (.int .i64 1)) 3, none⟩,
  ⟨some 13, .move (.tmp 33), none⟩]
def f79_l11 : LC := (.seq (.reg f79_r2 [] none) (.seq (.cond (.tmp 14) .skip (.exit 0)) (.seq (.block 1 (.seq (.reg f79_r3 [] none) (.seq (.seq (.reg f79_r4 [] none) (.cond (.tmp 21) (.seq (.reg f79_r5 [] none) .ret) .skip)) (.seq (.reg f79_r6 [] none) (.seq (.reg f79_r7 [] none) (.seq (.reg f79_r8 [] none) (.cond (.tmp 31) (.seq (.reg f79_r9 [] none) .ret) .skip))))))) (.reg f79_r10 [] none))))
def f79_i11 (t0 t1 t2 t11 t12 t13 : D) : List D := [t0, t1, t2, .any, .any, .any, .any, .any, .any, .any, .any, t11, t12, t13, .any, .any, .any, .any, .any, .any, .any, .any, .any, .any, .any, .any, .any, .any, .any, .any, .any, .any, .any, .any, .any, .any, .any, .any, .any]
def f79_r12 : List LOp := [
  ⟨some 34, .move (.tmp 0), none⟩,
  ⟨some 35, .call { callee := .builtin .len, args := #[.tmp 34], argTypes := #[22] }, none⟩,
  ⟨some 36, .move (.tmp 1), none⟩,
  ⟨some 37, .call { callee := .builtin .len, args := #[.tmp 36], argTypes := #[22] }, none⟩,
  ⟨some 38, .binOp .lss 3 (.tmp 35) (.tmp 37) 3, none⟩]
def f79_r13 : List LOp := [
  ⟨some 6, .assign (.const (.int .i64 (-1))), none⟩]
def f79_r14 : List LOp := [
  ⟨some 6, .assign (.const (.int .i64 0)), none⟩]
def f79_c : LC := (.seq (.reg f79_r0 [] none) (.seq (.seq (.reg f79_r1 [] none) (.block 0 (.loop f79_l11))) (.seq (.seq (.reg f79_r12 [] none) (.cond (.tmp 38) (.seq (.reg f79_r13 [] none) .ret) .skip)) (.seq (.reg f79_r14 [] none) .ret))))
theorem f79_lc : Tryz.f79.body.map lc = some f79_c.st := by kernel_rfl
theorem f79_res : Tryz.f79.results.toList = [.tmp 6] := by kernel_rfl
theorem f79_nt : Tryz.f79.ntmps = 39 := by kernel_rfl
theorem f79_nm : (Tryz.f79.name == "runtime.NumGoroutine") = false := by kernel_rfl

/-! slices.Collect[quill/api.Re] -/
def f80_r0 : List LOp := [
  ⟨some 2, .assign (.const (.slice none 0 0)), none⟩]
def f80_r1 : List LOp := [
  ⟨some 3, .move (.tmp 0), none⟩,
  ⟨some 4, .call { callee := .value (.func 89), args := #[.const (.slice none 0 0), .tmp 3], argTypes := #[22, 81] }, none⟩,
  ⟨some 2, .assign (.tmp 4), none⟩]
def f80_c : LC := (.seq (.reg f80_r0 [] none) (.seq (.reg f80_r1 [] none) .ret))
theorem f80_lc : Tryz.f80.body.map lc = some f80_c.st := by kernel_rfl
theorem f80_res : Tryz.f80.results.toList = [.tmp 2] := by kernel_rfl
theorem f80_nt : Tryz.f80.ntmps = 5 := by kernel_rfl
theorem f80_nm : (Tryz.f80.name == "runtime.NumGoroutine") = false := by kernel_rfl

/-! slices.SortStableFunc[[]quill/api.Re,quill/api.Re] -/
def f81_r0 : List LOp := [
  ⟨some 4, .move (.tmp 0), none⟩,
  ⟨some 5, .move (.tmp 0), none⟩,
  ⟨some 6, .call { callee := .builtin .len, args := #[.tmp 5], argTypes := #[22] }, none⟩,
  ⟨some 7, .move (.tmp 1), none⟩,
  ⟨some 8, .call { callee := .value (.func 90), args := #[.tmp 4, .tmp 6, .tmp 7], argTypes := #[22, 3, 77] }, none⟩]
def f81_c : LC := (.reg f81_r0 [] none)
theorem f81_lc : Tryz.f81.body.map lc = some f81_c.st := by kernel_rfl
theorem f81_res : Tryz.f81.results.toList = [] := by kernel_rfl
theorem f81_nt : Tryz.f81.ntmps = 9 := by kernel_rfl
theorem f81_nm : (Tryz.f81.name == "runtime.NumGoroutine") = false := by kernel_rfl

/-! slices.Values[[]quill/api.Re,quill/api.Re]$1 -/
def f82_r0 : List LOp := [
  ⟨some 5, .load 22 (.tmp 1), none⟩,
  ⟨some 6, .call { callee := .builtin .len, args := #[.tmp 5], argTypes := #[22] }, none⟩,
  ⟨some 7, .move (.const (.int .i64 0)), none⟩]
def f82_r1 : List LOp := [
  ⟨some 8, .binOp .lss 3 (.tmp 7) (.tmp 6) 3, none⟩]
def f82_r2 : List LOp := [
  ⟨some 9, .indexAddr 22 (.tmp 5) (.tmp 7), none⟩,
  ⟨some 10, .load 27 (.tmp 9), none⟩,
  ⟨some 4, .alloc 27, none⟩,
  ⟨none, .store 27 (.tmp 4) (.tmp 10), none⟩]
def f82_r3 : List LOp := [
  ⟨some 11, .move (.tmp 0), none⟩,
  ⟨some 12, .load 27 (.tmp 4), none⟩,
  ⟨some 13, .call { callee := .value (.tmp 11), args := #[.tmp 12], argTypes := #[27] }, none⟩,
  ⟨some 14, .unOp .not 4 (.tmp 13), none⟩]
def f82_r4 : List LOp := [
  ⟨some 15, .binOp .add 3 (.tmp 7) (.const (.int .i64 1)) 3, none⟩,
  ⟨some 7, .move (.tmp 15), none⟩]
def f82_l5 : LC := (.seq (.reg f82_r1 [] none) (.seq (.cond (.tmp 8) .skip (.exit 0)) (.seq (.block 1 (.seq (.reg f82_r2 [] none) (.seq (.reg f82_r3 [] none) (.cond (.tmp 14) .ret .skip)))) (.reg f82_r4 [] none))))
def f82_i5 (t0 t5 t6 t7 : D) : List D := [t0, .any, .any, .any, .any, t5, t6, t7, .any, .any, .any, .any, .any, .any, .any, .any]
def f82_c : LC := (.seq (.reg f82_r0 [] none) (.block 0 (.loop f82_l5)))
theorem f82_lc : Tryz.f82.body.map lc = some f82_c.st := by kernel_rfl
theorem f82_res : Tryz.f82.results.toList = [] := by kernel_rfl
theorem f82_nt : Tryz.f82.ntmps = 16 := by kernel_rfl
theorem f82_nm : (Tryz.f82.name == "runtime.NumGoroutine") = false := by kernel_rfl

/-! (*quill/read.reader).part -/
def f83_r0 : List LOp := [
  ⟨some 2, .alloc 27, none⟩]
def f83_r1 : List LOp := [
  ⟨some 4, .move (.tmp 0), none⟩,
  ⟨some 5, .call { callee := .value (.func 91), args := #[.tmp 4], argTypes := #[53] }, none⟩,
  ⟨some 3, .alloc 27, none⟩,
  ⟨none, .store 27 (.tmp 3) (.tmp 5), none⟩]
def f83_r2 : List LOp := [
  ⟨some 6, .move (.tmp 0), none⟩,
  ⟨some 7, .call { callee := .value (.func 72), args := #[.tmp 6, .const (.string { data := #[42] })], argTypes := #[53, 9] }, none⟩]
def f83_r3 : List LOp := [
  ⟨some 8, .move (.tmp 0), none⟩,
  ⟨some 9, .nilCheck (.tmp 8), none⟩,
  ⟨some 10, .fieldAddr 55 (.tmp 9) 1, none⟩,
  ⟨some 11, .load 3 (.tmp 10), none⟩,
  ⟨some 12, .binOp .add 3 (.tmp 11) (.const (.int .i64 1)) 3, none⟩,
  ⟨some 13, .nilCheck (.tmp 8), none⟩,
  ⟨some 14, .fieldAddr 55 (.tmp 13) 1, none⟩,
  ⟨none, .store 3 (.tmp 14) (.tmp 12), none⟩]
def f83_r4 : List LOp := [
  ⟨some 15, .load 27 (.tmp 3), none⟩,
  ⟨some 16, .call { callee := .value (.func 55), args := #[.tmp 15], argTypes := #[27] }, none⟩,
  ⟨none, .store 27 (.tmp 3) (.tmp 16), none⟩]
def f83_l5 : LC := (.seq (.seq (.reg f83_r2 [] none) (.cond (.tmp 7) .skip (.exit 0))) (.block 1 (.seq (.reg f83_r3 [] none) (.reg f83_r4 [] none))))
def f83_i5 (t0 t2 t3 : D) : List D := [t0, .any, t2, t3, .any, .any, .any, .any, .any, .any, .any, .any, .any, .any, .any, .any, .any, .any]
def f83_r6 : List LOp := [
  ⟨some 17, .load 27 (.tmp 3), none⟩,
  ⟨none, .store 27 (.tmp 2) (.tmp 17), none⟩]
def f83_c : LC := (.seq (.reg f83_r0 [] none) (.seq (.reg f83_r1 [] none) (.seq (.block 0 (.loop f83_l5)) (.seq (.reg f83_r6 [] none) .ret))))
theorem f83_lc : Tryz.f83.body.map lc = some f83_c.st := by kernel_rfl
theorem f83_res : Tryz.f83.results.toList = [.cell 2 27] := by kernel_rfl
theorem f83_nt : Tryz.f83.ntmps = 18 := by kernel_rfl
theorem f83_nm : (Tryz.f83.name == "runtime.NumGoroutine") = false := by kernel_rfl

/-! (*quill/read.reader).begins -/
def f84_r0 : List LOp := [
  ⟨some 2, .assign (.const (.bool false)), none⟩]
def f84_r1 : List LOp := [
  ⟨some 3, .move (.tmp 0), none⟩,
  ⟨some 4, .call { callee := .value (.func 72), args := #[.tmp 3, .const (.string { data := #[92] })], argTypes := #[53, 9] }, none⟩,
  ⟨some 5, .move (.tmp 4), none⟩,
  ⟨some 6, .move (.tmp 0), some (2, false)⟩,
  ⟨some 7, .nilCheck (.tmp 6), some (2, false)⟩,
  ⟨some 8, .fieldAddr 55 (.tmp 7) 1, some (2, false)⟩,
  ⟨some 9, .load 3 (.tmp 8), some (2, false)⟩,
  ⟨some 10, .move (.tmp 0), some (2, false)⟩,
  ⟨some 11, .nilCheck (.tmp 10), some (2, false)⟩,
  ⟨some 12, .fieldAddr 55 (.tmp 11) 0, some (2, false)⟩,
  ⟨some 13, .load 9 (.tmp 12), some (2, false)⟩,
  ⟨some 14, .call { callee := .builtin .len, args := #[.tmp 13], argTypes := #[9] }, some (2, false)⟩,
  ⟨some 15, .binOp .lss 3 (.tmp 9) (.tmp 14) 3, some (2, false)⟩,
  ⟨some 16, .move (.tmp 15), some (2, false)⟩,
  ⟨some 17, .move (.tmp 0), some (13, true)⟩,
  ⟨some 18, .nilCheck (.tmp 17), some (13, true)⟩,
  ⟨some 19, .fieldAddr 55 (.tmp 18) 0, some (13, true)⟩,
  ⟨some 20, .load 9 (.tmp 19), some (13, true)⟩,
  ⟨some 21, .move (.tmp 0), some (13, true)⟩,
  ⟨some 22, .nilCheck (.tmp 21), some (13, true)⟩,
  ⟨some 23, .fieldAddr 55 (.tmp 22) 1, some (13, true)⟩,
  ⟨some 24, .load 3 (.tmp 23), some (13, true)⟩,
  ⟨some 25, .index 9 (.tmp 20) (.tmp 24), some (13, true)⟩,
  ⟨some 26, .call { callee := .value (.func 92), args := #[.tmp 25], argTypes := #[5] }, some (13, true)⟩,
  ⟨some 27, .move (.tmp 0), some (13, true)⟩,
  ⟨some 28, .nilCheck (.tmp 27), some (13, true)⟩,
  ⟨some 29, .fieldAddr 55 (.tmp 28) 0, some (13, true)⟩,
  ⟨some 30, .load 9 (.tmp 29), some (13, true)⟩,
  ⟨some 31, .move (.tmp 0), some (13, true)⟩,
  ⟨some 32, .nilCheck (.tmp 31), some (13, true)⟩,
  ⟨some 33, .fieldAddr 55 (.tmp 32) 1, some (13, true)⟩,
  ⟨some 34, .load 3 (.tmp 33), some (13, true)⟩,
  ⟨some 35, .move (.tmp 0), some (13, true)⟩,
  ⟨some 36, .nilCheck (.tmp 35), some (13, true)⟩,
  ⟨some 37, .fieldAddr 55 (.tmp 36) 1, some (13, true)⟩,
  ⟨some 38, .load 3 (.tmp 37), some (13, true)⟩,
  ⟨some 39, .binOp .add 3 (.tmp 38) (.const (.int .i64 1)) 3, some (13, true)⟩,
  ⟨some 40, .slice 9 (.tmp 30) (some (.tmp 34)) (some (.tmp 39)) none, some (13, true)⟩,
  ⟨some 41, .binOp .eql 9 (.tmp 26) (.tmp 40) 9, some (13, true)⟩,
  ⟨some 42, .pick (.tmp 16) (.tmp 41) (.const (.bool false)), some (2, false)⟩,
  ⟨some 43, .pick (.tmp 5) (.const (.bool true)) (.tmp 42), none⟩,
  ⟨some 2, .assign (.tmp 43), none⟩]
def f84_c : LC := (.seq (.reg f84_r0 [] none) (.seq (.reg f84_r1 [] (some 41)) .ret))
theorem f84_lc : Tryz.f84.body.map lc = some f84_c.st := by kernel_rfl
theorem f84_res : Tryz.f84.results.toList = [.tmp 2] := by kernel_rfl
theorem f84_nt : Tryz.f84.ntmps = 44 := by kernel_rfl
theorem f84_nm : (Tryz.f84.name == "runtime.NumGoroutine") = false := by kernel_rfl

/-! strings.IndexByte -/
def f85_r0 : List LOp := [
  ⟨some 4, .assign (.const (.int .i64 0)), none⟩]
def f85_r1 : List LOp := [
  ⟨some 5, .move (.tmp 0), none⟩,
  ⟨some 6, .move (.tmp 1), none⟩,
  ⟨some 7, .call { callee := .value (.func 93), args := #[.tmp 5, .tmp 6], argTypes := #[9, 5] }, none⟩,
  ⟨some 4, .assign (.tmp 7), none⟩]
def f85_c : LC := (.seq (.reg f85_r0 [] none) (.seq (.reg f85_r1 [] none) .ret))
theorem f85_lc : Tryz.f85.body.map lc = some f85_c.st := by kernel_rfl
theorem f85_res : Tryz.f85.results.toList = [.tmp 4] := by kernel_rfl
theorem f85_nt : Tryz.f85.ntmps = 8 := by kernel_rfl
theorem f85_nm : (Tryz.f85.name == "runtime.NumGoroutine") = false := by kernel_rfl

/-! cmp.isNaN[uint8] -/
def f86_r0 : List LOp := [
  ⟨some 2, .assign (.const (.bool false)), none⟩]
def f86_r1 : List LOp := [
  ⟨some 3, .move (.tmp 0), none⟩,
  ⟨some 4, .move (.tmp 0), none⟩,
  ⟨some 5, .binOp .neq 5 (.tmp 3) (.tmp 4) 5, none⟩,
  ⟨some 2, .assign (.tmp 5), none⟩]
def f86_c : LC := (.seq (.reg f86_r0 [] none) (.seq (.reg f86_r1 [] none) .ret))
theorem f86_lc : Tryz.f86.body.map lc = some f86_c.st := by kernel_rfl
theorem f86_res : Tryz.f86.results.toList = [.tmp 2] := by kernel_rfl
theorem f86_nt : Tryz.f86.ntmps = 6 := by kernel_rfl
theorem f86_nm : (Tryz.f86.name == "runtime.NumGoroutine") = false := by kernel_rfl

/-! slices.CompareFunc[[]uint64,[]uint64,uint64,uint64] -/
def f87_r0 : List LOp := [
  ⟨some 6, .assign (.const (.int .i64 0)), none⟩]
def f87_r1 : List LOp := [
  ⟨some 11, .move (.tmp 0), none⟩,
  ⟨some 12, .call { callee := .builtin .len, args := #[.tmp 11], argTypes := #[93] }, none⟩,
  ⟨some 13, .move (.const (.int .i64 0)), none⟩]
def f87_r2 : List LOp := [
  ⟨some 14, .binOp .lss 3 (.tmp 13) (.tmp 12) 3, none⟩]
def f87_r3 : List LOp := [
  ⟨some 15, .move (.tmp 13), none⟩,
  ⟨some 16, .indexAddr 93 (.tmp 11) (.tmp 13), none⟩,
  ⟨some 17, .load 23 (.tmp 16), none⟩,
  ⟨some 7, .assign (.tmp 15), none⟩,
  ⟨some 8, .assign (.tmp 17), none⟩]
def f87_r4 : List LOp := [
  ⟨some 18, .move (.tmp 7), none⟩,
  ⟨some 19, .move (.tmp 1), none⟩,
  ⟨some 20, .call { callee := .builtin .len, args := #[.tmp 19], argTypes := #[93] }, none⟩,
  ⟨some 21, .binOp .geq 3 (.tmp 18) (.tmp 20) 3, none⟩]
def f87_r5 : List LOp := [
  ⟨some 6, .assign (.const (.int .i64 1)), none⟩]
def f87_r6 : List LOp := [
  ⟨some 22, .move (.tmp 1), none⟩,
  ⟨some 23, .move (.tmp 7), none⟩,
  ⟨some 24, .indexAddr 93 (.tmp 22) (.tmp 23), none⟩,
  ⟨some 25, .load 23 (.tmp 24), none⟩,
  ⟨some 9, .assign (.tmp 25), none⟩]
def f87_r7 : List LOp := [
  ⟨some 26, .move (.tmp 2), none⟩,
  ⟨some 27, .move (.tmp 8), none⟩,
  ⟨some 28, .move (.tmp 9), none⟩,
  ⟨some 29, .call { callee := .value (.tmp 26), args := #[.tmp 27, .tmp 28], argTypes := #[23, 23] }, none⟩,
  ⟨some 10, .assign (.tmp 29), none⟩]
def f87_r8 : List LOp := [
  ⟨some 30, .move (.tmp 10), none⟩,
  ⟨some 31, .binOp .neq 3 (.tmp 30) (.const (.int .i64 0)) 3, none⟩]
def f87_r9 : List LOp := [
  ⟨some 32, .move (.tmp 10), none⟩,
  ⟨some 6, .assign (.tmp 32), none⟩]
def f87_r10 : List LOp := [
  ⟨some 33, .binOp .add 3 (.tmp 13) (.const (.int .i64 1)) 3, none⟩,
  ⟨some 13, .move (.tmp 33), none⟩]
def f87_l11 : LC := (.seq (.reg f87_r2 [] none) (.seq (.cond (.tmp 14) .skip (.exit 0)) (.seq (.block 1 (.seq (.reg f87_r3 [] none) (.seq (.seq (.reg f87_r4 [] none) (.cond (.tmp 21) (.seq (.reg f87_r5 [] none) .ret) .skip)) (.seq (.reg f87_r6 [] none) (.seq (.reg f87_r7 [] none) (.seq (.reg f87_r8 [] none) (.cond (.tmp 31) (.seq (.reg f87_r9 [] none) .ret) .skip))))))) (.reg f87_r10 [] none))))
def f87_i11 (t0 t1 t2 t11 t12 t13 : D) : List D := [t0, t1, t2, .any, .any, .any, .any, .any, .any, .any, .any, t11, t12, t13, .any, .any, .any, .any, .any, .any, .any, .any, .any, .any, .any, .any, .any, .any, .any, .any, .any, .any, .any, .any, .any, .any, .any, .any, .any]
def f87_r12 : List LOp := [
  ⟨some 34, .move (.tmp 0), none⟩,
  ⟨some 35, .call { callee := .builtin .len, args := #[.tmp 34], argTypes := #[93] }, none⟩,
  ⟨some 36, .move (.tmp 1), none⟩,
  ⟨some 37, .call { callee := .builtin .len, args := #[.tmp 36], argTypes := #[93] }, none⟩,
  ⟨some 38, .binOp .lss 3 (.tmp 35) (.tmp 37) 3, none⟩]
def f87_r13 : List LOp := [
  ⟨some 6, .assign (.const (.int .i64 (-1))), none⟩]
def f87_r14 : List LOp := [
  ⟨some 6, .assign (.const (.int .i64 0)), none⟩]
def f87_c : LC := (.seq (.reg f87_r0 [] none) (.seq (.seq (.reg f87_r1 [] none) (.block 0 (.loop f87_l11))) (.seq (.seq (.reg f87_r12 [] none) (.cond (.tmp 38) (.seq (.reg f87_r13 [] none) .ret) .skip)) (.seq (.reg f87_r14 [] none) .ret))))
theorem f87_lc : Tryz.f87.body.map lc = some f87_c.st := by kernel_rfl
theorem f87_res : Tryz.f87.results.toList = [.tmp 6] := by kernel_rfl
theorem f87_nt : Tryz.f87.ntmps = 39 := by kernel_rfl
theorem f87_nm : (Tryz.f87.name == "runtime.NumGoroutine") = false := by kernel_rfl

/-! cmp.Compare[uint64] -/
def f88_r0 : List LOp := [
  ⟨some 4, .assign (.const (.int .i64 0)), none⟩]
def f88_r1 : List LOp := [
  ⟨some 7, .move (.tmp 0), none⟩,
  ⟨some 8, .call { callee := .value (.func 94), args := #[.tmp 7], argTypes := #[23] }, none⟩,
  ⟨some 5, .assign (.tmp 8), none⟩]
def f88_r2 : List LOp := [
  ⟨some 9, .move (.tmp 1), none⟩,
  ⟨some 10, .call { callee := .value (.func 94), args := #[.tmp 9], argTypes := #[23] }, none⟩,
  ⟨some 6, .assign (.tmp 10), none⟩]
def f88_r3 : List LOp := [
  ⟨some 11, .move (.tmp 5), none⟩]
def f88_r4 : List LOp := [
  ⟨some 12, .move (.tmp 6), none⟩]
def f88_r5 : List LOp := [
  ⟨some 4, .assign (.const (.int .i64 0)), none⟩]
def f88_r6 : List LOp := [
  ⟨some 4, .assign (.const (.int .i64 (-1))), none⟩]
def f88_r7 : List LOp := [
  ⟨some 13, .move (.tmp 6), none⟩]
def f88_r8 : List LOp := [
  ⟨some 4, .assign (.const (.int .i64 1)), none⟩]
def f88_r9 : List LOp := [
  ⟨some 14, .move (.tmp 0), none⟩,
  ⟨some 15, .move (.tmp 1), none⟩,
  ⟨some 16, .binOp .lss 23 (.tmp 14) (.tmp 15) 23, none⟩]
def f88_r10 : List LOp := [
  ⟨some 4, .assign (.const (.int .i64 (-1))), none⟩]
def f88_r11 : List LOp := [
  ⟨some 17, .move (.tmp 0), none⟩,
  ⟨some 18, .move (.tmp 1), none⟩,
  ⟨some 19, .binOp .gtr 23 (.tmp 17) (.tmp 18) 23, none⟩]
def f88_r12 : List LOp := [
  ⟨some 4, .assign (.const (.int .i64 1)), none⟩]
def f88_r13 : List LOp := [
  ⟨some 4, .assign (.const (.int .i64 0)), none⟩]
def f88_c : LC := (.seq (.reg f88_r0 [] none) (.seq (.reg f88_r1 [] none) (.seq (.reg f88_r2 [] none) (.seq (.seq (.reg f88_r3 [] none) (.cond (.tmp 11) (.seq (.seq (.reg f88_r4 [] none) (.cond (.tmp 12) (.seq (.reg f88_r5 [] none) .ret) .skip)) (.seq (.reg f88_r6 [] none) .ret)) .skip)) (.seq (.seq (.reg f88_r7 [] none) (.cond (.tmp 13) (.seq (.reg f88_r8 [] none) .ret) .skip)) (.seq (.seq (.reg f88_r9 [] none) (.cond (.tmp 16) (.seq (.reg f88_r10 [] none) .ret) .skip)) (.seq (.seq (.reg f88_r11 [] none) (.cond (.tmp 19) (.seq (.reg f88_r12 [] none) .ret) .skip)) (.seq (.reg f88_r13 [] none) .ret))))))))
theorem f88_lc : Tryz.f88.body.map lc = some f88_c.st := by kernel_rfl
theorem f88_res : Tryz.f88.results.toList = [.tmp 4] := by kernel_rfl
theorem f88_nt : Tryz.f88.ntmps = 20 := by kernel_rfl
theorem f88_nm : (Tryz.f88.name == "runtime.NumGoroutine") = false := by kernel_rfl

/-! slices.AppendSeq[[]quill/api.Re,quill/api.Re] -/
def f89_r0 : List LOp := [
  ⟨some 2, .box 22 (.tmp 0), none⟩,
  ⟨some 4, .assign (.const (.slice none 0 0)), none⟩]
def f89_r1 : List LOp := [
  ⟨some 6, .move (.tmp 1), none⟩]
def f89_r2 : List LOp := [
  ⟨some 5, .alloc 27, none⟩,
  ⟨none, .store 27 (.tmp 5) (.tmp 7), none⟩]
def f89_r3 : List LOp := [
  ⟨some 8, .load 22 (.tmp 2), none⟩,
  ⟨some 9, .load 27 (.tmp 5), none⟩,
  ⟨some 10, .call { callee := .builtin .len, args := #[.tmp 8], argTypes := #[22] }, none⟩,
  ⟨some 11, .buildSlice 22 1 #[(0, .const (.agg #[.int .u8 0, .int .u64 0, .int .u64 0, .int .u64 0, .int .u64 0, .slice none 0 0]))], none⟩,
  ⟨some 12, .call { callee := .builtin .append, args := #[.tmp 8, .tmp 11], argTypes := #[22, 22] }, none⟩,
  ⟨some 13, .indexAddr 22 (.tmp 12) (.tmp 10), none⟩,
  ⟨none, .store 27 (.tmp 13) (.tmp 9), none⟩,
  ⟨none, .store 22 (.tmp 2) (.tmp 12), none⟩]
def f89_a4 : LC := (.reg f89_r2 [] none)
def f89_b4 : LC := (.block 1 (.regt f89_r3 [] 4 (.op 4 (.both (.op 5 (.both (.op 6 (.op 7 .done)) (.op 7 (.op 6 .done)))) (.op 7 (.op 5 (.op 6 .done)))))))
def f89_r5 : List LOp := [
  ⟨some 14, .load 22 (.tmp 2), none⟩,
  ⟨some 4, .assign (.tmp 14), none⟩]
def f89_c : LC := (.seq (.reg f89_r0 [0] none) (.seq (.seq (.reg f89_r1 [] none) (.block 0 (.rfun (.tmp 6) [7] f89_a4 f89_b4))) (.seq (.reg f89_r5 [] none) .ret)))
theorem f89_lc : Tryz.f89.body.map lc = some f89_c.st := by kernel_rfl
theorem f89_res : Tryz.f89.results.toList = [.tmp 4] := by kernel_rfl
theorem f89_nt : Tryz.f89.ntmps = 15 := by kernel_rfl
theorem f89_nm : (Tryz.f89.name == "runtime.NumGoroutine") = false := by kernel_rfl

/-! slices.stableCmpFunc[quill/api.Re] -/
def f90_r0 : List LOp := [
  ⟨some 6, .assign (.const (.int .i64 20)), none⟩]
def f90_r1 : List LOp := [
  ⟨some 10, .move (.tmp 6), none⟩,
  ⟨some 7, .assign (.const (.int .i64 0)), none⟩,
  ⟨some 8, .assign (.tmp 10), none⟩]
def f90_r2 : List LOp := [
  ⟨some 11, .move (.tmp 8), none⟩,
  ⟨some 12, .move (.tmp 1), none⟩,
  ⟨some 13, .binOp .leq 3 (.tmp 11) (.tmp 12) 3, none⟩]
def f90_r3 : List LOp := [
  ⟨some 14, .move (.tmp 0), none⟩,
  ⟨some 15, .move (.tmp 7), none⟩,
  ⟨some 16, .move (.tmp 8), none⟩,
  ⟨some 17, .move (.tmp 2), none⟩,
  ⟨some 18, .call { callee := .value (.func 95), args := #[.tmp 14, .tmp 15, .tmp 16, .tmp 17], argTypes := #[22, 3, 3, 77] }, none⟩]
def f90_r4 : List LOp := [
  ⟨some 19, .move (.tmp 8), none⟩,
  ⟨some 7, .assign (.tmp 19), none⟩]
def f90_r5 : List LOp := [
  ⟨some 20, .move (.tmp 8), none⟩,
  ⟨some 21, .move (.tmp 6), none⟩,
  ⟨some 22, .binOp .add 3 (.tmp 20) (.tmp 21) 3, none⟩,
  ⟨some 8, .assign (.tmp 22), none⟩]
def f90_l6 : LC := (.seq (.seq (.reg f90_r2 [] none) (.cond (.tmp 13) .skip (.exit 0))) (.block 1 (.seq (.reg f90_r3 [] none) (.seq (.reg f90_r4 [] none) (.reg f90_r5 [] none)))))
def f90_i6 (t0 t1 t2 t6 t7 t8 : D) : List D := [t0, t1, t2, .any, .any, .any, t6, t7, t8, .any, .any, .any, .any, .any, .any, .any, .any, .any, .any, .any, .any, .any, .any, .any, .any, .any, .any, .any, .any, .any, .any, .any, .any, .any, .any, .any, .any, .any, .any, .any, .any, .any, .any, .any, .any, .any, .any, .any, .any, .any, .any, .any, .any, .any, .any, .any, .any, .any, .any, .any, .any, .any, .any]
def f90_r7 : List LOp := [
  ⟨some 23, .move (.tmp 0), none⟩,
  ⟨some 24, .move (.tmp 7), none⟩,
  ⟨some 25, .move (.tmp 1), none⟩,
  ⟨some 26, .move (.tmp 2), none⟩,
  ⟨some 27, .call { callee := .value (.func 95), args := #[.tmp 23, .tmp 24, .tmp 25, .tmp 26], argTypes := #[22, 3, 3, 77] }, none⟩]
def f90_r8 : List LOp := [
  ⟨some 28, .move (.tmp 6), none⟩,
  ⟨some 29, .move (.tmp 1), none⟩,
  ⟨some 30, .binOp .lss 3 (.tmp 28) (.tmp 29) 3, none⟩]
def f90_r9 : List LOp := [
  ⟨some 31, .move (.tmp 6), none⟩,
  ⟨some 32, .binOp .mul 3 (.const (.int .i64 2)) (.tmp 31) 3, none⟩,
  ⟨some 7, .assign (.const (.int .i64 0)), none⟩,
  ⟨some 8, .assign (.tmp 32), none⟩]
def f90_r10 : List LOp := [
  ⟨some 33, .move (.tmp 8), none⟩,
  ⟨some 34, .move (.tmp 1), none⟩,
  ⟨some 35, .binOp .leq 3 (.tmp 33) (.tmp 34) 3, none⟩]
def f90_r11 : List LOp := [
  ⟨some 36, .move (.tmp 0), none⟩,
  ⟨some 37, .move (.tmp 7), none⟩,
  ⟨some 38, .move (.tmp 7), none⟩,
  ⟨some 39, .move (.tmp 6), none⟩,
  ⟨some 40, .binOp .add 3 (.tmp 38) (.tmp 39) 3, none⟩,
  ⟨some 41, .move (.tmp 8), none⟩,
  ⟨some 42, .move (.tmp 2), none⟩,
  ⟨some 43, .call { callee := .value (.func 96), args := #[.tmp 36, .tmp 37, .tmp 40, .tmp 41, .tmp 42], argTypes := #[22, 3, 3, 3, 77] }, none⟩]
def f90_r12 : List LOp := [
  ⟨some 44, .move (.tmp 8), none⟩,
  ⟨some 7, .assign (.tmp 44), none⟩]
def f90_r13 : List LOp := [
  ⟨some 45, .move (.tmp 8), none⟩,
  ⟨some 46, .move (.tmp 6), none⟩,
  ⟨some 47, .binOp .mul 3 (.const (.int .i64 2)) (.tmp 46) 3, none⟩,
  ⟨some 48, .binOp .add 3 (.tmp 45) (.tmp 47) 3, none⟩,
  ⟨some 8, .assign (.tmp 48), none⟩]
def f90_l14 : LC := (.seq (.seq (.reg f90_r10 [] none) (.cond (.tmp 35) .skip (.exit 4))) (.block 5 (.seq (.reg f90_r11 [] none) (.seq (.reg f90_r12 [] none) (.reg f90_r13 [] none)))))
def f90_i14 (t0 t1 t2 t6 t7 t8 : D) : List D := [t0, t1, t2, .any, .any, .any, t6, t7, t8, .any, .any, .any, .any, .any, .any, .any, .any, .any, .any, .any, .any, .any, .any, .any, .any, .any, .any, .any, .any, .any, .any, .any, .any, .any, .any, .any, .any, .any, .any, .any, .any, .any, .any, .any, .any, .any, .any, .any, .any, .any, .any, .any, .any, .any, .any, .any, .any, .any, .any, .any, .any, .any, .any]
def f90_r15 : List LOp := [
  ⟨some 49, .move (.tmp 7), none⟩,
  ⟨some 50, .move (.tmp 6), none⟩,
  ⟨some 51, .binOp .add 3 (.tmp 49) (.tmp 50) 3, none⟩,
  ⟨some 9, .assign (.tmp 51), none⟩]
def f90_r16 : List LOp := [
  ⟨some 52, .move (.tmp 9), none⟩,
  ⟨some 53, .move (.tmp 1), none⟩,
  ⟨some 54, .binOp .lss 3 (.tmp 52) (.tmp 53) 3, none⟩]
def f90_r17 : List LOp := [
  ⟨some 55, .move (.tmp 0), none⟩,
  ⟨some 56, .move (.tmp 7), none⟩,
  ⟨some 57, .move (.tmp 9), none⟩,
  ⟨some 58, .move (.tmp 1), none⟩,
  ⟨some 59, .move (.tmp 2), none⟩,
  ⟨some 60, .call { callee := .value (.func 96), args := #[.tmp 55, .tmp 56, .tmp 57, .tmp 58, .tmp 59], argTypes := #[22, 3, 3, 3, 77] }, none⟩]
def f90_r18 : List LOp := [
  ⟨some 61, .move (.tmp 6), none⟩,
  ⟨some 62, .binOp .mul 3 (.tmp 61) (.const (.int .i64 2)) 3, none⟩,
  ⟨some 6, .assign (.tmp 62), none⟩]
def f90_l19 : LC := (.seq (.seq (.reg f90_r8 [] none) (.cond (.tmp 30) .skip (.exit 2))) (.block 3 (.seq (.reg f90_r9 [] none) (.seq (.block 4 (.loop f90_l14)) (.seq (.seq (.reg f90_r15 [] none) (.seq (.reg f90_r16 [] none) (.cond (.tmp 54) (.reg f90_r17 [] none) .skip))) (.reg f90_r18 [] none))))))
def f90_i19 (t0 t1 t2 t6 : D) : List D := [t0, t1, t2, .any, .any, .any, t6, .any, .any, .any, .any, .any, .any, .any, .any, .any, .any, .any, .any, .any, .any, .any, .any, .any, .any, .any, .any, .any, .any, .any, .any, .any, .any, .any, .any, .any, .any, .any, .any, .any, .any, .any, .any, .any, .any, .any, .any, .any, .any, .any, .any, .any, .any, .any, .any, .any, .any, .any, .any, .any, .any, .any, .any]
def f90_c : LC := (.seq (.reg f90_r0 [] none) (.seq (.reg f90_r1 [] none) (.seq (.block 0 (.loop f90_l6)) (.seq (.reg f90_r7 [] none) (.block 2 (.loop f90_l19))))))
theorem f90_lc : Tryz.f90.body.map lc = some f90_c.st := by kernel_rfl
theorem f90_res : Tryz.f90.results.toList = [] := by kernel_rfl
theorem f90_nt : Tryz.f90.ntmps = 63 := by kernel_rfl
theorem f90_nm : (Tryz.f90.name == "runtime.NumGoroutine") = false := by kernel_rfl

/-! (*quill/read.reader).atom -/
def f91_r0 : List LOp := [
  ⟨some 2, .alloc 27, none⟩]
def f91_r1 : List LOp := [
  ⟨some 5, .move (.tmp 0), none⟩,
  ⟨some 6, .call { callee := .value (.func 72), args := #[.tmp 5, .const (.string { data := #[46] })], argTypes := #[53, 9] }, none⟩,
  ⟨some 4, .assign (.tmp 6), none⟩]
def f91_r2 : List LOp := [
  ⟨some 7, .move (.tmp 0), none⟩,
  ⟨some 8, .nilCheck (.tmp 7), none⟩,
  ⟨some 9, .fieldAddr 55 (.tmp 8) 1, none⟩,
  ⟨some 10, .load 3 (.tmp 9), none⟩,
  ⟨some 11, .binOp .add 3 (.tmp 10) (.const (.int .i64 1)) 3, none⟩,
  ⟨some 12, .nilCheck (.tmp 7), none⟩,
  ⟨some 13, .fieldAddr 55 (.tmp 12) 1, none⟩,
  ⟨none, .store 3 (.tmp 13) (.tmp 11), none⟩]
def f91_r3 : List LOp := [
  ⟨some 14, .call { callee := .value (.func 97), args := #[.const (.int .u8 0), .const (.int .u8 255)], argTypes := #[5, 5] }, none⟩,
  ⟨some 15, .call { callee := .value (.func 34), args := #[.tmp 14], argTypes := #[25] }, none⟩,
  ⟨none, .store 27 (.tmp 2) (.tmp 15), none⟩]
def f91_r4 : List LOp := [
  ⟨some 17, .move (.tmp 0), none⟩,
  ⟨some 18, .call { callee := .value (.func 72), args := #[.tmp 17, .const (.string { data := #[91] })], argTypes := #[53, 9] }, none⟩,
  ⟨some 16, .assign (.tmp 18), none⟩]
def f91_r5 : List LOp := [
  ⟨some 19, .move (.tmp 0), none⟩,
  ⟨some 20, .nilCheck (.tmp 19), none⟩,
  ⟨some 21, .fieldAddr 55 (.tmp 20) 1, none⟩,
  ⟨some 22, .load 3 (.tmp 21), none⟩,
  ⟨some 23, .binOp .add 3 (.tmp 22) (.const (.int .i64 1)) 3, none⟩,
  ⟨some 24, .nilCheck (.tmp 19), none⟩,
  ⟨some 25, .fieldAddr 55 (.tmp 24) 1, none⟩,
  ⟨none, .store 3 (.tmp 25) (.tmp 23), none⟩]
def f91_r6 : List LOp := [
  ⟨some 26, .move (.tmp 0), none⟩,
  ⟨some 27, .call { callee := .value (.func 98), args := #[.tmp 26], argTypes := #[53] }, none⟩,
  ⟨none, .store 27 (.tmp 2) (.tmp 27), none⟩]
def f91_r7 : List LOp := [
  ⟨some 29, .move (.tmp 0), none⟩,
  ⟨some 30, .call { callee := .value (.func 72), args := #[.tmp 29, .const (.string { data := #[40] })], argTypes := #[53, 9] }, none⟩,
  ⟨some 28, .assign (.tmp 30), none⟩]
def f91_r8 : List LOp := [
  ⟨some 31, .move (.tmp 0), none⟩,
  ⟨some 32, .nilCheck (.tmp 31), none⟩,
  ⟨some 33, .fieldAddr 55 (.tmp 32) 1, none⟩,
  ⟨some 34, .load 3 (.tmp 33), none⟩,
  ⟨some 35, .binOp .add 3 (.tmp 34) (.const (.int .i64 1)) 3, none⟩,
  ⟨some 36, .nilCheck (.tmp 31), none⟩,
  ⟨some 37, .fieldAddr 55 (.tmp 36) 1, none⟩,
  ⟨none, .store 3 (.tmp 37) (.tmp 35), none⟩]
def f91_r9 : List LOp := [
  ⟨some 38, .move (.tmp 0), none⟩,
  ⟨some 39, .call { callee := .value (.func 72), args := #[.tmp 38, .const (.string { data := #[41] })], argTypes := #[53, 9] }, none⟩]
def f91_r10 : List LOp := [
  ⟨some 40, .move (.tmp 0), none⟩,
  ⟨some 41, .nilCheck (.tmp 40), none⟩,
  ⟨some 42, .fieldAddr 55 (.tmp 41) 1, none⟩,
  ⟨some 43, .load 3 (.tmp 42), none⟩,
  ⟨some 44, .binOp .add 3 (.tmp 43) (.const (.int .i64 1)) 3, none⟩,
  ⟨some 45, .nilCheck (.tmp 40), none⟩,
  ⟨some 46, .fieldAddr 55 (.tmp 45) 1, none⟩,
  ⟨none, .store 3 (.tmp 46) (.tmp 44), none⟩]
def f91_r11 : List LOp := [
  ⟨some 47, .call { callee := .value (.func 26), args := #[.const (.slice none 0 0)], argTypes := #[22] }, none⟩,
  ⟨none, .store 27 (.tmp 2) (.tmp 47), none⟩]
def f91_r12 : List LOp := [
  ⟨some 48, .move (.tmp 0), none⟩,
  ⟨some 49, .call { callee := .value (.func 57), args := #[.tmp 48], argTypes := #[53] }, none⟩,
  ⟨some 3, .alloc 27, none⟩,
  ⟨none, .store 27 (.tmp 3) (.tmp 49), none⟩]
def f91_r13 : List LOp := [
  ⟨some 50, .move (.tmp 0), none⟩,
  ⟨some 51, .call { callee := .value (.func 99), args := #[.tmp 50, .const (.string { data := #[41] })], argTypes := #[53, 9] }, none⟩]
def f91_r14 : List LOp := [
  ⟨some 52, .load 27 (.tmp 3), none⟩,
  ⟨none, .store 27 (.tmp 2) (.tmp 52), none⟩]
def f91_r15 : List LOp := [
  ⟨some 53, .move (.tmp 0), none⟩,
  ⟨some 54, .call { callee := .value (.func 100), args := #[.tmp 53], argTypes := #[53] }, none⟩,
  ⟨some 55, .buildSlice 72 1 #[(0, .tmp 54)], none⟩,
  ⟨some 56, .call { callee := .value (.func 35), args := #[.tmp 55], argTypes := #[72] }, none⟩,
  ⟨some 57, .call { callee := .value (.func 34), args := #[.tmp 56], argTypes := #[25] }, none⟩,
  ⟨none, .store 27 (.tmp 2) (.tmp 57), none⟩]
def f91_c : LC := (.seq (.reg f91_r0 [] none) (.seq (.block 0 (.seq (.reg f91_r1 [] none) (.cond (.tmp 4) (.seq (.reg f91_r2 [] none) (.seq (.reg f91_r3 [] none) .ret)) (.seq (.reg f91_r4 [] none) (.cond (.tmp 16) (.seq (.reg f91_r5 [] none) (.seq (.reg f91_r6 [] none) .ret)) (.seq (.reg f91_r7 [] none) (.cond (.tmp 28) (.seq (.reg f91_r8 [] none) (.seq (.seq (.reg f91_r9 [] none) (.cond (.tmp 39) (.seq (.reg f91_r10 [] none) (.seq (.reg f91_r11 [] none) .ret)) .skip)) (.seq (.reg f91_r12 [] none) (.seq (.reg f91_r13 [] none) (.seq (.reg f91_r14 [] none) .ret))))) .skip))))))) (.seq (.reg f91_r15 [] none) .ret)))
theorem f91_lc : Tryz.f91.body.map lc = some f91_c.st := by kernel_rfl
theorem f91_res : Tryz.f91.results.toList = [.cell 2 27] := by kernel_rfl
theorem f91_nt : Tryz.f91.ntmps = 58 := by kernel_rfl
theorem f91_nm : (Tryz.f91.name == "runtime.NumGoroutine") = false := by kernel_rfl

/-! quill/set.Sign -/
def f92_r0 : List LOp := [
  ⟨some 2, .assign (.const (.string { data := #[] })), none⟩]
def f92_r1 : List LOp := [
  ⟨some 3, .move (.tmp 0), none⟩,
  ⟨some 4, .binOp .lss 5 (.tmp 3) (.const (.int .u8 33)) 5, none⟩,
  ⟨some 5, .move (.tmp 4), none⟩,
  ⟨some 6, .move (.tmp 0), some (2, false)⟩,
  ⟨some 7, .binOp .gtr 5 (.tmp 6) (.const (.int .u8 126)) 5, some (2, false)⟩,
  ⟨some 8, .pick (.tmp 5) (.const (.bool true)) (.tmp 7), none⟩,
  ⟨some 9, .move (.tmp 8), none⟩,
  ⟨some 10, .move (.tmp 0), some (6, false)⟩,
  ⟨some 11, .call { callee := .value (.func 85), args := #[.const (.string { data := #[92, 124, 42, 40, 41, 91, 93, 46, 45] }), .tmp 10], argTypes := #[9, 5] }, some (6, false)⟩,
  ⟨some 12, .binOp .geq 3 (.tmp 11) (.const (.int .i64 0)) 3, some (6, false)⟩,
  ⟨some 13, .pick (.tmp 9) (.const (.bool true)) (.tmp 12), none⟩]
def f92_r2 : List LOp := [
  ⟨some 14, .move (.tmp 0), none⟩,
  ⟨some 15, .buildSlice 72 1 #[(0, .tmp 14)], none⟩,
  ⟨some 16, .call { callee := .value (.func 101), args := #[.tmp 15], argTypes := #[72] }, none⟩,
  ⟨some 17, .binOp .add 9 (.const (.string { data := #[92] })) (.tmp 16) 9, none⟩,
  ⟨some 2, .assign (.tmp 17), none⟩]
def f92_r3 : List LOp := [
  ⟨some 18, .move (.tmp 0), none⟩,
  ⟨some 19, .buildSlice 72 1 #[(0, .tmp 18)], none⟩,
  ⟨some 20, .convert 72 9 (.tmp 19), none⟩,
  ⟨some 2, .assign (.tmp 20), none⟩]
def f92_c : LC := (.seq (.reg f92_r0 [] none) (.seq (.seq (.reg f92_r1 [] none) (.cond (.tmp 13) (.seq (.reg f92_r2 [] none) .ret) .skip)) (.seq (.reg f92_r3 [] none) .ret)))
theorem f92_lc : Tryz.f92.body.map lc = some f92_c.st := by kernel_rfl
theorem f92_res : Tryz.f92.results.toList = [.tmp 2] := by kernel_rfl
theorem f92_nt : Tryz.f92.ntmps = 21 := by kernel_rfl
theorem f92_nm : (Tryz.f92.name == "runtime.NumGoroutine") = false := by kernel_rfl

/-! internal/stringslite.IndexByte -/
def f93_r0 : List LOp := [
  ⟨some 4, .assign (.const (.int .i64 0)), none⟩]
def f93_r1 : List LOp := [
  ⟨some 5, .move (.tmp 0), none⟩,
  ⟨some 6, .move (.tmp 1), none⟩,
  ⟨some 7, .call { callee := .value (.func 102), args := #[.tmp 5, .tmp 6], argTypes := #[9, 5] }, none⟩,
  ⟨some 4, .assign (.tmp 7), none⟩]
def f93_c : LC := (.seq (.reg f93_r0 [] none) (.seq (.reg f93_r1 [] none) .ret))
theorem f93_lc : Tryz.f93.body.map lc = some f93_c.st := by kernel_rfl
theorem f93_res : Tryz.f93.results.toList = [.tmp 4] := by kernel_rfl
theorem f93_nt : Tryz.f93.ntmps = 8 := by kernel_rfl
theorem f93_nm : (Tryz.f93.name == "runtime.NumGoroutine") = false := by kernel_rfl

/-! cmp.isNaN[uint64] -/
def f94_r0 : List LOp := [
  ⟨some 2, .assign (.const (.bool false)), none⟩]
def f94_r1 : List LOp := [
  ⟨some 3, .move (.tmp 0), none⟩,
  ⟨some 4, .move (.tmp 0), none⟩,
  ⟨some 5, .binOp .neq 23 (.tmp 3) (.tmp 4) 23, none⟩,
  ⟨some 2, .assign (.tmp 5), none⟩]
def f94_c : LC := (.seq (.reg f94_r0 [] none) (.seq (.reg f94_r1 [] none) .ret))
theorem f94_lc : Tryz.f94.body.map lc = some f94_c.st := by kernel_rfl
theorem f94_res : Tryz.f94.results.toList = [.tmp 2] := by kernel_rfl
theorem f94_nt : Tryz.f94.ntmps = 6 := by kernel_rfl
theorem f94_nm : (Tryz.f94.name == "runtime.NumGoroutine") = false := by kernel_rfl

/-! slices.insertionSortCmpFunc[quill/api.Re] -/
def f95_r0 : List LOp := [
  ⟨some 10, .move (.tmp 1), none⟩,
  ⟨some 11, .binOp .add 3 (.tmp 10) (.const (.int .i64 1)) 3, none⟩,
  ⟨some 8, .assign (.tmp 11), none⟩]
def f95_r1 : List LOp := [
  ⟨some 12, .move (.tmp 8), none⟩,
  ⟨some 13, .move (.tmp 2), none⟩,
  ⟨some 14, .binOp .lss 3 (.tmp 12) (.tmp 13) 3, none⟩]
def f95_r2 : List LOp := [
  ⟨some 17, .move (.tmp 8), none⟩,
  ⟨some 9, .assign (.tmp 17), none⟩]
def f95_r3 : List LOp := [
  ⟨some 18, .move (.tmp 9), none⟩,
  ⟨some 19, .move (.tmp 1), none⟩,
  ⟨some 20, .binOp .gtr 3 (.tmp 18) (.tmp 19) 3, none⟩,
  ⟨some 21, .move (.tmp 20), none⟩,
  ⟨some 22, .move (.tmp 3), some (3, true)⟩,
  ⟨some 23, .move (.tmp 0), some (3, true)⟩,
  ⟨some 24, .move (.tmp 9), some (3, true)⟩,
  ⟨some 25, .indexAddr 22 (.tmp 23) (.tmp 24), some (3, true)⟩,
  ⟨some 26, .load 27 (.tmp 25), some (3, true)⟩,
  ⟨some 27, .move (.tmp 0), some (3, true)⟩,
  ⟨some 28, .move (.tmp 9), some (3, true)⟩,
  ⟨some 29, .binOp .sub 3 (.tmp 28) (.const (.int .i64 1)) 3, some (3, true)⟩,
  ⟨some 30, .indexAddr 22 (.tmp 27) (.tmp 29), some (3, true)⟩,
  ⟨some 31, .load 27 (.tmp 30), some (3, true)⟩,
  ⟨some 32, .call { callee := .value (.tmp 22), args := #[.tmp 26, .tmp 31], argTypes := #[27, 27] }, some (3, true)⟩,
  ⟨some 33, .binOp .lss 3 (.tmp 32) (.const (.int .i64 0)) 3, some (3, true)⟩,
  ⟨some 34, .pick (.tmp 21) (.tmp 33) (.const (.bool false)), none⟩]
def f95_r4 : List LOp := [
  ⟨some 37, .move (.tmp 0), none⟩,
  ⟨some 38, .move (.tmp 9), none⟩,
  ⟨some 39, .move (.tmp 0), none⟩,
  ⟨some 40, .move (.tmp 9), none⟩,
  ⟨some 41, .binOp .sub 3 (.tmp 40) (.const (.int .i64 1)) 3, none⟩,
  ⟨some 42, .move (.tmp 0), none⟩,
  ⟨some 43, .move (.tmp 9), none⟩,
  ⟨some 44, .binOp .sub 3 (.tmp 43) (.const (.int .i64 1)) 3, none⟩,
  ⟨some 45, .indexAddr 22 (.tmp 42) (.tmp 44), none⟩,
  ⟨some 46, .load 27 (.tmp 45), none⟩,
  ⟨some 47, .move (.tmp 0), none⟩,
  ⟨some 48, .move (.tmp 9), none⟩,
  ⟨some 49, .indexAddr 22 (.tmp 47) (.tmp 48), none⟩,
  ⟨some 50, .load 27 (.tmp 49), none⟩,
  ⟨some 51, .indexAddr 22 (.tmp 37) (.tmp 38), none⟩,
  ⟨none, .store 27 (.tmp 51) (.tmp 46), none⟩,
  ⟨some 52, .indexAddr 22 (.tmp 39) (.tmp 41), none⟩,
  ⟨none, .store 27 (.tmp 52) (.tmp 50), none⟩]
def f95_r5 : List LOp := [
  ⟨some 35, .move (.tmp 9), none⟩,
  ⟨some 36, .binOp .sub 3 (.tmp 35) (.const (.int .i64 1)) 3, none⟩,
  ⟨some 9, .assign (.tmp 36), none⟩]
def f95_l6 : LC := (.seq (.seq (.reg f95_r3 [] (some 14)) (.cond (.tmp 34) .skip (.exit 2))) (.seq (.block 3 (.regp f95_r4 [] [0, 1, 2, 3, 4, 5, 6, 7, 10, 11] 14)) (.reg f95_r5 [] none)))
def f95_i6 (t0 t1 t2 t3 t8 t9 : D) : List D := [t0, t1, t2, t3, .any, .any, .any, .any, t8, t9, .any, .any, .any, .any, .any, .any, .any, .any, .any, .any, .any, .any, .any, .any, .any, .any, .any, .any, .any, .any, .any, .any, .any, .any, .any, .any, .any, .any, .any, .any, .any, .any, .any, .any, .any, .any, .any, .any, .any, .any, .any, .any, .any]
def f95_r7 : List LOp := [
  ⟨some 15, .move (.tmp 8), none⟩,
  ⟨some 16, .binOp .add 3 (.tmp 15) (.const (.int .i64 1)) 3, none⟩,
  ⟨some 8, .assign (.tmp 16), none⟩]
def f95_l8 : LC := (.seq (.seq (.reg f95_r1 [] none) (.cond (.tmp 14) .skip (.exit 0))) (.seq (.block 1 (.seq (.reg f95_r2 [] none) (.block 2 (.loop f95_l6)))) (.reg f95_r7 [] none)))
def f95_i8 (t0 t1 t2 t3 t8 : D) : List D := [t0, t1, t2, t3, .any, .any, .any, .any, t8, .any, .any, .any, .any, .any, .any, .any, .any, .any, .any, .any, .any, .any, .any, .any, .any, .any, .any, .any, .any, .any, .any, .any, .any, .any, .any, .any, .any, .any, .any, .any, .any, .any, .any, .any, .any, .any, .any, .any, .any, .any, .any, .any, .any]
def f95_c : LC := (.seq (.reg f95_r0 [] none) (.block 0 (.loop f95_l8)))
theorem f95_lc : Tryz.f95.body.map lc = some f95_c.st := by kernel_rfl
theorem f95_res : Tryz.f95.results.toList = [] := by kernel_rfl
theorem f95_nt : Tryz.f95.ntmps = 53 := by kernel_rfl
theorem f95_nm : (Tryz.f95.name == "runtime.NumGoroutine") = false := by kernel_rfl

/-! slices.symMergeCmpFunc[quill/api.Re] -/
def f96_r0 : List LOp := [
  ⟨some 25, .move (.tmp 2), none⟩,
  ⟨some 26, .move (.tmp 1), none⟩,
  ⟨some 27, .binOp .sub 3 (.tmp 25) (.tmp 26) 3, none⟩,
  ⟨some 28, .binOp .eql 3 (.tmp 27) (.const (.int .i64 1)) 3, none⟩]
def f96_r1 : List LOp := [
  ⟨some 29, .move (.tmp 2), none⟩,
  ⟨some 10, .assign (.tmp 29), none⟩]
def f96_r2 : List LOp := [
  ⟨some 30, .move (.tmp 3), none⟩,
  ⟨some 11, .assign (.tmp 30), none⟩]
def f96_r3 : List LOp := [
  ⟨some 31, .move (.tmp 10), none⟩,
  ⟨some 32, .move (.tmp 11), none⟩,
  ⟨some 33, .binOp .lss 3 (.tmp 31) (.tmp 32) 3, none⟩]
def f96_r4 : List LOp := [
  ⟨some 34, .move (.tmp 10), none⟩,
  ⟨some 35, .move (.tmp 11), none⟩,
  ⟨some 36, .binOp .add 3 (.tmp 34) (.tmp 35) 3, none⟩,
  ⟨some 37, .convert 3 105 (.tmp 36), none⟩,
  ⟨some 38, .binOp .shr 105 (.tmp 37) (.const (.int .u64 1)) 105, none⟩,
  ⟨some 39, .convert 105 3 (.tmp 38), none⟩,
  ⟨some 12, .assign (.tmp 39), none⟩]
def f96_r5 : List LOp := [
  ⟨some 40, .move (.tmp 4), none⟩,
  ⟨some 41, .move (.tmp 0), none⟩,
  ⟨some 42, .move (.tmp 12), none⟩,
  ⟨some 43, .indexAddr 22 (.tmp 41) (.tmp 42), none⟩,
  ⟨some 44, .load 27 (.tmp 43), none⟩,
  ⟨some 45, .move (.tmp 0), none⟩,
  ⟨some 46, .move (.tmp 1), none⟩,
  ⟨some 47, .indexAddr 22 (.tmp 45) (.tmp 46), none⟩,
  ⟨some 48, .load 27 (.tmp 47), none⟩,
  ⟨some 49, .call { callee := .value (.tmp 40), args := #[.tmp 44, .tmp 48], argTypes := #[27, 27] }, none⟩,
  ⟨some 50, .binOp .lss 3 (.tmp 49) (.const (.int .i64 0)) 3, none⟩]
def f96_r6 : List LOp := [
  ⟨some 51, .move (.tmp 12), none⟩,
  ⟨some 52, .binOp .add 3 (.tmp 51) (.const (.int .i64 1)) 3, none⟩,
  ⟨some 10, .assign (.tmp 52), none⟩]
def f96_r7 : List LOp := [
  ⟨some 53, .move (.tmp 12), none⟩,
  ⟨some 11, .assign (.tmp 53), none⟩]
def f96_l8 : LC := (.seq (.seq (.reg f96_r3 [] none) (.cond (.tmp 33) .skip (.exit 0))) (.block 1 (.seq (.reg f96_r4 [] none) (.seq (.reg f96_r5 [] (some 9)) (.cond (.tmp 50) (.reg f96_r6 [] none) (.reg f96_r7 [] none))))))
def f96_i8 (t0 t1 t4 t10 t11 : D) : List D := [t0, t1, .any, .any, t4, .any, .any, .any, .any, .any, t10, t11, .any, .any, .any, .any, .any, .any, .any, .any, .any, .any, .any, .any, .any, .any, .any, .any, .any, .any, .any, .any, .any, .any, .any, .any, .any, .any, .any, .any, .any, .any, .any, .any, .any, .any, .any, .any, .any, .any, .any, .any, .any, .any, .any, .any, .any, .any, .any, .any, .any, .any, .any, .any, .any, .any, .any, .any, .any, .any, .any, .any, .any, .any, .any, .any, .any, .any, .any, .any, .any, .any, .any, .any, .any, .any, .any, .any, .any, .any, .any, .any, .any, .any, .any, .any, .any, .any, .any, .any, .any, .any, .any, .any, .any, .any, .any, .any, .any, .any, .any, .any, .any, .any, .any, .any, .any, .any, .any, .any, .any, .any, .any, .any, .any, .any, .any, .any, .any, .any, .any, .any, .any, .any, .any, .any, .any, .any, .any, .any, .any, .any, .any, .any, .any, .any, .any, .any, .any, .any, .any, .any, .any, .any, .any, .any, .any, .any, .any, .any, .any, .any, .any, .any, .any, .any, .any, .any, .any, .any, .any, .any, .any, .any, .any, .any, .any, .any, .any, .any, .any, .any, .any, .any, .any, .any, .any, .any, .any, .any, .any, .any, .any, .any, .any, .any, .any, .any, .any, .any, .any, .any, .any, .any, .any, .any, .any, .any, .any, .any, .any, .any, .any, .any, .any, .any, .any, .any, .any, .any]
def f96_r9 : List LOp := [
  ⟨some 54, .move (.tmp 1), none⟩,
  ⟨some 13, .assign (.tmp 54), none⟩]
def f96_r10 : List LOp := [
  ⟨some 55, .move (.tmp 13), none⟩,
  ⟨some 56, .move (.tmp 10), none⟩,
  ⟨some 57, .binOp .sub 3 (.tmp 56) (.const (.int .i64 1)) 3, none⟩,
  ⟨some 58, .binOp .lss 3 (.tmp 55) (.tmp 57) 3, none⟩]
def f96_r11 : List LOp := [
  ⟨some 61, .move (.tmp 0), none⟩,
  ⟨some 62, .move (.tmp 13), none⟩,
  ⟨some 63, .move (.tmp 0), none⟩,
  ⟨some 64, .move (.tmp 13), none⟩,
  ⟨some 65, .binOp .add 3 (.tmp 64) (.const (.int .i64 1)) 3, none⟩,
  ⟨some 66, .move (.tmp 0), none⟩,
  ⟨some 67, .move (.tmp 13), none⟩,
  ⟨some 68, .binOp .add 3 (.tmp 67) (.const (.int .i64 1)) 3, none⟩,
  ⟨some 69, .indexAddr 22 (.tmp 66) (.tmp 68), none⟩,
  ⟨some 70, .load 27 (.tmp 69), none⟩,
  ⟨some 71, .move (.tmp 0), none⟩,
  ⟨some 72, .move (.tmp 13), none⟩,
  ⟨some 73, .indexAddr 22 (.tmp 71) (.tmp 72), none⟩,
  ⟨some 74, .load 27 (.tmp 73), none⟩,
  ⟨some 75, .indexAddr 22 (.tmp 61) (.tmp 62), none⟩,
  ⟨none, .store 27 (.tmp 75) (.tmp 70), none⟩,
  ⟨some 76, .indexAddr 22 (.tmp 63) (.tmp 65), none⟩,
  ⟨none, .store 27 (.tmp 76) (.tmp 74), none⟩]
def f96_r12 : List LOp := [
  ⟨some 59, .move (.tmp 13), none⟩,
  ⟨some 60, .binOp .add 3 (.tmp 59) (.const (.int .i64 1)) 3, none⟩,
  ⟨some 13, .assign (.tmp 60), none⟩]
def f96_l13 : LC := (.seq (.seq (.reg f96_r10 [] none) (.cond (.tmp 58) .skip (.exit 2))) (.seq (.block 3 (.regp f96_r11 [] [0, 1, 2, 3, 4, 5, 6, 7, 10, 11] 14)) (.reg f96_r12 [] none)))
def f96_i13 (t0 t10 t13 : D) : List D := [t0, .any, .any, .any, .any, .any, .any, .any, .any, .any, t10, .any, .any, t13, .any, .any, .any, .any, .any, .any, .any, .any, .any, .any, .any, .any, .any, .any, .any, .any, .any, .any, .any, .any, .any, .any, .any, .any, .any, .any, .any, .any, .any, .any, .any, .any, .any, .any, .any, .any, .any, .any, .any, .any, .any, .any, .any, .any, .any, .any, .any, .any, .any, .any, .any, .any, .any, .any, .any, .any, .any, .any, .any, .any, .any, .any, .any, .any, .any, .any, .any, .any, .any, .any, .any, .any, .any, .any, .any, .any, .any, .any, .any, .any, .any, .any, .any, .any, .any, .any, .any, .any, .any, .any, .any, .any, .any, .any, .any, .any, .any, .any, .any, .any, .any, .any, .any, .any, .any, .any, .any, .any, .any, .any, .any, .any, .any, .any, .any, .any, .any, .any, .any, .any, .any, .any, .any, .any, .any, .any, .any, .any, .any, .any, .any, .any, .any, .any, .any, .any, .any, .any, .any, .any, .any, .any, .any, .any, .any, .any, .any, .any, .any, .any, .any, .any, .any, .any, .any, .any, .any, .any, .any, .any, .any, .any, .any, .any, .any, .any, .any, .any, .any, .any, .any, .any, .any, .any, .any, .any, .any, .any, .any, .any, .any, .any, .any, .any, .any, .any, .any, .any, .any, .any, .any, .any, .any, .any, .any, .any, .any, .any, .any, .any, .any, .any, .any, .any, .any, .any]
def f96_r14 : List LOp := [
  ⟨some 77, .move (.tmp 3), none⟩,
  ⟨some 78, .move (.tmp 2), none⟩,
  ⟨some 79, .binOp .sub 3 (.tmp 77) (.tmp 78) 3, none⟩,
  ⟨some 80, .binOp .eql 3 (.tmp 79) (.const (.int .i64 1)) 3, none⟩]
def f96_r15 : List LOp := [
  ⟨some 81, .move (.tmp 1), none⟩,
  ⟨some 14, .assign (.tmp 81), none⟩]
def f96_r16 : List LOp := [
  ⟨some 82, .move (.tmp 2), none⟩,
  ⟨some 15, .assign (.tmp 82), none⟩]
def f96_r17 : List LOp := [
  ⟨some 83, .move (.tmp 14), none⟩,
  ⟨some 84, .move (.tmp 15), none⟩,
  ⟨some 85, .binOp .lss 3 (.tmp 83) (.tmp 84) 3, none⟩]
def f96_r18 : List LOp := [
  ⟨some 86, .move (.tmp 14), none⟩,
  ⟨some 87, .move (.tmp 15), none⟩,
  ⟨some 88, .binOp .add 3 (.tmp 86) (.tmp 87) 3, none⟩,
  ⟨some 89, .convert 3 105 (.tmp 88), none⟩,
  ⟨some 90, .binOp .shr 105 (.tmp 89) (.const (.int .u64 1)) 105, none⟩,
  ⟨some 91, .convert 105 3 (.tmp 90), none⟩,
  ⟨some 16, .assign (.tmp 91), none⟩]
def f96_r19 : List LOp := [
  ⟨some 92, .move (.tmp 4), none⟩,
  ⟨some 93, .move (.tmp 0), none⟩,
  ⟨some 94, .move (.tmp 2), none⟩,
  ⟨some 95, .indexAddr 22 (.tmp 93) (.tmp 94), none⟩,
  ⟨some 96, .load 27 (.tmp 95), none⟩,
  ⟨some 97, .move (.tmp 0), none⟩,
  ⟨some 98, .move (.tmp 16), none⟩,
  ⟨some 99, .indexAddr 22 (.tmp 97) (.tmp 98), none⟩,
  ⟨some 100, .load 27 (.tmp 99), none⟩,
  ⟨some 101, .call { callee := .value (.tmp 92), args := #[.tmp 96, .tmp 100], argTypes := #[27, 27] }, none⟩,
  ⟨some 102, .binOp .lss 3 (.tmp 101) (.const (.int .i64 0)) 3, none⟩,
  ⟨some 103, .unOp .not 4 (.tmp 102), none⟩]
def f96_r20 : List LOp := [
  ⟨some 104, .move (.tmp 16), none⟩,
  ⟨some 105, .binOp .add 3 (.tmp 104) (.const (.int .i64 1)) 3, none⟩,
  ⟨some 14, .assign (.tmp 105), none⟩]
def f96_r21 : List LOp := [
  ⟨some 106, .move (.tmp 16), none⟩,
  ⟨some 15, .assign (.tmp 106), none⟩]
def f96_l22 : LC := (.seq (.seq (.reg f96_r17 [] none) (.cond (.tmp 85) .skip (.exit 4))) (.block 5 (.seq (.reg f96_r18 [] none) (.seq (.reg f96_r19 [] (some 9)) (.cond (.tmp 103) (.reg f96_r20 [] none) (.reg f96_r21 [] none))))))
def f96_i22 (t0 t2 t4 t14 t15 : D) : List D := [t0, .any, t2, .any, t4, .any, .any, .any, .any, .any, .any, .any, .any, .any, t14, t15, .any, .any, .any, .any, .any, .any, .any, .any, .any, .any, .any, .any, .any, .any, .any, .any, .any, .any, .any, .any, .any, .any, .any, .any, .any, .any, .any, .any, .any, .any, .any, .any, .any, .any, .any, .any, .any, .any, .any, .any, .any, .any, .any, .any, .any, .any, .any, .any, .any, .any, .any, .any, .any, .any, .any, .any, .any, .any, .any, .any, .any, .any, .any, .any, .any, .any, .any, .any, .any, .any, .any, .any, .any, .any, .any, .any, .any, .any, .any, .any, .any, .any, .any, .any, .any, .any, .any, .any, .any, .any, .any, .any, .any, .any, .any, .any, .any, .any, .any, .any, .any, .any, .any, .any, .any, .any, .any, .any, .any, .any, .any, .any, .any, .any, .any, .any, .any, .any, .any, .any, .any, .any, .any, .any, .any, .any, .any, .any, .any, .any, .any, .any, .any, .any, .any, .any, .any, .any, .any, .any, .any, .any, .any, .any, .any, .any, .any, .any, .any, .any, .any, .any, .any, .any, .any, .any, .any, .any, .any, .any, .any, .any, .any, .any, .any, .any, .any, .any, .any, .any, .any, .any, .any, .any, .any, .any, .any, .any, .any, .any, .any, .any, .any, .any, .any, .any, .any, .any, .any, .any, .any, .any, .any, .any, .any, .any, .any, .any, .any, .any, .any, .any, .any, .any]
def f96_r23 : List LOp := [
  ⟨some 107, .move (.tmp 2), none⟩,
  ⟨some 17, .assign (.tmp 107), none⟩]
def f96_r24 : List LOp := [
  ⟨some 108, .move (.tmp 17), none⟩,
  ⟨some 109, .move (.tmp 14), none⟩,
  ⟨some 110, .binOp .gtr 3 (.tmp 108) (.tmp 109) 3, none⟩]
def f96_r25 : List LOp := [
  ⟨some 113, .move (.tmp 0), none⟩,
  ⟨some 114, .move (.tmp 17), none⟩,
  ⟨some 115, .move (.tmp 0), none⟩,
  ⟨some 116, .move (.tmp 17), none⟩,
  ⟨some 117, .binOp .sub 3 (.tmp 116) (.const (.int .i64 1)) 3, none⟩,
  ⟨some 118, .move (.tmp 0), none⟩,
  ⟨some 119, .move (.tmp 17), none⟩,
  ⟨some 120, .binOp .sub 3 (.tmp 119) (.const (.int .i64 1)) 3, none⟩,
  ⟨some 121, .indexAddr 22 (.tmp 118) (.tmp 120), none⟩,
  ⟨some 122, .load 27 (.tmp 121), none⟩,
  ⟨some 123, .move (.tmp 0), none⟩,
  ⟨some 124, .move (.tmp 17), none⟩,
  ⟨some 125, .indexAddr 22 (.tmp 123) (.tmp 124), none⟩,
  ⟨some 126, .load 27 (.tmp 125), none⟩,
  ⟨some 127, .indexAddr 22 (.tmp 113) (.tmp 114), none⟩,
  ⟨none, .store 27 (.tmp 127) (.tmp 122), none⟩,
  ⟨some 128, .indexAddr 22 (.tmp 115) (.tmp 117), none⟩,
  ⟨none, .store 27 (.tmp 128) (.tmp 126), none⟩]
def f96_r26 : List LOp := [
  ⟨some 111, .move (.tmp 17), none⟩,
  ⟨some 112, .binOp .sub 3 (.tmp 111) (.const (.int .i64 1)) 3, none⟩,
  ⟨some 17, .assign (.tmp 112), none⟩]
def f96_l27 : LC := (.seq (.seq (.reg f96_r24 [] none) (.cond (.tmp 110) .skip (.exit 6))) (.seq (.block 7 (.regp f96_r25 [] [0, 1, 2, 3, 4, 5, 6, 7, 10, 11] 14)) (.reg f96_r26 [] none)))
def f96_i27 (t0 t14 t17 : D) : List D := [t0, .any, .any, .any, .any, .any, .any, .any, .any, .any, .any, .any, .any, .any, t14, .any, .any, t17, .any, .any, .any, .any, .any, .any, .any, .any, .any, .any, .any, .any, .any, .any, .any, .any, .any, .any, .any, .any, .any, .any, .any, .any, .any, .any, .any, .any, .any, .any, .any, .any, .any, .any, .any, .any, .any, .any, .any, .any, .any, .any, .any, .any, .any, .any, .any, .any, .any, .any, .any, .any, .any, .any, .any, .any, .any, .any, .any, .any, .any, .any, .any, .any, .any, .any, .any, .any, .any, .any, .any, .any, .any, .any, .any, .any, .any, .any, .any, .any, .any, .any, .any, .any, .any, .any, .any, .any, .any, .any, .any, .any, .any, .any, .any, .any, .any, .any, .any, .any, .any, .any, .any, .any, .any, .any, .any, .any, .any, .any, .any, .any, .any, .any, .any, .any, .any, .any, .any, .any, .any, .any, .any, .any, .any, .any, .any, .any, .any, .any, .any, .any, .any, .any, .any, .any, .any, .any, .any, .any, .any, .any, .any, .any, .any, .any, .any, .any, .any, .any, .any, .any, .any, .any, .any, .any, .any, .any, .any, .any, .any, .any, .any, .any, .any, .any, .any, .any, .any, .any, .any, .any, .any, .any, .any, .any, .any, .any, .any, .any, .any, .any, .any, .any, .any, .any, .any, .any, .any, .any, .any, .any, .any, .any, .any, .any, .any, .any, .any, .any, .any, .any]
def f96_r28 : List LOp := [
  ⟨some 129, .move (.tmp 1), none⟩,
  ⟨some 130, .move (.tmp 3), none⟩,
  ⟨some 131, .binOp .add 3 (.tmp 129) (.tmp 130) 3, none⟩,
  ⟨some 132, .convert 3 105 (.tmp 131), none⟩,
  ⟨some 133, .binOp .shr 105 (.tmp 132) (.const (.int .u64 1)) 105, none⟩,
  ⟨some 134, .convert 105 3 (.tmp 133), none⟩,
  ⟨some 18, .assign (.tmp 134), none⟩]
def f96_r29 : List LOp := [
  ⟨some 135, .move (.tmp 18), none⟩,
  ⟨some 136, .move (.tmp 2), none⟩,
  ⟨some 137, .binOp .add 3 (.tmp 135) (.tmp 136) 3, none⟩,
  ⟨some 19, .assign (.tmp 137), none⟩]
def f96_r30 : List LOp := [
  ⟨some 20, .assign (.const (.int .i64 0)), none⟩,
  ⟨some 21, .assign (.const (.int .i64 0)), none⟩]
def f96_r31 : List LOp := [
  ⟨some 138, .move (.tmp 2), none⟩,
  ⟨some 139, .move (.tmp 18), none⟩,
  ⟨some 140, .binOp .gtr 3 (.tmp 138) (.tmp 139) 3, none⟩]
def f96_r32 : List LOp := [
  ⟨some 141, .move (.tmp 19), none⟩,
  ⟨some 142, .move (.tmp 3), none⟩,
  ⟨some 143, .binOp .sub 3 (.tmp 141) (.tmp 142) 3, none⟩,
  ⟨some 20, .assign (.tmp 143), none⟩]
def f96_r33 : List LOp := [
  ⟨some 144, .move (.tmp 18), none⟩,
  ⟨some 21, .assign (.tmp 144), none⟩]
def f96_r34 : List LOp := [
  ⟨some 145, .move (.tmp 1), none⟩,
  ⟨some 20, .assign (.tmp 145), none⟩]
def f96_r35 : List LOp := [
  ⟨some 146, .move (.tmp 2), none⟩,
  ⟨some 21, .assign (.tmp 146), none⟩]
def f96_r36 : List LOp := [
  ⟨some 147, .move (.tmp 19), none⟩,
  ⟨some 148, .binOp .sub 3 (.tmp 147) (.const (.int .i64 1)) 3, none⟩,
  ⟨some 22, .assign (.tmp 148), none⟩]
def f96_r37 : List LOp := [
  ⟨some 149, .move (.tmp 20), none⟩,
  ⟨some 150, .move (.tmp 21), none⟩,
  ⟨some 151, .binOp .lss 3 (.tmp 149) (.tmp 150) 3, none⟩]
def f96_r38 : List LOp := [
  ⟨some 152, .move (.tmp 20), none⟩,
  ⟨some 153, .move (.tmp 21), none⟩,
  ⟨some 154, .binOp .add 3 (.tmp 152) (.tmp 153) 3, none⟩,
  ⟨some 155, .convert 3 105 (.tmp 154), none⟩,
  ⟨some 156, .binOp .shr 105 (.tmp 155) (.const (.int .u64 1)) 105, none⟩,
  ⟨some 157, .convert 105 3 (.tmp 156), none⟩,
  ⟨some 23, .assign (.tmp 157), none⟩]
def f96_r39 : List LOp := [
  ⟨some 158, .move (.tmp 4), none⟩,
  ⟨some 159, .move (.tmp 0), none⟩,
  ⟨some 160, .move (.tmp 22), none⟩,
  ⟨some 161, .move (.tmp 23), none⟩,
  ⟨some 162, .binOp .sub 3 (.tmp 160) (.tmp 161) 3, none⟩,
  ⟨some 163, .indexAddr 22 (.tmp 159) (.tmp 162), none⟩,
  ⟨some 164, .load 27 (.tmp 163), none⟩,
  ⟨some 165, .move (.tmp 0), none⟩,
  ⟨some 166, .move (.tmp 23), none⟩,
  ⟨some 167, .indexAddr 22 (.tmp 165) (.tmp 166), none⟩,
  ⟨some 168, .load 27 (.tmp 167), none⟩,
  ⟨some 169, .call { callee := .value (.tmp 158), args := #[.tmp 164, .tmp 168], argTypes := #[27, 27] }, none⟩,
  ⟨some 170, .binOp .lss 3 (.tmp 169) (.const (.int .i64 0)) 3, none⟩,
  ⟨some 171, .unOp .not 4 (.tmp 170), none⟩]
def f96_r40 : List LOp := [
  ⟨some 172, .move (.tmp 23), none⟩,
  ⟨some 173, .binOp .add 3 (.tmp 172) (.const (.int .i64 1)) 3, none⟩,
  ⟨some 20, .assign (.tmp 173), none⟩]
def f96_r41 : List LOp := [
  ⟨some 174, .move (.tmp 23), none⟩,
  ⟨some 21, .assign (.tmp 174), none⟩]
def f96_l42 : LC := (.seq (.seq (.reg f96_r37 [] none) (.cond (.tmp 151) .skip (.exit 8))) (.block 9 (.seq (.reg f96_r38 [] none) (.seq (.reg f96_r39 [] (some 11)) (.cond (.tmp 171) (.reg f96_r40 [] none) (.reg f96_r41 [] none))))))
def f96_i42 (t0 t1 t2 t3 t4 t18 t19 t20 t21 t22 : D) : List D := [t0, t1, t2, t3, t4, .any, .any, .any, .any, .any, .any, .any, .any, .any, .any, .any, .any, .any, t18, t19, t20, t21, t22, .any, .any, .any, .any, .any, .any, .any, .any, .any, .any, .any, .any, .any, .any, .any, .any, .any, .any, .any, .any, .any, .any, .any, .any, .any, .any, .any, .any, .any, .any, .any, .any, .any, .any, .any, .any, .any, .any, .any, .any, .any, .any, .any, .any, .any, .any, .any, .any, .any, .any, .any, .any, .any, .any, .any, .any, .any, .any, .any, .any, .any, .any, .any, .any, .any, .any, .any, .any, .any, .any, .any, .any, .any, .any, .any, .any, .any, .any, .any, .any, .any, .any, .any, .any, .any, .any, .any, .any, .any, .any, .any, .any, .any, .any, .any, .any, .any, .any, .any, .any, .any, .any, .any, .any, .any, .any, .any, .any, .any, .any, .any, .any, .any, .any, .any, .any, .any, .any, .any, .any, .any, .any, .any, .any, .any, .any, .any, .any, .any, .any, .any, .any, .any, .any, .any, .any, .any, .any, .any, .any, .any, .any, .any, .any, .any, .any, .any, .any, .any, .any, .any, .any, .any, .any, .any, .any, .any, .any, .any, .any, .any, .any, .any, .any, .any, .any, .any, .any, .any, .any, .any, .any, .any, .any, .any, .any, .any, .any, .any, .any, .any, .any, .any, .any, .any, .any, .any, .any, .any, .any, .any, .any, .any, .any, .any, .any, .any]
def f96_r43 : List LOp := [
  ⟨some 175, .move (.tmp 19), none⟩,
  ⟨some 176, .move (.tmp 20), none⟩,
  ⟨some 177, .binOp .sub 3 (.tmp 175) (.tmp 176) 3, none⟩,
  ⟨some 24, .assign (.tmp 177), none⟩]
def f96_r44 : List LOp := [
  ⟨some 178, .move (.tmp 20), none⟩,
  ⟨some 179, .move (.tmp 2), none⟩,
  ⟨some 180, .binOp .lss 3 (.tmp 178) (.tmp 179) 3, none⟩,
  ⟨some 181, .move (.tmp 180), none⟩,
  ⟨some 182, .move (.tmp 2), some (3, true)⟩,
  ⟨some 183, .move (.tmp 24), some (3, true)⟩,
  ⟨some 184, .binOp .lss 3 (.tmp 182) (.tmp 183) 3, some (3, true)⟩,
  ⟨some 185, .pick (.tmp 181) (.tmp 184) (.const (.bool false)), none⟩]
def f96_r45 : List LOp := [
  ⟨some 186, .move (.tmp 0), none⟩,
  ⟨some 187, .move (.tmp 20), none⟩,
  ⟨some 188, .move (.tmp 2), none⟩,
  ⟨some 189, .move (.tmp 24), none⟩,
  ⟨some 190, .move (.tmp 4), none⟩,
  ⟨some 191, .call { callee := .value (.func 103), args := #[.tmp 186, .tmp 187, .tmp 188, .tmp 189, .tmp 190], argTypes := #[22, 3, 3, 3, 77] }, none⟩]
def f96_r46 : List LOp := [
  ⟨some 192, .move (.tmp 1), none⟩,
  ⟨some 193, .move (.tmp 20), none⟩,
  ⟨some 194, .binOp .lss 3 (.tmp 192) (.tmp 193) 3, none⟩,
  ⟨some 195, .move (.tmp 194), none⟩,
  ⟨some 196, .move (.tmp 20), some (3, true)⟩,
  ⟨some 197, .move (.tmp 18), some (3, true)⟩,
  ⟨some 198, .binOp .lss 3 (.tmp 196) (.tmp 197) 3, some (3, true)⟩,
  ⟨some 199, .pick (.tmp 195) (.tmp 198) (.const (.bool false)), none⟩]
def f96_r47 : List LOp := [
  ⟨some 200, .move (.tmp 0), none⟩,
  ⟨some 201, .move (.tmp 1), none⟩,
  ⟨some 202, .move (.tmp 20), none⟩,
  ⟨some 203, .move (.tmp 18), none⟩,
  ⟨some 204, .move (.tmp 4), none⟩,
  ⟨some 205, .call { callee := .value (.func 96), args := #[.tmp 200, .tmp 201, .tmp 202, .tmp 203, .tmp 204], argTypes := #[22, 3, 3, 3, 77] }, none⟩]
def f96_r48 : List LOp := [
  ⟨some 206, .move (.tmp 18), none⟩,
  ⟨some 207, .move (.tmp 24), none⟩,
  ⟨some 208, .binOp .lss 3 (.tmp 206) (.tmp 207) 3, none⟩,
  ⟨some 209, .move (.tmp 208), none⟩,
  ⟨some 210, .move (.tmp 24), some (3, true)⟩,
  ⟨some 211, .move (.tmp 3), some (3, true)⟩,
  ⟨some 212, .binOp .lss 3 (.tmp 210) (.tmp 211) 3, some (3, true)⟩,
  ⟨some 213, .pick (.tmp 209) (.tmp 212) (.const (.bool false)), none⟩]
def f96_r49 : List LOp := [
  ⟨some 214, .move (.tmp 0), none⟩,
  ⟨some 215, .move (.tmp 18), none⟩,
  ⟨some 216, .move (.tmp 24), none⟩,
  ⟨some 217, .move (.tmp 3), none⟩,
  ⟨some 218, .move (.tmp 4), none⟩,
  ⟨some 219, .call { callee := .value (.func 96), args := #[.tmp 214, .tmp 215, .tmp 216, .tmp 217, .tmp 218], argTypes := #[22, 3, 3, 3, 77] }, none⟩]
def f96_c : LC := (.seq (.seq (.reg f96_r0 [] none) (.cond (.tmp 28) (.seq (.reg f96_r1 [] none) (.seq (.reg f96_r2 [] none) (.seq (.block 0 (.loop f96_l8)) (.seq (.seq (.reg f96_r9 [] none) (.block 2 (.loop f96_l13))) .ret)))) .skip)) (.seq (.seq (.reg f96_r14 [] none) (.cond (.tmp 80) (.seq (.reg f96_r15 [] none) (.seq (.reg f96_r16 [] none) (.seq (.block 4 (.loop f96_l22)) (.seq (.seq (.reg f96_r23 [] none) (.block 6 (.loop f96_l27))) .ret)))) .skip)) (.seq (.reg f96_r28 [] none) (.seq (.reg f96_r29 [] none) (.seq (.reg f96_r30 [] none) (.seq (.seq (.reg f96_r31 [] none) (.cond (.tmp 140) (.seq (.reg f96_r32 [] none) (.reg f96_r33 [] none)) (.seq (.reg f96_r34 [] none) (.reg f96_r35 [] none)))) (.seq (.reg f96_r36 [] none) (.seq (.block 8 (.loop f96_l42)) (.seq (.reg f96_r43 [] none) (.seq (.seq (.reg f96_r44 [] none) (.cond (.tmp 185) (.reg f96_r45 [] none) .skip)) (.seq (.seq (.reg f96_r46 [] none) (.cond (.tmp 199) (.reg f96_r47 [] none) .skip)) (.seq (.reg f96_r48 [] none) (.cond (.tmp 213) (.reg f96_r49 [] none) .skip)))))))))))))
theorem f96_lc : Tryz.f96.body.map lc = some f96_c.st := by kernel_rfl
theorem f96_res : Tryz.f96.results.toList = [] := by kernel_rfl
theorem f96_nt : Tryz.f96.ntmps = 220 := by kernel_rfl
theorem f96_nm : (Tryz.f96.name == "runtime.NumGoroutine") = false := by kernel_rfl

/-! quill/set.Range -/
def f97_r0 : List LOp := [
  ⟨some 4, .alloc 25, none⟩]
def f97_r1 : List LOp := [
  ⟨some 5, .alloc 25, none⟩]
def f97_r2 : List LOp := [
  ⟨some 7, .move (.tmp 0), none⟩,
  ⟨some 8, .convert 5 3 (.tmp 7), none⟩,
  ⟨some 6, .assign (.tmp 8), none⟩]
def f97_r3 : List LOp := [
  ⟨some 9, .move (.tmp 6), none⟩,
  ⟨some 10, .move (.tmp 1), none⟩,
  ⟨some 11, .convert 5 3 (.tmp 10), none⟩,
  ⟨some 12, .binOp .leq 3 (.tmp 9) (.tmp 11) 3, none⟩]
def f97_r4 : List LOp := [
  ⟨some 15, .move (.tmp 6), none⟩,
  ⟨some 16, .binOp .quo 3 (.tmp 15) (.const (.int .i64 64)) 3, none⟩,
  ⟨some 17, .indexAddr 25 (.tmp 5) (.tmp 16), none⟩,
  ⟨some 18, .load 23 (.tmp 17), none⟩,
  ⟨some 19, .move (.tmp 6), none⟩,
  ⟨some 20, .binOp .rem 3 (.tmp 19) (.const (.int .i64 64)) 3, none⟩,
  ⟨some 21, .binOp .shl 23 (.const (.int .u64 1)) (.tmp 20) 3, none⟩,
  ⟨some 22, .binOp .or 23 (.tmp 18) (.tmp 21) 23, none⟩,
  ⟨some 23, .indexAddr 25 (.tmp 5) (.tmp 16), none⟩,
  ⟨none, .store 23 (.tmp 23) (.tmp 22), none⟩]
def f97_r5 : List LOp := [
  ⟨some 13, .move (.tmp 6), none⟩,
  ⟨some 14, .binOp .add 3 (.tmp 13) (.const (.int .i64 1)) 3, none⟩,
  ⟨some 6, .assign (.tmp 14), none⟩]
def f97_l6 : LC := (.seq (.seq (.reg f97_r3 [] none) (.cond (.tmp 12) .skip (.exit 0))) (.seq (.block 1 (.reg f97_r4 [] (some 7))) (.reg f97_r5 [] none)))
def f97_i6 (t1 t4 t5 t6 : D) : List D := [.any, t1, .any, .any, t4, t5, t6, .any, .any, .any, .any, .any, .any, .any, .any, .any, .any, .any, .any, .any, .any, .any, .any, .any, .any]
def f97_r7 : List LOp := [
  ⟨some 24, .load 25 (.tmp 5), none⟩,
  ⟨none, .store 25 (.tmp 4) (.tmp 24), none⟩]
def f97_c : LC := (.seq (.reg f97_r0 [] none) (.seq (.reg f97_r1 [] none) (.seq (.seq (.reg f97_r2 [] none) (.block 0 (.loop f97_l6))) (.seq (.reg f97_r7 [] none) .ret))))
theorem f97_lc : Tryz.f97.body.map lc = some f97_c.st := by kernel_rfl
theorem f97_res : Tryz.f97.results.toList = [.cell 4 25] := by kernel_rfl
theorem f97_nt : Tryz.f97.ntmps = 25 := by kernel_rfl
theorem f97_nm : (Tryz.f97.name == "runtime.NumGoroutine") = false := by kernel_rfl

/-! (*quill/read.reader).class -/
def f98_r0 : List LOp := [
  ⟨some 2, .alloc 27, none⟩]
def f98_r1 : List LOp := [
  ⟨some 3, .alloc 25, none⟩]
def f98_r2 : List LOp := [
  ⟨some 7, .move (.tmp 0), none⟩,
  ⟨some 8, .call { callee := .value (.func 72), args := #[.tmp 7, .const (.string { data := #[93] })], argTypes := #[53, 9] }, none⟩,
  ⟨some 9, .unOp .not 4 (.tmp 8), none⟩]
def f98_r3 : List LOp := [
  ⟨some 10, .move (.tmp 0), none⟩,
  ⟨some 11, .call { callee := .value (.func 100), args := #[.tmp 10], argTypes := #[53] }, none⟩,
  ⟨some 4, .assign (.tmp 11), none⟩]
def f98_r4 : List LOp := [
  ⟨some 12, .move (.tmp 4), none⟩,
  ⟨some 5, .assign (.tmp 12), none⟩]
def f98_r5 : List LOp := [
  ⟨some 13, .move (.tmp 0), none⟩,
  ⟨some 14, .call { callee := .value (.func 72), args := #[.tmp 13, .const (.string { data := #[45] })], argTypes := #[53, 9] }, none⟩]
def f98_r6 : List LOp := [
  ⟨some 15, .move (.tmp 0), none⟩,
  ⟨some 16, .nilCheck (.tmp 15), none⟩,
  ⟨some 17, .fieldAddr 55 (.tmp 16) 1, none⟩,
  ⟨some 18, .load 3 (.tmp 17), none⟩,
  ⟨some 19, .binOp .add 3 (.tmp 18) (.const (.int .i64 1)) 3, none⟩,
  ⟨some 20, .nilCheck (.tmp 15), none⟩,
  ⟨some 21, .fieldAddr 55 (.tmp 20) 1, none⟩,
  ⟨none, .store 3 (.tmp 21) (.tmp 19), none⟩]
def f98_r7 : List LOp := [
  ⟨some 22, .move (.tmp 0), none⟩,
  ⟨some 23, .nilCheck (.tmp 22), none⟩,
  ⟨some 24, .fieldAddr 55 (.tmp 23) 1, none⟩,
  ⟨some 25, .load 3 (.tmp 24), none⟩,
  ⟨some 6, .assign (.tmp 25), none⟩]
def f98_r8 : List LOp := [
  ⟨some 26, .move (.tmp 0), none⟩,
  ⟨some 27, .call { callee := .value (.func 100), args := #[.tmp 26], argTypes := #[53] }, none⟩,
  ⟨some 5, .assign (.tmp 27), none⟩]
def f98_r9 : List LOp := [
  ⟨some 28, .move (.tmp 5), none⟩,
  ⟨some 29, .move (.tmp 4), none⟩,
  ⟨some 30, .binOp .lss 5 (.tmp 28) (.tmp 29) 5, none⟩]
def f98_r10 : List LOp := [
  ⟨some 31, .move (.tmp 6), none⟩,
  ⟨some 32, .build 69 #[(0, .tmp 31)], none⟩,
  ⟨some 33, .makeInterface 69 (.tmp 32), none⟩,
  ⟨none, .panic (.tmp 33), none⟩]
def f98_r11 : List LOp := [
  ⟨some 34, .load 25 (.tmp 3), none⟩,
  ⟨some 35, .move (.tmp 4), none⟩,
  ⟨some 36, .move (.tmp 5), none⟩,
  ⟨some 37, .call { callee := .value (.func 97), args := #[.tmp 35, .tmp 36], argTypes := #[5, 5] }, none⟩,
  ⟨some 38, .buildSlice 78 2 #[(0, .tmp 34), (1, .tmp 37)], none⟩,
  ⟨some 39, .call { callee := .value (.func 52), args := #[.tmp 38], argTypes := #[78] }, none⟩,
  ⟨none, .store 25 (.tmp 3) (.tmp 39), none⟩]
def f98_l12 : LC := (.seq (.seq (.reg f98_r2 [] none) (.cond (.tmp 9) .skip (.exit 0))) (.block 1 (.seq (.reg f98_r3 [] none) (.seq (.reg f98_r4 [] none) (.seq (.seq (.reg f98_r5 [] none) (.cond (.tmp 14) (.seq (.reg f98_r6 [] none) (.seq (.reg f98_r7 [] none) (.seq (.reg f98_r8 [] none) (.seq (.reg f98_r9 [] none) (.cond (.tmp 30) (.reg f98_r10 [] none) .skip))))) .skip)) (.reg f98_r11 [] (some 4)))))))
def f98_i12 (t0 t2 t3 : D) : List D := [t0, .any, t2, t3, .any, .any, .any, .any, .any, .any, .any, .any, .any, .any, .any, .any, .any, .any, .any, .any, .any, .any, .any, .any, .any, .any, .any, .any, .any, .any, .any, .any, .any, .any, .any, .any, .any, .any, .any, .any, .any, .any, .any, .any, .any, .any, .any, .any, .any]
def f98_r13 : List LOp := [
  ⟨some 40, .move (.tmp 0), none⟩,
  ⟨some 41, .nilCheck (.tmp 40), none⟩,
  ⟨some 42, .fieldAddr 55 (.tmp 41) 1, none⟩,
  ⟨some 43, .load 3 (.tmp 42), none⟩,
  ⟨some 44, .binOp .add 3 (.tmp 43) (.const (.int .i64 1)) 3, none⟩,
  ⟨some 45, .nilCheck (.tmp 40), none⟩,
  ⟨some 46, .fieldAddr 55 (.tmp 45) 1, none⟩,
  ⟨none, .store 3 (.tmp 46) (.tmp 44), none⟩]
def f98_r14 : List LOp := [
  ⟨some 47, .load 25 (.tmp 3), none⟩,
  ⟨some 48, .call { callee := .value (.func 34), args := #[.tmp 47], argTypes := #[25] }, none⟩,
  ⟨none, .store 27 (.tmp 2) (.tmp 48), none⟩]
def f98_c : LC := (.seq (.reg f98_r0 [] none) (.seq (.reg f98_r1 [] none) (.seq (.block 0 (.loop f98_l12)) (.seq (.reg f98_r13 [] none) (.seq (.reg f98_r14 [] none) .ret)))))
theorem f98_lc : Tryz.f98.body.map lc = some f98_c.st := by kernel_rfl
theorem f98_res : Tryz.f98.results.toList = [.cell 2 27] := by kernel_rfl
theorem f98_nt : Tryz.f98.ntmps = 49 := by kernel_rfl
theorem f98_nm : (Tryz.f98.name == "runtime.NumGoroutine") = false := by kernel_rfl

/-! (*quill/read.reader).eat -/
def f99_r0 : List LOp := [
  ⟨some 4, .move (.tmp 0), none⟩,
  ⟨some 5, .move (.tmp 1), none⟩,
  ⟨some 6, .call { callee := .value (.func 72), args := #[.tmp 4, .tmp 5], argTypes := #[53, 9] }, none⟩,
  ⟨some 7, .unOp .not 4 (.tmp 6), none⟩]
def f99_r1 : List LOp := [
  ⟨some 8, .move (.tmp 0), none⟩,
  ⟨some 9, .nilCheck (.tmp 8), none⟩,
  ⟨some 10, .fieldAddr 55 (.tmp 9) 1, none⟩,
  ⟨some 11, .load 3 (.tmp 10), none⟩,
  ⟨some 12, .build 69 #[(0, .tmp 11)], none⟩,
  ⟨some 13, .makeInterface 69 (.tmp 12), none⟩,
  ⟨none, .panic (.tmp 13), none⟩]
def f99_r2 : List LOp := [
  ⟨some 14, .move (.tmp 0), none⟩,
  ⟨some 15, .nilCheck (.tmp 14), none⟩,
  ⟨some 16, .fieldAddr 55 (.tmp 15) 1, none⟩,
  ⟨some 17, .load 3 (.tmp 16), none⟩,
  ⟨some 18, .binOp .add 3 (.tmp 17) (.const (.int .i64 1)) 3, none⟩,
  ⟨some 19, .nilCheck (.tmp 14), none⟩,
  ⟨some 20, .fieldAddr 55 (.tmp 19) 1, none⟩,
  ⟨none, .store 3 (.tmp 20) (.tmp 18), none⟩]
def f99_c : LC := (.seq (.seq (.reg f99_r0 [] none) (.cond (.tmp 7) (.reg f99_r1 [] none) .skip)) (.reg f99_r2 [] none))
theorem f99_lc : Tryz.f99.body.map lc = some f99_c.st := by kernel_rfl
theorem f99_res : Tryz.f99.results.toList = [] := by kernel_rfl
theorem f99_nt : Tryz.f99.ntmps = 21 := by kernel_rfl
theorem f99_nm : (Tryz.f99.name == "runtime.NumGoroutine") = false := by kernel_rfl

/-! (*quill/read.reader).sign -/
def f100_r0 : List LOp := [
  ⟨some 2, .assign (.const (.int .u8 0)), none⟩]
def f100_r1 : List LOp := [
  ⟨some 7, .move (.tmp 0), none⟩,
  ⟨some 8, .call { callee := .value (.func 84), args := #[.tmp 7], argTypes := #[53] }, none⟩,
  ⟨some 9, .unOp .not 4 (.tmp 8), none⟩]
def f100_r2 : List LOp := [
  ⟨some 10, .move (.tmp 0), none⟩,
  ⟨some 11, .nilCheck (.tmp 10), none⟩,
  ⟨some 12, .fieldAddr 55 (.tmp 11) 1, none⟩,
  ⟨some 13, .load 3 (.tmp 12), none⟩,
  ⟨some 14, .build 69 #[(0, .tmp 13)], none⟩,
  ⟨some 15, .makeInterface 69 (.tmp 14), none⟩,
  ⟨none, .panic (.tmp 15), none⟩]
def f100_r3 : List LOp := [
  ⟨some 16, .move (.tmp 0), none⟩,
  ⟨some 17, .nilCheck (.tmp 16), none⟩,
  ⟨some 18, .fieldAddr 55 (.tmp 17) 0, none⟩,
  ⟨some 19, .load 9 (.tmp 18), none⟩,
  ⟨some 20, .move (.tmp 0), none⟩,
  ⟨some 21, .nilCheck (.tmp 20), none⟩,
  ⟨some 22, .fieldAddr 55 (.tmp 21) 1, none⟩,
  ⟨some 23, .load 3 (.tmp 22), none⟩,
  ⟨some 24, .index 9 (.tmp 19) (.tmp 23), none⟩,
  ⟨some 3, .assign (.tmp 24), none⟩]
def f100_r4 : List LOp := [
  ⟨some 25, .move (.tmp 0), none⟩,
  ⟨some 26, .nilCheck (.tmp 25), none⟩,
  ⟨some 27, .fieldAddr 55 (.tmp 26) 1, none⟩,
  ⟨some 28, .load 3 (.tmp 27), none⟩,
  ⟨some 29, .binOp .add 3 (.tmp 28) (.const (.int .i64 1)) 3, none⟩,
  ⟨some 30, .nilCheck (.tmp 25), none⟩,
  ⟨some 31, .fieldAddr 55 (.tmp 30) 1, none⟩,
  ⟨none, .store 3 (.tmp 31) (.tmp 29), none⟩]
def f100_r5 : List LOp := [
  ⟨some 32, .move (.tmp 3), none⟩,
  ⟨some 33, .binOp .neq 5 (.tmp 32) (.const (.int .u8 92)) 5, none⟩]
def f100_r6 : List LOp := [
  ⟨some 34, .move (.tmp 3), none⟩,
  ⟨some 2, .assign (.tmp 34), none⟩]
def f100_r7 : List LOp := [
  ⟨some 35, .move (.tmp 0), none⟩,
  ⟨some 36, .nilCheck (.tmp 35), none⟩,
  ⟨some 37, .fieldAddr 55 (.tmp 36) 1, none⟩,
  ⟨some 38, .load 3 (.tmp 37), none⟩,
  ⟨some 4, .assign (.tmp 38), none⟩]
def f100_r8 : List LOp := [
  ⟨some 39, .move (.tmp 0), none⟩,
  ⟨some 40, .call { callee := .value (.func 104), args := #[.tmp 39], argTypes := #[53] }, none⟩]
def f100_r9 : List LOp := [
  ⟨some 41, .move (.tmp 0), none⟩,
  ⟨some 42, .call { callee := .value (.func 104), args := #[.tmp 41], argTypes := #[53] }, none⟩]
def f100_r10 : List LOp := [
  ⟨some 44, .move (.tmp 0), none⟩,
  ⟨some 45, .nilCheck (.tmp 44), none⟩,
  ⟨some 46, .fieldAddr 55 (.tmp 45) 0, none⟩,
  ⟨some 47, .load 9 (.tmp 46), none⟩,
  ⟨some 48, .move (.tmp 4), none⟩,
  ⟨some 49, .move (.tmp 0), none⟩,
  ⟨some 50, .nilCheck (.tmp 49), none⟩,
  ⟨some 51, .fieldAddr 55 (.tmp 50) 1, none⟩,
  ⟨some 52, .load 3 (.tmp 51), none⟩,
  ⟨some 53, .slice 9 (.tmp 47) (some (.tmp 48)) (some (.tmp 52)) none, none⟩,
  ⟨some 54, .call { callee := .value (.func 105), args := #[.tmp 53], argTypes := #[9] }, none⟩,
  ⟨some 43, .move (.tmp 54), none⟩,
  ⟨some 55, .extract (.tmp 43) 0, none⟩,
  ⟨some 56, .extract (.tmp 43) 1, none⟩,
  ⟨some 5, .assign (.tmp 55), none⟩,
  ⟨some 6, .assign (.tmp 56), none⟩]
def f100_r11 : List LOp := [
  ⟨some 57, .move (.tmp 5), none⟩,
  ⟨some 58, .indexAddr 72 (.tmp 57) (.const (.int .i64 0)), none⟩,
  ⟨some 59, .load 5 (.tmp 58), none⟩,
  ⟨some 2, .assign (.tmp 59), none⟩]
def f100_c : LC := (.seq (.reg f100_r0 [] none) (.seq (.seq (.reg f100_r1 [] none) (.cond (.tmp 9) (.reg f100_r2 [] none) .skip)) (.seq (.reg f100_r3 [] (some 8)) (.seq (.reg f100_r4 [] none) (.seq (.seq (.reg f100_r5 [] none) (.cond (.tmp 33) (.seq (.reg f100_r6 [] none) .ret) .skip)) (.seq (.reg f100_r7 [] none) (.seq (.reg f100_r8 [] none) (.seq (.reg f100_r9 [] none) (.seq (.regp f100_r10 [] [0, 4, 5] 15) (.seq (.reg f100_r11 [] none) .ret))))))))))
theorem f100_lc : Tryz.f100.body.map lc = some f100_c.st := by kernel_rfl
theorem f100_res : Tryz.f100.results.toList = [.tmp 2] := by kernel_rfl
theorem f100_nt : Tryz.f100.ntmps = 60 := by kernel_rfl
theorem f100_nm : (Tryz.f100.name == "runtime.NumGoroutine") = false := by kernel_rfl

/-! quill/num.Hex -/
def f101_r0 : List LOp := [
  ⟨some 2, .assign (.const (.string { data := #[] })), none⟩]
def f101_r1 : List LOp := [
  ⟨some 6, .move (.tmp 0), none⟩,
  ⟨some 7, .call { callee := .builtin .len, args := #[.tmp 6], argTypes := #[72] }, none⟩,
  ⟨some 8, .binOp .mul 3 (.const (.int .i64 2)) (.tmp 7) 3, none⟩,
  ⟨some 9, .makeSlice 72 (.const (.int .i64 0)) (.tmp 8), none⟩,
  ⟨some 3, .assign (.tmp 9), none⟩]
def f101_r2 : List LOp := [
  ⟨some 10, .move (.tmp 0), none⟩,
  ⟨some 11, .call { callee := .builtin .len, args := #[.tmp 10], argTypes := #[72] }, none⟩,
  ⟨some 12, .move (.const (.int .i64 0)), none⟩]
def f101_r3 : List LOp := [
  ⟨some 13, .binOp .lss 3 (.tmp 12) (.tmp 11) 3, none⟩]
def f101_r4 : List LOp := [
  ⟨some 14, .indexAddr 72 (.tmp 10) (.tmp 12), none⟩,
  ⟨some 15, .load 5 (.tmp 14), none⟩,
  ⟨some 5, .assign (.tmp 15), none⟩]
def f101_r5 : List LOp := [
  ⟨some 16, .move (.tmp 3), none⟩,
  ⟨some 17, .move (.tmp 5), none⟩,
  ⟨some 18, .binOp .shr 5 (.tmp 17) (.const (.int .u64 4)) 105, none⟩,
  ⟨some 19, .call { callee := .value (.func 106), args := #[.tmp 18], argTypes := #[5] }, none⟩,
  ⟨some 20, .move (.tmp 5), none⟩,
  ⟨some 21, .call { callee := .value (.func 106), args := #[.tmp 20], argTypes := #[5] }, none⟩,
  ⟨some 22, .buildSlice 72 2 #[(0, .tmp 19), (1, .tmp 21)], none⟩,
  ⟨some 23, .call { callee := .builtin .append, args := #[.tmp 16, .tmp 22], argTypes := #[72, 72] }, none⟩,
  ⟨some 3, .assign (.tmp 23), none⟩]
def f101_r6 : List LOp := [
  ⟨some 24, .binOp .add 3 (.tmp 12) (.const (.int .i64 1)) 3, none⟩,
  ⟨some 12, .move (.tmp 24), none⟩]
def f101_l7 : LC := (.seq (.reg f101_r3 [] none) (.seq (.cond (.tmp 13) .skip (.exit 0)) (.seq (.block 1 (.seq (.reg f101_r4 [] none) (.reg f101_r5 [] none))) (.reg f101_r6 [] none))))
def f101_i7 (t3 t10 t11 t12 : D) : List D := [.any, .any, .any, t3, .any, .any, .any, .any, .any, .any, t10, t11, t12, .any, .any, .any, .any, .any, .any, .any, .any, .any, .any, .any, .any, .any, .any]
def f101_r8 : List LOp := [
  ⟨some 25, .move (.tmp 3), none⟩,
  ⟨some 26, .convert 72 9 (.tmp 25), none⟩,
  ⟨some 2, .assign (.tmp 26), none⟩]
def f101_c : LC := (.seq (.reg f101_r0 [] none) (.seq (.reg f101_r1 [3] none) (.seq (.seq (.reg f101_r2 [] none) (.block 0 (.loop f101_l7))) (.seq (.reg f101_r8 [] none) .ret))))
theorem f101_lc : Tryz.f101.body.map lc = some f101_c.st := by kernel_rfl
theorem f101_res : Tryz.f101.results.toList = [.tmp 2] := by kernel_rfl
theorem f101_nt : Tryz.f101.ntmps = 27 := by kernel_rfl
theorem f101_nm : (Tryz.f101.name == "runtime.NumGoroutine") = false := by kernel_rfl

/-! slices.rotateCmpFunc[quill/api.Re] -/
def f103_r0 : List LOp := [
  ⟨some 12, .move (.tmp 2), none⟩,
  ⟨some 13, .move (.tmp 1), none⟩,
  ⟨some 14, .binOp .sub 3 (.tmp 12) (.tmp 13) 3, none⟩,
  ⟨some 10, .assign (.tmp 14), none⟩]
def f103_r1 : List LOp := [
  ⟨some 15, .move (.tmp 3), none⟩,
  ⟨some 16, .move (.tmp 2), none⟩,
  ⟨some 17, .binOp .sub 3 (.tmp 15) (.tmp 16) 3, none⟩,
  ⟨some 11, .assign (.tmp 17), none⟩]
def f103_r2 : List LOp := [
  ⟨some 18, .move (.tmp 10), none⟩,
  ⟨some 19, .move (.tmp 11), none⟩,
  ⟨some 20, .binOp .neq 3 (.tmp 18) (.tmp 19) 3, none⟩]
def f103_r3 : List LOp := [
  ⟨some 21, .move (.tmp 10), none⟩,
  ⟨some 22, .move (.tmp 11), none⟩,
  ⟨some 23, .binOp .gtr 3 (.tmp 21) (.tmp 22) 3, none⟩]
def f103_r4 : List LOp := [
  ⟨some 24, .move (.tmp 0), none⟩,
  ⟨some 25, .move (.tmp 2), none⟩,
  ⟨some 26, .move (.tmp 10), none⟩,
  ⟨some 27, .binOp .sub 3 (.tmp 25) (.tmp 26) 3, none⟩,
  ⟨some 28, .move (.tmp 2), none⟩,
  ⟨some 29, .move (.tmp 11), none⟩,
  ⟨some 30, .move (.tmp 4), none⟩,
  ⟨some 31, .call { callee := .value (.func 107), args := #[.tmp 24, .tmp 27, .tmp 28, .tmp 29, .tmp 30], argTypes := #[22, 3, 3, 3, 77] }, none⟩]
def f103_r5 : List LOp := [
  ⟨some 32, .move (.tmp 10), none⟩,
  ⟨some 33, .move (.tmp 11), none⟩,
  ⟨some 34, .binOp .sub 3 (.tmp 32) (.tmp 33) 3, none⟩,
  ⟨some 10, .assign (.tmp 34), none⟩]
def f103_r6 : List LOp := [
  ⟨some 35, .move (.tmp 0), none⟩,
  ⟨some 36, .move (.tmp 2), none⟩,
  ⟨some 37, .move (.tmp 10), none⟩,
  ⟨some 38, .binOp .sub 3 (.tmp 36) (.tmp 37) 3, none⟩,
  ⟨some 39, .move (.tmp 2), none⟩,
  ⟨some 40, .move (.tmp 11), none⟩,
  ⟨some 41, .binOp .add 3 (.tmp 39) (.tmp 40) 3, none⟩,
  ⟨some 42, .move (.tmp 10), none⟩,
  ⟨some 43, .binOp .sub 3 (.tmp 41) (.tmp 42) 3, none⟩,
  ⟨some 44, .move (.tmp 10), none⟩,
  ⟨some 45, .move (.tmp 4), none⟩,
  ⟨some 46, .call { callee := .value (.func 107), args := #[.tmp 35, .tmp 38, .tmp 43, .tmp 44, .tmp 45], argTypes := #[22, 3, 3, 3, 77] }, none⟩]
def f103_r7 : List LOp := [
  ⟨some 47, .move (.tmp 11), none⟩,
  ⟨some 48, .move (.tmp 10), none⟩,
  ⟨some 49, .binOp .sub 3 (.tmp 47) (.tmp 48) 3, none⟩,
  ⟨some 11, .assign (.tmp 49), none⟩]
def f103_l8 : LC := (.seq (.seq (.reg f103_r2 [] none) (.cond (.tmp 20) .skip (.exit 0))) (.block 1 (.seq (.reg f103_r3 [] none) (.cond (.tmp 23) (.seq (.reg f103_r4 [] none) (.reg f103_r5 [] none)) (.seq (.reg f103_r6 [] none) (.reg f103_r7 [] none))))))
def f103_i8 (t0 t2 t4 t10 t11 : D) : List D := [t0, .any, t2, .any, t4, .any, .any, .any, .any, .any, t10, t11, .any, .any, .any, .any, .any, .any, .any, .any, .any, .any, .any, .any, .any, .any, .any, .any, .any, .any, .any, .any, .any, .any, .any, .any, .any, .any, .any, .any, .any, .any, .any, .any, .any, .any, .any, .any, .any, .any, .any, .any, .any, .any, .any, .any, .any, .any]
def f103_r9 : List LOp := [
  ⟨some 50, .move (.tmp 0), none⟩,
  ⟨some 51, .move (.tmp 2), none⟩,
  ⟨some 52, .move (.tmp 10), none⟩,
  ⟨some 53, .binOp .sub 3 (.tmp 51) (.tmp 52) 3, none⟩,
  ⟨some 54, .move (.tmp 2), none⟩,
  ⟨some 55, .move (.tmp 10), none⟩,
  ⟨some 56, .move (.tmp 4), none⟩,
  ⟨some 57, .call { callee := .value (.func 107), args := #[.tmp 50, .tmp 53, .tmp 54, .tmp 55, .tmp 56], argTypes := #[22, 3, 3, 3, 77] }, none⟩]
def f103_c : LC := (.seq (.reg f103_r0 [] none) (.seq (.reg f103_r1 [] none) (.seq (.block 0 (.loop f103_l8)) (.reg f103_r9 [] none))))
theorem f103_lc : Tryz.f103.body.map lc = some f103_c.st := by kernel_rfl
theorem f103_res : Tryz.f103.results.toList = [] := by kernel_rfl
theorem f103_nt : Tryz.f103.ntmps = 58 := by kernel_rfl
theorem f103_nm : (Tryz.f103.name == "runtime.NumGoroutine") = false := by kernel_rfl

/-! (*quill/read.reader).digit -/
def f104_r0 : List LOp := [
  ⟨some 2, .move (.tmp 0), none⟩,
  ⟨some 3, .call { callee := .value (.func 72), args := #[.tmp 2, .const (.string { data := #[48, 49, 50, 51, 52, 53, 54, 55, 56, 57, 97, 98, 99, 100, 101, 102] })], argTypes := #[53, 9] }, none⟩,
  ⟨some 4, .unOp .not 4 (.tmp 3), none⟩]
def f104_r1 : List LOp := [
  ⟨some 5, .move (.tmp 0), none⟩,
  ⟨some 6, .nilCheck (.tmp 5), none⟩,
  ⟨some 7, .fieldAddr 55 (.tmp 6) 1, none⟩,
  ⟨some 8, .load 3 (.tmp 7), none⟩,
  ⟨some 9, .build 69 #[(0, .tmp 8)], none⟩,
  ⟨some 10, .makeInterface 69 (.tmp 9), none⟩,
  ⟨none, .panic (.tmp 10), none⟩]
def f104_r2 : List LOp := [
  ⟨some 11, .move (.tmp 0), none⟩,
  ⟨some 12, .nilCheck (.tmp 11), none⟩,
  ⟨some 13, .fieldAddr 55 (.tmp 12) 1, none⟩,
  ⟨some 14, .load 3 (.tmp 13), none⟩,
  ⟨some 15, .binOp .add 3 (.tmp 14) (.const (.int .i64 1)) 3, none⟩,
  ⟨some 16, .nilCheck (.tmp 11), none⟩,
  ⟨some 17, .fieldAddr 55 (.tmp 16) 1, none⟩,
  ⟨none, .store 3 (.tmp 17) (.tmp 15), none⟩]
def f104_c : LC := (.seq (.seq (.reg f104_r0 [] none) (.cond (.tmp 4) (.reg f104_r1 [] none) .skip)) (.reg f104_r2 [] none))
theorem f104_lc : Tryz.f104.body.map lc = some f104_c.st := by kernel_rfl
theorem f104_res : Tryz.f104.results.toList = [] := by kernel_rfl
theorem f104_nt : Tryz.f104.ntmps = 18 := by kernel_rfl
theorem f104_nm : (Tryz.f104.name == "runtime.NumGoroutine") = false := by kernel_rfl

/-! quill/num.ReadHex -/
def f105_r0 : List LOp := [
  ⟨some 2, .assign (.const (.slice none 0 0)), none⟩,
  ⟨some 3, .assign (.const (.int .i64 0)), none⟩]
def f105_r1 : List LOp := [
  ⟨some 4, .assign (.const (.slice none 0 0)), none⟩]
def f105_r2 : List LOp := [
  ⟨some 5, .assign (.const (.int .i64 0)), none⟩]
def f105_r3 : List LOp := [
  ⟨some 8, .move (.tmp 5), none⟩,
  ⟨some 9, .binOp .add 3 (.tmp 8) (.const (.int .i64 1)) 3, none⟩,
  ⟨some 10, .move (.tmp 0), none⟩,
  ⟨some 11, .call { callee := .builtin .len, args := #[.tmp 10], argTypes := #[9] }, none⟩,
  ⟨some 12, .binOp .lss 3 (.tmp 9) (.tmp 11) 3, none⟩]
def f105_r4 : List LOp := [
  ⟨some 15, .move (.tmp 0), none⟩,
  ⟨some 16, .move (.tmp 5), none⟩,
  ⟨some 17, .index 9 (.tmp 15) (.tmp 16), none⟩,
  ⟨some 18, .call { callee := .value (.func 85), args := #[.const (.string { data := #[48, 49, 50, 51, 52, 53, 54, 55, 56, 57, 97, 98, 99, 100, 101, 102] }), .tmp 17], argTypes := #[9, 5] }, none⟩,
  ⟨some 6, .assign (.tmp 18), none⟩]
def f105_r5 : List LOp := [
  ⟨some 19, .move (.tmp 0), none⟩,
  ⟨some 20, .move (.tmp 5), none⟩,
  ⟨some 21, .binOp .add 3 (.tmp 20) (.const (.int .i64 1)) 3, none⟩,
  ⟨some 22, .index 9 (.tmp 19) (.tmp 21), none⟩,
  ⟨some 23, .call { callee := .value (.func 85), args := #[.const (.string { data := #[48, 49, 50, 51, 52, 53, 54, 55, 56, 57, 97, 98, 99, 100, 101, 102] }), .tmp 22], argTypes := #[9, 5] }, none⟩,
  ⟨some 7, .assign (.tmp 23), none⟩]
def f105_r6 : List LOp := [
  ⟨some 24, .move (.tmp 6), none⟩,
  ⟨some 25, .binOp .lss 3 (.tmp 24) (.const (.int .i64 0)) 3, none⟩,
  ⟨some 26, .move (.tmp 25), none⟩,
  ⟨some 27, .move (.tmp 7), some (2, false)⟩,
  ⟨some 28, .binOp .lss 3 (.tmp 27) (.const (.int .i64 0)) 3, some (2, false)⟩,
  ⟨some 29, .pick (.tmp 26) (.const (.bool true)) (.tmp 28), none⟩]
def f105_r7 : List LOp := [
  ⟨some 2, .assign (.const (.slice none 0 0)), none⟩,
  ⟨some 3, .assign (.const (.int .i64 2)), none⟩]
def f105_r8 : List LOp := [
  ⟨some 30, .move (.tmp 4), none⟩,
  ⟨some 31, .move (.tmp 6), none⟩,
  ⟨some 32, .binOp .shl 3 (.tmp 31) (.const (.int .u64 4)) 105, none⟩,
  ⟨some 33, .move (.tmp 7), none⟩,
  ⟨some 34, .binOp .or 3 (.tmp 32) (.tmp 33) 3, none⟩,
  ⟨some 35, .convert 3 5 (.tmp 34), none⟩,
  ⟨some 36, .buildSlice 72 1 #[(0, .tmp 35)], none⟩,
  ⟨some 37, .call { callee := .builtin .append, args := #[.tmp 30, .tmp 36], argTypes := #[72, 72] }, none⟩,
  ⟨some 4, .assign (.tmp 37), none⟩]
def f105_r9 : List LOp := [
  ⟨some 13, .move (.tmp 5), none⟩,
  ⟨some 14, .binOp .add 3 (.tmp 13) (.const (.int .i64 2)) 3, none⟩,
  ⟨some 5, .assign (.tmp 14), none⟩]
def f105_l10 : LC := (.seq (.seq (.reg f105_r3 [] none) (.cond (.tmp 12) .skip (.exit 0))) (.seq (.block 1 (.seq (.reg f105_r4 [] none) (.seq (.reg f105_r5 [] none) (.seq (.seq (.reg f105_r6 [] none) (.cond (.tmp 29) (.seq (.reg f105_r7 [] none) .ret) .skip)) (.reg f105_r8 [] none))))) (.reg f105_r9 [] none)))
def f105_i10 (t0 t4 t5 : D) : List D := [t0, .any, .any, .any, t4, t5, .any, .any, .any, .any, .any, .any, .any, .any, .any, .any, .any, .any, .any, .any, .any, .any, .any, .any, .any, .any, .any, .any, .any, .any, .any, .any, .any, .any, .any, .any, .any, .any, .any, .any, .any, .any, .any]
def f105_r11 : List LOp := [
  ⟨some 38, .move (.tmp 0), none⟩,
  ⟨some 39, .call { callee := .builtin .len, args := #[.tmp 38], argTypes := #[9] }, none⟩,
  ⟨some 40, .binOp .rem 3 (.tmp 39) (.const (.int .i64 2)) 3, none⟩,
  ⟨some 41, .binOp .eql 3 (.tmp 40) (.const (.int .i64 1)) 3, none⟩]
def f105_r12 : List LOp := [
  ⟨some 2, .assign (.const (.slice none 0 0)), none⟩,
  ⟨some 3, .assign (.const (.int .i64 2)), none⟩]
def f105_r13 : List LOp := [
  ⟨some 42, .move (.tmp 4), none⟩,
  ⟨some 2, .assign (.tmp 42), none⟩,
  ⟨some 3, .assign (.const (.int .i64 0)), none⟩]
def f105_c : LC := (.seq (.reg f105_r0 [] none) (.seq (.reg f105_r1 [] none) (.seq (.seq (.reg f105_r2 [] none) (.block 0 (.loop f105_l10))) (.seq (.seq (.reg f105_r11 [] none) (.cond (.tmp 41) (.seq (.reg f105_r12 [] none) .ret) .skip)) (.seq (.reg f105_r13 [] none) .ret)))))
theorem f105_lc : Tryz.f105.body.map lc = some f105_c.st := by kernel_rfl
theorem f105_res : Tryz.f105.results.toList = [.tmp 2, .tmp 3] := by kernel_rfl
theorem f105_nt : Tryz.f105.ntmps = 43 := by kernel_rfl
theorem f105_nm : (Tryz.f105.name == "runtime.NumGoroutine") = false := by kernel_rfl

/-! quill/num.digit -/
def f106_r0 : List LOp := [
  ⟨some 2, .assign (.const (.int .u8 0)), none⟩]
def f106_r1 : List LOp := [
  ⟨some 3, .move (.tmp 0), none⟩,
  ⟨some 4, .binOp .and 5 (.tmp 3) (.const (.int .u8 15)) 5, none⟩,
  ⟨some 5, .index 9 (.const (.string { data := #[48, 49, 50, 51, 52, 53, 54, 55, 56, 57, 97, 98, 99, 100, 101, 102] })) (.tmp 4), none⟩,
  ⟨some 2, .assign (.tmp 5), none⟩]
def f106_c : LC := (.seq (.reg f106_r0 [] none) (.seq (.reg f106_r1 [] none) .ret))
theorem f106_lc : Tryz.f106.body.map lc = some f106_c.st := by kernel_rfl
theorem f106_res : Tryz.f106.results.toList = [.tmp 2] := by kernel_rfl
theorem f106_nt : Tryz.f106.ntmps = 6 := by kernel_rfl
theorem f106_nm : (Tryz.f106.name == "runtime.NumGoroutine") = false := by kernel_rfl

/-! slices.swapRangeCmpFunc[quill/api.Re] -/
def f107_r0 : List LOp := [
  ⟨some 10, .assign (.const (.int .i64 0)), none⟩]
def f107_r1 : List LOp := [
  ⟨some 11, .move (.tmp 10), none⟩,
  ⟨some 12, .move (.tmp 3), none⟩,
  ⟨some 13, .binOp .lss 3 (.tmp 11) (.tmp 12) 3, none⟩]
def f107_r2 : List LOp := [
  ⟨some 16, .move (.tmp 0), none⟩,
  ⟨some 17, .move (.tmp 1), none⟩,
  ⟨some 18, .move (.tmp 10), none⟩,
  ⟨some 19, .binOp .add 3 (.tmp 17) (.tmp 18) 3, none⟩,
  ⟨some 20, .move (.tmp 0), none⟩,
  ⟨some 21, .move (.tmp 2), none⟩,
  ⟨some 22, .move (.tmp 10), none⟩,
  ⟨some 23, .binOp .add 3 (.tmp 21) (.tmp 22) 3, none⟩,
  ⟨some 24, .move (.tmp 0), none⟩,
  ⟨some 25, .move (.tmp 2), none⟩,
  ⟨some 26, .move (.tmp 10), none⟩,
  ⟨some 27, .binOp .add 3 (.tmp 25) (.tmp 26) 3, none⟩,
  ⟨some 28, .indexAddr 22 (.tmp 24) (.tmp 27), none⟩,
  ⟨some 29, .load 27 (.tmp 28), none⟩,
  ⟨some 30, .move (.tmp 0), none⟩,
  ⟨some 31, .move (.tmp 1), none⟩,
  ⟨some 32, .move (.tmp 10), none⟩,
  ⟨some 33, .binOp .add 3 (.tmp 31) (.tmp 32) 3, none⟩,
  ⟨some 34, .indexAddr 22 (.tmp 30) (.tmp 33), none⟩,
  ⟨some 35, .load 27 (.tmp 34), none⟩,
  ⟨some 36, .indexAddr 22 (.tmp 16) (.tmp 19), none⟩,
  ⟨none, .store 27 (.tmp 36) (.tmp 29), none⟩,
  ⟨some 37, .indexAddr 22 (.tmp 20) (.tmp 23), none⟩,
  ⟨none, .store 27 (.tmp 37) (.tmp 35), none⟩]
def f107_r3 : List LOp := [
  ⟨some 14, .move (.tmp 10), none⟩,
  ⟨some 15, .binOp .add 3 (.tmp 14) (.const (.int .i64 1)) 3, none⟩,
  ⟨some 10, .assign (.tmp 15), none⟩]
def f107_l4 : LC := (.seq (.seq (.reg f107_r1 [] none) (.cond (.tmp 13) .skip (.exit 0))) (.seq (.block 1 (.regp f107_r2 [] [0, 1, 2, 3, 4, 5, 6, 7, 8, 9, 10, 11, 14, 15, 16, 17] 20)) (.reg f107_r3 [] none)))
def f107_i4 (t0 t1 t2 t3 t10 : D) : List D := [t0, t1, t2, t3, .any, .any, .any, .any, .any, .any, t10, .any, .any, .any, .any, .any, .any, .any, .any, .any, .any, .any, .any, .any, .any, .any, .any, .any, .any, .any, .any, .any, .any, .any, .any, .any, .any, .any]
def f107_c : LC := (.seq (.reg f107_r0 [] none) (.block 0 (.loop f107_l4)))
theorem f107_lc : Tryz.f107.body.map lc = some f107_c.st := by kernel_rfl
theorem f107_res : Tryz.f107.results.toList = [] := by kernel_rfl
theorem f107_nt : Tryz.f107.ntmps = 38 := by kernel_rfl
theorem f107_nm : (Tryz.f107.name == "runtime.NumGoroutine") = false := by kernel_rfl

attribute [go_sem] f2_r0 f2_c f3_r0 f3_r1 f3_r2 f3_r3 f3_r4 f3_r5 f3_r6 f3_c f4_r0 f4_r1 f4_r2 f4_r3 f4_r4 f4_r5 f4_r6 f4_r7 f4_r8 f4_l9 f4_i9 f4_r10 f4_c f5_r0 f5_r1 f5_c f6_r0 f6_r1 f6_r2 f6_c f7_r0 f7_r1 f7_r2 f7_r3 f7_r4 f7_r5 f7_r6 f7_r7 f7_r8 f7_r9 f7_r10 f7_l11 f7_i11 f7_r12 f7_c f8_r0 f8_r1 f8_r2 f8_r3 f8_r4 f8_r5 f8_c f9_r0 f9_r1 f9_r2 f9_r3 f9_r4 f9_r5 f9_r6 f9_r7 f9_c f10_r0 f10_r1 f10_r2 f10_r3 f10_r4 f10_r5 f10_r6 f10_r7 f10_r8 f10_l9 f10_i9 f10_r10 f10_c f11_r0 f11_r1 f11_r2 f11_r3 f11_r4 f11_r5 f11_r6 f11_r7 f11_a8 f11_b8 f11_r9 f11_c f12_r0 f12_r1 f12_r2 f12_r3 f12_r4 f12_r5 f12_r6 f12_r7 f12_r8 f12_l9 f12_i9 f12_r10 f12_r11 f12_r12 f12_r13 f12_r14 f12_r15 f12_r16 f12_l17 f12_i17 f12_r18 f12_c f13_r0 f13_r1 f13_r2 f13_r3 f13_r4 f13_c f14_r0 f14_r1 f14_r2 f14_r3 f14_r4 f14_c f15_r0 f15_r1 f15_r2 f15_r3 f15_r4 f15_r5 f15_r6 f15_r7 f15_r8 f15_l9 f15_i9 f15_r10 f15_c f16_r0 f16_r1 f16_r2 f16_r3 f16_r4 f16_r5 f16_r6 f16_c f17_r0 f17_r1 f17_r2 f17_r3 f17_c f18_r0 f18_r1 f18_r2 f18_r3 f18_r4 f18_r5 f18_r6 f18_l7 f18_i7 f18_r8 f18_c f19_r0 f19_r1 f19_c f20_r0 f20_r1 f20_r2 f20_r3 f20_r4 f20_r5 f20_r6 f20_l7 f20_i7 f20_r8 f20_c f21_r0 f21_r1 f21_c f22_r0 f22_r1 f22_c f23_r0 f23_r1 f23_r2 f23_r3 f23_r4 f23_r5 f23_r6 f23_r7 f23_r8 f23_r9 f23_c f24_r0 f24_r1 f24_r2 f24_r3 f24_r4 f24_r5 f24_r6 f24_l7 f24_i7 f24_r8 f24_r9 f24_r10 f24_r11 f24_r12 f24_r13 f24_r14 f24_r15 f24_r16 f24_l17 f24_i17 f24_r18 f24_r19 f24_r20 f24_c f25_r0 f25_r1 f25_r2 f25_r3 f25_r4 f25_r5 f25_r6 f25_r7 f25_r8 f25_l9 f25_i9 f25_r10 f25_c f26_r0 f26_r1 f26_c f27_r0 f27_r1 f27_c f28_r0 f28_r1 f28_r2 f28_r3 f28_r4 f28_r5 f28_r6 f28_r7 f28_r8 f28_r9 f28_c f29_r0 f29_r1 f29_r2 f29_r3 f29_r4 f29_r5 f29_c f30_r0 f30_r1 f30_r2 f30_r3 f30_r4 f30_r5 f30_r6 f30_r7 f30_c f31_r0 f31_r1 f31_r2 f31_r3 f31_r4 f31_r5 f31_c f32_r0 f32_r1 f32_c f33_r0 f33_r1 f33_r2 f33_r3 f33_r4 f33_r5 f33_r6 f33_r7 f33_r8 f33_c f34_r0 f34_r1 f34_r2 f34_r3 f34_c f35_r0 f35_r1 f35_r2 f35_r3 f35_r4 f35_r5 f35_r6 f35_l7 f35_i7 f35_r8 f35_c f36_r0 f36_r1 f36_c f37_r0 f37_r1 f37_c f38_r0 f38_r1 f38_c f39_r0 f39_r1 f39_c f40_r0 f40_r1 f40_r2 f40_r3 f40_r4 f40_r5 f40_c f41_r0 f41_r1 f41_r2 f41_r3 f41_r4 f41_r5 f41_r6 f41_l7 f41_i7 f41_r8 f41_c f42_r0 f42_r1 f42_r2 f42_r3 f42_c f43_r0 f43_r1 f43_r2 f43_r3 f43_r4 f43_r5 f43_r6 f43_r7 f43_c f44_r0 f44_r1 f44_r2 f44_r3 f44_r4 f44_r5 f44_r6 f44_r7 f44_l8 f44_i8 f44_r9 f44_c f45_r0 f45_r1 f45_r2 f45_r3 f45_r4 f45_r5 f45_r6 f45_r7 f45_r8 f45_r9 f45_r10 f45_r11 f45_r12 f45_r13 f45_r14 f45_l15 f45_i15 f45_r16 f45_r17 f45_r18 f45_r19 f45_l20 f45_i20 f45_r21 f45_c f46_r0 f46_r1 f46_r2 f46_r3 f46_r4 f46_r5 f46_r6 f46_a7 f46_b7 f46_r8 f46_c f47_r0 f47_r1 f47_r2 f47_r3 f47_l4 f47_i4 f47_c f48_r0 f48_r1 f48_c f49_r0 f49_r1 f49_r2 f49_r3 f49_r4 f49_r5 f49_r6 f49_r7 f49_r8 f49_r9 f49_r10 f49_l11 f49_i11 f49_r12 f49_r13 f49_c f50_r0 f50_r1 f50_r2 f50_r3 f50_r4 f50_r5 f50_r6 f50_r7 f50_r8 f50_r9 f50_r10 f50_l11 f50_i11 f50_r12 f50_c f51_r0 f51_r1 f51_r2 f51_r3 f51_c f52_r0 f52_r1 f52_r2 f52_r3 f52_r4 f52_r5 f52_r6 f52_r7 f52_r8 f52_r9 f52_l10 f52_i10 f52_r11 f52_l12 f52_i12 f52_r13 f52_c f53_r0 f53_r1 f53_r2 f53_r3 f53_r4 f53_r5 f53_r6 f53_r7 f53_l8 f53_i8 f53_r9 f53_c f54_r0 f54_r1 f54_c f55_r0 f55_r1 f55_c f56_r0 f56_r1 f56_r2 f56_r3 f56_r4 f56_r5 f56_r6 f56_r7 f56_c f57_r0 f57_r1 f57_r2 f57_r3 f57_r4 f57_l5 f57_i5 f57_r6 f57_c f58_r0 f58_r1 f58_c f59_r0 f59_r1 f59_c f60_r0 f60_r1 f60_r2 f60_r3 f60_r4 f60_r5 f60_r6 f60_l7 f60_i7 f60_r8 f60_c f61_r0 f61_r1 f61_r2 f61_r3 f61_r4 f61_r5 f61_r6 f61_l7 f61_i7 f61_r8 f61_c f62_r0 f62_r1 f62_r2 f62_r3 f62_r4 f62_r5 f62_r6 f62_r7 f62_r8 f62_r9 f62_l10 f62_i10 f62_r11 f62_c f63_r0 f63_r1 f63_r2 f63_r3 f63_r4 f63_r5 f63_l6 f63_i6 f63_r7 f63_c f64_r0 f64_r1 f64_r2 f64_r3 f64_r4 f64_r5 f64_r6 f64_r7 f64_l8 f64_i8 f64_r9 f64_r10 f64_c f65_r0 f65_r1 f65_r2 f65_r3 f65_r4 f65_r5 f65_r6 f65_l7 f65_i7 f65_r8 f65_c f66_r0 f66_r1 f66_r2 f66_r3 f66_r4 f66_r5 f66_r6 f66_r7 f66_r8 f66_r9 f66_r10 f66_r11 f66_r12 f66_r13 f66_r14 f66_r15 f66_r16 f66_l17 f66_i17 f66_r18 f66_r19 f66_r20 f66_c f67_r0 f67_r1 f67_c f68_r0 f68_r1 f68_c f69_r0 f69_r1 f69_r2 f69_r3 f69_c f70_r0 f70_r1 f70_c f71_r0 f71_r1 f71_r2 f71_r3 f71_l4 f71_i4 f71_r5 f71_c f72_r0 f72_r1 f72_c f73_r0 f73_r1 f73_r2 f73_r3 f73_r4 f73_r5 f73_r6 f73_r7 f73_r8 f73_r9 f73_r10 f73_r11 f73_r12 f73_r13 f73_c f74_r0 f74_r1 f74_c f75_r0 f75_r1 f75_r2 f75_r3 f75_r4 f75_r5 f75_r6 f75_r7 f75_l8 f75_i8 f75_r9 f75_c f76_r0 f76_r1 f76_r2 f76_r3 f76_r4 f76_r5 f76_r6 f76_r7 f76_l8 f76_i8 f76_r9 f76_c f77_r0 f77_r1 f77_r2 f77_r3 f77_r4 f77_r5 f77_r6 f77_r7 f77_r8 f77_r9 f77_r10 f77_r11 f77_r12 f77_r13 f77_c f78_r0 f78_r1 f78_c f79_r0 f79_r1 f79_r2 f79_r3 f79_r4 f79_r5 f79_r6 f79_r7 f79_r8 f79_r9 f79_r10 f79_l11 f79_i11 f79_r12 f79_r13 f79_r14 f79_c f80_r0 f80_r1 f80_c f81_r0 f81_c f82_r0 f82_r1 f82_r2 f82_r3 f82_r4 f82_l5 f82_i5 f82_c f83_r0 f83_r1 f83_r2 f83_r3 f83_r4 f83_l5 f83_i5 f83_r6 f83_c f84_r0 f84_r1 f84_c f85_r0 f85_r1 f85_c f86_r0 f86_r1 f86_c f87_r0 f87_r1 f87_r2 f87_r3 f87_r4 f87_r5 f87_r6 f87_r7 f87_r8 f87_r9 f87_r10 f87_l11 f87_i11 f87_r12 f87_r13 f87_r14 f87_c f88_r0 f88_r1 f88_r2 f88_r3 f88_r4 f88_r5 f88_r6 f88_r7 f88_r8 f88_r9 f88_r10 f88_r11 f88_r12 f88_r13 f88_c f89_r0 f89_r1 f89_r2 f89_r3 f89_a4 f89_b4 f89_r5 f89_c f90_r0 f90_r1 f90_r2 f90_r3 f90_r4 f90_r5 f90_l6 f90_i6 f90_r7 f90_r8 f90_r9 f90_r10 f90_r11 f90_r12 f90_r13 f90_l14 f90_i14 f90_r15 f90_r16 f90_r17 f90_r18 f90_l19 f90_i19 f90_c f91_r0 f91_r1 f91_r2 f91_r3 f91_r4 f91_r5 f91_r6 f91_r7 f91_r8 f91_r9 f91_r10 f91_r11 f91_r12 f91_r13 f91_r14 f91_r15 f91_c f92_r0 f92_r1 f92_r2 f92_r3 f92_c f93_r0 f93_r1 f93_c f94_r0 f94_r1 f94_c f95_r0 f95_r1 f95_r2 f95_r3 f95_r4 f95_r5 f95_l6 f95_i6 f95_r7 f95_l8 f95_i8 f95_c f96_r0 f96_r1 f96_r2 f96_r3 f96_r4 f96_r5 f96_r6 f96_r7 f96_l8 f96_i8 f96_r9 f96_r10 f96_r11 f96_r12 f96_l13 f96_i13 f96_r14 f96_r15 f96_r16 f96_r17 f96_r18 f96_r19 f96_r20 f96_r21 f96_l22 f96_i22 f96_r23 f96_r24 f96_r25 f96_r26 f96_l27 f96_i27 f96_r28 f96_r29 f96_r30 f96_r31 f96_r32 f96_r33 f96_r34 f96_r35 f96_r36 f96_r37 f96_r38 f96_r39 f96_r40 f96_r41 f96_l42 f96_i42 f96_r43 f96_r44 f96_r45 f96_r46 f96_r47 f96_r48 f96_r49 f96_c f97_r0 f97_r1 f97_r2 f97_r3 f97_r4 f97_r5 f97_l6 f97_i6 f97_r7 f97_c f98_r0 f98_r1 f98_r2 f98_r3 f98_r4 f98_r5 f98_r6 f98_r7 f98_r8 f98_r9 f98_r10 f98_r11 f98_l12 f98_i12 f98_r13 f98_r14 f98_c f99_r0 f99_r1 f99_r2 f99_c f100_r0 f100_r1 f100_r2 f100_r3 f100_r4 f100_r5 f100_r6 f100_r7 f100_r8 f100_r9 f100_r10 f100_r11 f100_c f101_r0 f101_r1 f101_r2 f101_r3 f101_r4 f101_r5 f101_r6 f101_l7 f101_i7 f101_r8 f101_c f103_r0 f103_r1 f103_r2 f103_r3 f103_r4 f103_r5 f103_r6 f103_r7 f103_l8 f103_i8 f103_r9 f103_c f104_r0 f104_r1 f104_r2 f104_c f105_r0 f105_r1 f105_r2 f105_r3 f105_r4 f105_r5 f105_r6 f105_r7 f105_r8 f105_r9 f105_l10 f105_i10 f105_r11 f105_r12 f105_r13 f105_c f106_r0 f106_r1 f106_c f107_r0 f107_r1 f107_r2 f107_r3 f107_l4 f107_i4 f107_c T3 T4 T5 T9 T20 T22 T23 T25 T27 T31 T33 T38 T44 T53 T55 T69 T72 T77 T78 T81 T93 T94 T105 ti3 ti4 ti5 ti9 ti20 ti22 ti23 ti25 ti27 ti31 ti33 ti38 ti44 ti53 ti55 ti69 ti72 ti77 ti78 ti81 ti93 ti94 ti105

end Go.Proofs.YtfpfcokhnddddaaGreat.W
