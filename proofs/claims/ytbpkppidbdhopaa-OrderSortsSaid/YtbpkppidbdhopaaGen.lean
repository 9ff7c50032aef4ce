/- Part of a program logic over data: rules of the walk, each proved. -/
import Derived.Test.YtbpkppidbdhopaaChecked
import Derived.Test.YtbpkppidbdhopaaAwpT
import Derived.KernelRfl
set_option linter.unusedSectionVars false
set_option linter.unusedVariables false
set_option linter.unusedSimpArgs false
set_option maxRecDepth 100000
namespace Go.Proofs.Ytbpkppidbdhopaa.W
open Go Go.Proofs Go.Proofs.Ytbpkppidbdhopaa.AWP

/-! ### types -/
def ti3 : TI := ⟨.int .i64, 1, 8, [.int .i64 0]⟩
def ti4 : TI := ⟨.bool, 1, 1, [.bool false]⟩
def ti5 : TI := ⟨.int .u8, 1, 1, [.int .u8 0]⟩
def ti22 : TI := ⟨.int .u64, 1, 8, [.int .u64 0]⟩
def ti24 : TI := ⟨.arr 4 22, 4, 32, [.int .u64 0, .int .u64 0, .int .u64 0, .int .u64 0]⟩
def ti25 : TI := ⟨.slice 27, 1, 24, [.slice none 0 0]⟩
def ti27 : TI := ⟨.struct [(0, 5), (1, 24), (5, 25)], 6, 64, [.int .u8 0, .int .u64 0, .int .u64 0, .int .u64 0, .int .u64 0, .slice none 0 0]⟩
def ti30 : TI := ⟨.other, 1, 8, [.nilFunc]⟩
def ti49 : TI := ⟨.other, 1, 8, [.nilFunc]⟩
def ti52 : TI := ⟨.other, 1, 8, [.nilFunc]⟩
def ti54 : TI := ⟨.slice 3, 1, 24, [.slice none 0 0]⟩
def ti57 : TI := ⟨.slice 22, 1, 24, [.slice none 0 0]⟩
def ti58 : TI := ⟨.other, 1, 8, [.nilFunc]⟩
def ti67 : TI := ⟨.int .u64, 1, 8, [.int .u64 0]⟩
def tab : List (Nat × TI) := [(3, ti3), (4, ti4), (5, ti5), (22, ti22), (24, ti24), (25, ti25), (27, ti27), (30, ti30), (49, ti49), (52, ti52), (54, ti54), (57, ti57), (58, ti58), (67, ti67)]
def T : Tab := fun t => (tab.find? fun p => p.1 == t).map (·.2)
theorem T3 : T 3 = some ti3 := rfl
theorem T4 : T 4 = some ti4 := rfl
theorem T5 : T 5 = some ti5 := rfl
theorem T22 : T 22 = some ti22 := rfl
theorem T24 : T 24 = some ti24 := rfl
theorem T25 : T 25 = some ti25 := rfl
theorem T27 : T 27 = some ti27 := rfl
theorem T30 : T 30 = some ti30 := rfl
theorem T49 : T 49 = some ti49 := rfl
theorem T52 : T 52 = some ti52 := rfl
theorem T54 : T 54 = some ti54 := rfl
theorem T57 : T 57 = some ti57 := rfl
theorem T58 : T 58 = some ti58 := rfl
theorem T67 : T 67 = some ti67 := rfl
theorem tab_ok : tabB Try.prog tab = true := by kernel_rfl
theorem hT : TabOk Try.prog T := by
  intro t i h
  unfold T at h
  simp only [Option.map_eq_some_iff] at h
  obtain ⟨p, hp, rfl⟩ := h
  have h1 := List.find?_some hp
  have h2 := List.mem_of_find?_eq_some hp
  simp only [beq_iff_eq] at h1
  obtain ⟨t', i'⟩ := p
  subst h1
  exact tabB_ok tab_ok t' i' h2
theorem hm : Try.prog.follows .mixedOrders = true := by kernel_rfl

/-! gosem.cut.init -/
def f2_r0 : List LOp := [
  ⟨some 0, .call { callee := .value (.func 1), args := #[], argTypes := #[] }, none⟩]
def f2_c : LC := (.reg f2_r0 [] none)
theorem f2_lc : Try.f2.body.map lc = some f2_c.st := by kernel_rfl
theorem f2_res : Try.f2.results.toList = [] := by kernel_rfl
theorem f2_nt : Try.f2.ntmps = 1 := by kernel_rfl
theorem f2_nm : (Try.f2.name == "runtime.NumGoroutine") = false := by kernel_rfl

/-! quill/quilllaw04.OrderTwo -/
def f3_r0 : List LOp := [
  ⟨some 2, .box 27 (.tmp 0), none⟩,
  ⟨some 3, .box 27 (.tmp 1), none⟩,
  ⟨some 4, .assign (.const (.bool false)), none⟩]
def f3_r1 : List LOp := [
  ⟨some 6, .load 27 (.tmp 2), none⟩,
  ⟨some 7, .call { callee := .value (.func 7), args := #[.tmp 6, .const (.int .i64 200)], argTypes := #[27, 3] }, none⟩,
  ⟨some 8, .move (.tmp 7), none⟩,
  ⟨some 9, .load 27 (.tmp 3), some (2, false)⟩,
  ⟨some 10, .call { callee := .value (.func 7), args := #[.tmp 9, .const (.int .i64 200)], argTypes := #[27, 3] }, some (2, false)⟩,
  ⟨some 11, .pick (.tmp 8) (.const (.bool true)) (.tmp 10), none⟩]
def f3_r2 : List LOp := [
  ⟨some 12, .call { callee := .value (.func 8), args := #[], argTypes := #[] }, none⟩,
  ⟨some 4, .assign (.tmp 12), none⟩]
def f3_r3 : List LOp := [
  ⟨some 13, .load 27 (.tmp 2), none⟩,
  ⟨some 14, .load 27 (.tmp 3), none⟩,
  ⟨some 15, .call { callee := .value (.func 9), args := #[.tmp 13, .tmp 14], argTypes := #[27, 27] }, none⟩,
  ⟨some 5, .assign (.tmp 15), none⟩]
def f3_r4 : List LOp := [
  ⟨some 16, .move (.tmp 5), none⟩,
  ⟨some 17, .load 27 (.tmp 2), none⟩,
  ⟨some 18, .load 27 (.tmp 3), none⟩,
  ⟨some 19, .call { callee := .value (.func 10), args := #[.tmp 17, .tmp 18], argTypes := #[27, 27] }, none⟩,
  ⟨some 20, .binOp .eql 3 (.tmp 16) (.tmp 19) 3, none⟩,
  ⟨some 21, .move (.tmp 20), none⟩,
  ⟨some 22, .load 27 (.tmp 3), some (5, true)⟩,
  ⟨some 23, .load 27 (.tmp 2), some (5, true)⟩,
  ⟨some 24, .call { callee := .value (.func 9), args := #[.tmp 22, .tmp 23], argTypes := #[27, 27] }, some (5, true)⟩,
  ⟨some 25, .move (.tmp 5), some (5, true)⟩,
  ⟨some 26, .unOp .neg 3 (.tmp 25), some (5, true)⟩,
  ⟨some 27, .binOp .eql 3 (.tmp 24) (.tmp 26) 3, some (5, true)⟩,
  ⟨some 28, .pick (.tmp 21) (.tmp 27) (.const (.bool false)), none⟩,
  ⟨some 29, .move (.tmp 28), none⟩,
  ⟨some 30, .move (.tmp 5), some (13, true)⟩,
  ⟨some 31, .binOp .eql 3 (.tmp 30) (.const (.int .i64 0)) 3, some (13, true)⟩,
  ⟨some 32, .load 27 (.tmp 2), some (13, true)⟩,
  ⟨some 33, .load 27 (.tmp 3), some (13, true)⟩,
  ⟨some 34, .call { callee := .value (.func 11), args := #[.tmp 32, .tmp 33], argTypes := #[27, 27] }, some (13, true)⟩,
  ⟨some 35, .binOp .eql 4 (.tmp 31) (.tmp 34) 4, some (13, true)⟩,
  ⟨some 36, .pick (.tmp 29) (.tmp 35) (.const (.bool false)), none⟩,
  ⟨some 37, .move (.tmp 36), none⟩,
  ⟨some 38, .call { callee := .value (.func 8), args := #[], argTypes := #[] }, some (21, true)⟩,
  ⟨some 39, .pick (.tmp 37) (.tmp 38) (.const (.bool false)), none⟩,
  ⟨some 4, .assign (.tmp 39), none⟩]
def f3_c : LC := (.seq (.reg f3_r0 [] none) (.seq (.seq (.reg f3_r1 [] none) (.cond (.tmp 11) (.seq (.reg f3_r2 [] none) .ret) .skip)) (.seq (.reg f3_r3 [] none) (.seq (.reg f3_r4 [] none) .ret))))
theorem f3_lc : Try.f3.body.map lc = some f3_c.st := by kernel_rfl
theorem f3_res : Try.f3.results.toList = [.tmp 4] := by kernel_rfl
theorem f3_nt : Try.f3.ntmps = 40 := by kernel_rfl
theorem f3_nm : (Try.f3.name == "runtime.NumGoroutine") = false := by kernel_rfl

/-! quill/quilllaw04.OrderThree -/
def f4_r0 : List LOp := [
  ⟨some 3, .box 27 (.tmp 0), none⟩,
  ⟨some 4, .box 27 (.tmp 1), none⟩,
  ⟨some 5, .box 27 (.tmp 2), none⟩,
  ⟨some 6, .assign (.const (.bool false)), none⟩]
def f4_r1 : List LOp := [
  ⟨some 8, .load 27 (.tmp 3), none⟩,
  ⟨some 9, .call { callee := .value (.func 7), args := #[.tmp 8, .const (.int .i64 200)], argTypes := #[27, 3] }, none⟩,
  ⟨some 10, .move (.tmp 9), none⟩,
  ⟨some 11, .load 27 (.tmp 4), some (2, false)⟩,
  ⟨some 12, .call { callee := .value (.func 7), args := #[.tmp 11, .const (.int .i64 200)], argTypes := #[27, 3] }, some (2, false)⟩,
  ⟨some 13, .pick (.tmp 10) (.const (.bool true)) (.tmp 12), none⟩,
  ⟨some 14, .move (.tmp 13), none⟩,
  ⟨some 15, .load 27 (.tmp 5), some (6, false)⟩,
  ⟨some 16, .call { callee := .value (.func 7), args := #[.tmp 15, .const (.int .i64 200)], argTypes := #[27, 3] }, some (6, false)⟩,
  ⟨some 17, .pick (.tmp 14) (.const (.bool true)) (.tmp 16), none⟩]
def f4_r2 : List LOp := [
  ⟨some 18, .call { callee := .value (.func 8), args := #[], argTypes := #[] }, none⟩,
  ⟨some 6, .assign (.tmp 18), none⟩]
def f4_r3 : List LOp := [
  ⟨some 19, .load 27 (.tmp 3), none⟩,
  ⟨some 20, .load 27 (.tmp 4), none⟩,
  ⟨some 21, .call { callee := .value (.func 9), args := #[.tmp 19, .tmp 20], argTypes := #[27, 27] }, none⟩,
  ⟨some 22, .binOp .leq 3 (.tmp 21) (.const (.int .i64 0)) 3, none⟩,
  ⟨some 23, .move (.tmp 22), none⟩,
  ⟨some 24, .load 27 (.tmp 4), some (4, true)⟩,
  ⟨some 25, .load 27 (.tmp 5), some (4, true)⟩,
  ⟨some 26, .call { callee := .value (.func 9), args := #[.tmp 24, .tmp 25], argTypes := #[27, 27] }, some (4, true)⟩,
  ⟨some 27, .binOp .leq 3 (.tmp 26) (.const (.int .i64 0)) 3, some (4, true)⟩,
  ⟨some 28, .pick (.tmp 23) (.tmp 27) (.const (.bool false)), none⟩,
  ⟨some 7, .assign (.tmp 28), none⟩]
def f4_r4 : List LOp := [
  ⟨some 29, .move (.tmp 7), none⟩,
  ⟨some 30, .unOp .not 4 (.tmp 29), none⟩,
  ⟨some 31, .move (.tmp 30), none⟩,
  ⟨some 32, .load 27 (.tmp 3), some (2, false)⟩,
  ⟨some 33, .load 27 (.tmp 5), some (2, false)⟩,
  ⟨some 34, .call { callee := .value (.func 9), args := #[.tmp 32, .tmp 33], argTypes := #[27, 27] }, some (2, false)⟩,
  ⟨some 35, .binOp .leq 3 (.tmp 34) (.const (.int .i64 0)) 3, some (2, false)⟩,
  ⟨some 36, .pick (.tmp 31) (.const (.bool true)) (.tmp 35), none⟩,
  ⟨some 37, .move (.tmp 36), none⟩,
  ⟨some 38, .call { callee := .value (.func 8), args := #[], argTypes := #[] }, some (8, true)⟩,
  ⟨some 39, .pick (.tmp 37) (.tmp 38) (.const (.bool false)), none⟩,
  ⟨some 6, .assign (.tmp 39), none⟩]
def f4_c : LC := (.seq (.reg f4_r0 [] none) (.seq (.seq (.reg f4_r1 [] none) (.cond (.tmp 17) (.seq (.reg f4_r2 [] none) .ret) .skip)) (.seq (.reg f4_r3 [] none) (.seq (.reg f4_r4 [] none) .ret))))
theorem f4_lc : Try.f4.body.map lc = some f4_c.st := by kernel_rfl
theorem f4_res : Try.f4.results.toList = [.tmp 6] := by kernel_rfl
theorem f4_nt : Try.f4.ntmps = 40 := by kernel_rfl
theorem f4_nm : (Try.f4.name == "runtime.NumGoroutine") = false := by kernel_rfl

/-! quill/quilllaw04.OrderAgain -/
def f5_r0 : List LOp := [
  ⟨some 2, .assign (.const (.bool false)), none⟩]
def f5_r1 : List LOp := [
  ⟨some 5, .move (.tmp 0), none⟩,
  ⟨some 6, .call { callee := .value (.func 12), args := #[.tmp 5, .const (.int .i64 200)], argTypes := #[25, 3] }, none⟩]
def f5_r2 : List LOp := [
  ⟨some 7, .call { callee := .value (.func 8), args := #[], argTypes := #[] }, none⟩,
  ⟨some 2, .assign (.tmp 7), none⟩]
def f5_r3 : List LOp := [
  ⟨some 8, .move (.tmp 0), none⟩,
  ⟨some 9, .call { callee := .value (.func 13), args := #[.tmp 8], argTypes := #[25] }, none⟩,
  ⟨some 10, .move (.tmp 0), none⟩,
  ⟨some 11, .call { callee := .value (.func 14), args := #[.tmp 10], argTypes := #[25] }, none⟩,
  ⟨some 3, .assign (.tmp 9), none⟩,
  ⟨some 4, .assign (.tmp 11), none⟩]
def f5_r4 : List LOp := [
  ⟨some 12, .move (.tmp 3), none⟩,
  ⟨some 13, .call { callee := .value (.func 13), args := #[.tmp 12], argTypes := #[25] }, none⟩,
  ⟨some 14, .move (.tmp 3), none⟩,
  ⟨some 15, .call { callee := .value (.func 15), args := #[.tmp 13, .tmp 14], argTypes := #[25, 25] }, none⟩,
  ⟨some 16, .move (.tmp 15), none⟩,
  ⟨some 17, .move (.tmp 4), some (4, true)⟩,
  ⟨some 18, .call { callee := .value (.func 14), args := #[.tmp 17], argTypes := #[25] }, some (4, true)⟩,
  ⟨some 19, .move (.tmp 4), some (4, true)⟩,
  ⟨some 20, .call { callee := .value (.func 15), args := #[.tmp 18, .tmp 19], argTypes := #[25, 25] }, some (4, true)⟩,
  ⟨some 21, .pick (.tmp 16) (.tmp 20) (.const (.bool false)), none⟩,
  ⟨some 22, .move (.tmp 21), none⟩,
  ⟨some 23, .move (.tmp 4), some (10, true)⟩,
  ⟨some 24, .call { callee := .value (.func 13), args := #[.tmp 23], argTypes := #[25] }, some (10, true)⟩,
  ⟨some 25, .move (.tmp 3), some (10, true)⟩,
  ⟨some 26, .call { callee := .value (.func 14), args := #[.tmp 25], argTypes := #[25] }, some (10, true)⟩,
  ⟨some 27, .call { callee := .value (.func 15), args := #[.tmp 24, .tmp 26], argTypes := #[25, 25] }, some (10, true)⟩,
  ⟨some 28, .pick (.tmp 22) (.tmp 27) (.const (.bool false)), none⟩,
  ⟨some 29, .move (.tmp 28), none⟩,
  ⟨some 30, .move (.tmp 3), some (17, true)⟩,
  ⟨some 31, .call { callee := .builtin .len, args := #[.tmp 30], argTypes := #[25] }, some (17, true)⟩,
  ⟨some 32, .move (.tmp 0), some (17, true)⟩,
  ⟨some 33, .call { callee := .builtin .len, args := #[.tmp 32], argTypes := #[25] }, some (17, true)⟩,
  ⟨some 34, .binOp .eql 3 (.tmp 31) (.tmp 33) 3, some (17, true)⟩,
  ⟨some 35, .pick (.tmp 29) (.tmp 34) (.const (.bool false)), none⟩,
  ⟨some 36, .move (.tmp 35), none⟩,
  ⟨some 37, .call { callee := .value (.func 8), args := #[], argTypes := #[] }, some (24, true)⟩,
  ⟨some 38, .pick (.tmp 36) (.tmp 37) (.const (.bool false)), none⟩,
  ⟨some 2, .assign (.tmp 38), none⟩]
def f5_c : LC := (.seq (.reg f5_r0 [] none) (.seq (.seq (.reg f5_r1 [] none) (.cond (.tmp 6) (.seq (.reg f5_r2 [] none) .ret) .skip)) (.seq (.reg f5_r3 [] none) (.seq (.reg f5_r4 [] none) .ret))))
theorem f5_lc : Try.f5.body.map lc = some f5_c.st := by kernel_rfl
theorem f5_res : Try.f5.results.toList = [.tmp 2] := by kernel_rfl
theorem f5_nt : Try.f5.ntmps = 39 := by kernel_rfl
theorem f5_nm : (Try.f5.name == "runtime.NumGoroutine") = false := by kernel_rfl

/-! quill/quilllaw04.OrderSorts -/
def f6_r0 : List LOp := [
  ⟨some 2, .assign (.const (.bool false)), none⟩]
def f6_r1 : List LOp := [
  ⟨some 10, .move (.tmp 0), none⟩,
  ⟨some 11, .call { callee := .value (.func 12), args := #[.tmp 10, .const (.int .i64 200)], argTypes := #[25, 3] }, none⟩]
def f6_r2 : List LOp := [
  ⟨some 12, .call { callee := .value (.func 8), args := #[], argTypes := #[] }, none⟩,
  ⟨some 2, .assign (.tmp 12), none⟩]
def f6_r3 : List LOp := [
  ⟨some 13, .buildSlice 25 0 #[], none⟩,
  ⟨some 14, .move (.tmp 0), none⟩,
  ⟨some 15, .call { callee := .builtin .append, args := #[.tmp 13, .tmp 14], argTypes := #[25, 25] }, none⟩,
  ⟨some 3, .assign (.tmp 15), none⟩]
def f6_r4 : List LOp := [
  ⟨some 16, .move (.tmp 3), none⟩,
  ⟨some 17, .call { callee := .value (.func 13), args := #[.tmp 16], argTypes := #[25] }, none⟩,
  ⟨some 4, .assign (.tmp 17), none⟩]
def f6_r5 : List LOp := [
  ⟨some 18, .move (.tmp 3), none⟩,
  ⟨some 19, .call { callee := .value (.func 14), args := #[.tmp 18], argTypes := #[25] }, none⟩,
  ⟨some 5, .assign (.tmp 19), none⟩]
def f6_r6 : List LOp := [
  ⟨some 21, .move (.tmp 3), none⟩,
  ⟨some 22, .call { callee := .value (.func 16), args := #[.tmp 21], argTypes := #[25] }, none⟩,
  ⟨some 20, .move (.tmp 22), none⟩,
  ⟨some 23, .extract (.tmp 20) 0, none⟩,
  ⟨some 24, .extract (.tmp 20) 1, none⟩,
  ⟨some 6, .assign (.tmp 23), none⟩,
  ⟨some 7, .assign (.tmp 24), none⟩]
def f6_r7 : List LOp := [
  ⟨some 25, .move (.tmp 4), none⟩,
  ⟨some 26, .move (.tmp 0), none⟩,
  ⟨some 27, .call { callee := .value (.func 17), args := #[.tmp 26], argTypes := #[25] }, none⟩,
  ⟨some 28, .call { callee := .value (.func 15), args := #[.tmp 25, .tmp 27], argTypes := #[25, 25] }, none⟩,
  ⟨some 29, .unOp .not 4 (.tmp 28), none⟩,
  ⟨some 30, .move (.tmp 29), none⟩,
  ⟨some 31, .move (.tmp 5), some (5, false)⟩,
  ⟨some 32, .move (.tmp 0), some (5, false)⟩,
  ⟨some 33, .call { callee := .value (.func 18), args := #[.tmp 32], argTypes := #[25] }, some (5, false)⟩,
  ⟨some 34, .call { callee := .value (.func 15), args := #[.tmp 31, .tmp 33], argTypes := #[25, 25] }, some (5, false)⟩,
  ⟨some 35, .unOp .not 4 (.tmp 34), some (5, false)⟩,
  ⟨some 36, .pick (.tmp 30) (.const (.bool true)) (.tmp 35), none⟩,
  ⟨some 37, .move (.tmp 36), none⟩,
  ⟨some 38, .move (.tmp 3), some (12, false)⟩,
  ⟨some 39, .move (.tmp 0), some (12, false)⟩,
  ⟨some 40, .call { callee := .value (.func 15), args := #[.tmp 38, .tmp 39], argTypes := #[25, 25] }, some (12, false)⟩,
  ⟨some 41, .unOp .not 4 (.tmp 40), some (12, false)⟩,
  ⟨some 42, .pick (.tmp 37) (.const (.bool true)) (.tmp 41), none⟩,
  ⟨some 43, .move (.tmp 42), none⟩,
  ⟨some 44, .move (.tmp 7), some (18, false)⟩,
  ⟨some 45, .move (.tmp 0), some (18, false)⟩,
  ⟨some 46, .call { callee := .builtin .len, args := #[.tmp 45], argTypes := #[25] }, some (18, false)⟩,
  ⟨some 47, .binOp .gtr 3 (.tmp 46) (.const (.int .i64 0)) 3, some (18, false)⟩,
  ⟨some 48, .binOp .neq 4 (.tmp 44) (.tmp 47) 4, some (18, false)⟩,
  ⟨some 49, .pick (.tmp 43) (.const (.bool true)) (.tmp 48), none⟩]
def f6_r8 : List LOp := [
  ⟨some 2, .assign (.const (.bool false)), none⟩]
def f6_r9 : List LOp := [
  ⟨some 50, .move (.tmp 7), none⟩,
  ⟨some 51, .unOp .not 4 (.tmp 50), none⟩]
def f6_r10 : List LOp := [
  ⟨some 52, .move (.tmp 6), none⟩,
  ⟨some 53, .binOp .eql 3 (.tmp 52) (.const (.int .i64 0)) 3, none⟩,
  ⟨some 54, .move (.tmp 53), none⟩,
  ⟨some 55, .call { callee := .value (.func 8), args := #[], argTypes := #[] }, some (2, true)⟩,
  ⟨some 56, .pick (.tmp 54) (.tmp 55) (.const (.bool false)), none⟩,
  ⟨some 2, .assign (.tmp 56), none⟩]
def f6_r11 : List LOp := [
  ⟨some 57, .move (.tmp 6), none⟩,
  ⟨some 58, .binOp .lss 3 (.tmp 57) (.const (.int .i64 0)) 3, none⟩,
  ⟨some 59, .move (.tmp 58), none⟩,
  ⟨some 60, .move (.tmp 6), some (2, false)⟩,
  ⟨some 61, .move (.tmp 0), some (2, false)⟩,
  ⟨some 62, .call { callee := .builtin .len, args := #[.tmp 61], argTypes := #[25] }, some (2, false)⟩,
  ⟨some 63, .binOp .geq 3 (.tmp 60) (.tmp 62) 3, some (2, false)⟩,
  ⟨some 64, .pick (.tmp 59) (.const (.bool true)) (.tmp 63), none⟩]
def f6_r12 : List LOp := [
  ⟨some 2, .assign (.const (.bool false)), none⟩]
def f6_r13 : List LOp := [
  ⟨some 8, .assign (.const (.int .i64 0)), none⟩]
def f6_r14 : List LOp := [
  ⟨some 65, .move (.tmp 8), none⟩,
  ⟨some 66, .move (.tmp 0), none⟩,
  ⟨some 67, .call { callee := .builtin .len, args := #[.tmp 66], argTypes := #[25] }, none⟩,
  ⟨some 68, .binOp .lss 3 (.tmp 65) (.tmp 67) 3, none⟩]
def f6_r15 : List LOp := [
  ⟨some 71, .move (.tmp 0), none⟩,
  ⟨some 72, .move (.tmp 8), none⟩,
  ⟨some 73, .indexAddr 25 (.tmp 71) (.tmp 72), none⟩,
  ⟨some 74, .load 27 (.tmp 73), none⟩,
  ⟨some 75, .move (.tmp 0), none⟩,
  ⟨some 76, .move (.tmp 6), none⟩,
  ⟨some 77, .indexAddr 25 (.tmp 75) (.tmp 76), none⟩,
  ⟨some 78, .load 27 (.tmp 77), none⟩,
  ⟨some 79, .call { callee := .value (.func 10), args := #[.tmp 74, .tmp 78], argTypes := #[27, 27] }, none⟩,
  ⟨some 9, .assign (.tmp 79), none⟩]
def f6_r16 : List LOp := [
  ⟨some 80, .move (.tmp 9), none⟩,
  ⟨some 81, .binOp .lss 3 (.tmp 80) (.const (.int .i64 0)) 3, none⟩,
  ⟨some 82, .move (.tmp 81), none⟩,
  ⟨some 83, .move (.tmp 9), some (2, false)⟩,
  ⟨some 84, .binOp .eql 3 (.tmp 83) (.const (.int .i64 0)) 3, some (2, false)⟩,
  ⟨some 85, .move (.tmp 84), some (2, false)⟩,
  ⟨some 86, .move (.tmp 8), some (5, true)⟩,
  ⟨some 87, .move (.tmp 6), some (5, true)⟩,
  ⟨some 88, .binOp .lss 3 (.tmp 86) (.tmp 87) 3, some (5, true)⟩,
  ⟨some 89, .pick (.tmp 85) (.tmp 88) (.const (.bool false)), some (2, false)⟩,
  ⟨some 90, .pick (.tmp 82) (.const (.bool true)) (.tmp 89), none⟩]
def f6_r17 : List LOp := [
  ⟨some 2, .assign (.const (.bool false)), none⟩]
def f6_r18 : List LOp := [
  ⟨some 69, .move (.tmp 8), none⟩,
  ⟨some 70, .binOp .add 3 (.tmp 69) (.const (.int .i64 1)) 3, none⟩,
  ⟨some 8, .assign (.tmp 70), none⟩]
def f6_l19 : LC := (.seq (.seq (.reg f6_r14 [] none) (.cond (.tmp 68) .skip (.exit 0))) (.seq (.block 1 (.seq (.reg f6_r15 [] (some 8)) (.seq (.reg f6_r16 [] none) (.cond (.tmp 90) (.seq (.reg f6_r17 [] none) .ret) .skip)))) (.reg f6_r18 [] none)))
def f6_i19 (t0 t6 t8 : D) : List D := [t0, .any, .any, .any, .any, .any, t6, .any, t8, .any, .any, .any, .any, .any, .any, .any, .any, .any, .any, .any, .any, .any, .any, .any, .any, .any, .any, .any, .any, .any, .any, .any, .any, .any, .any, .any, .any, .any, .any, .any, .any, .any, .any, .any, .any, .any, .any, .any, .any, .any, .any, .any, .any, .any, .any, .any, .any, .any, .any, .any, .any, .any, .any, .any, .any, .any, .any, .any, .any, .any, .any, .any, .any, .any, .any, .any, .any, .any, .any, .any, .any, .any, .any, .any, .any, .any, .any, .any, .any, .any, .any, .any]
def f6_r20 : List LOp := [
  ⟨some 91, .call { callee := .value (.func 8), args := #[], argTypes := #[] }, none⟩,
  ⟨some 2, .assign (.tmp 91), none⟩]
def f6_c : LC := (.seq (.reg f6_r0 [] none) (.seq (.seq (.reg f6_r1 [] none) (.cond (.tmp 11) (.seq (.reg f6_r2 [] none) .ret) .skip)) (.seq (.reg f6_r3 [0] none) (.seq (.reg f6_r4 [] none) (.seq (.reg f6_r5 [] none) (.seq (.reg f6_r6 [] none) (.seq (.seq (.reg f6_r7 [] none) (.cond (.tmp 49) (.seq (.reg f6_r8 [] none) .ret) .skip)) (.seq (.seq (.reg f6_r9 [] none) (.cond (.tmp 51) (.seq (.reg f6_r10 [] none) .ret) .skip)) (.seq (.seq (.reg f6_r11 [] none) (.cond (.tmp 64) (.seq (.reg f6_r12 [] none) .ret) .skip)) (.seq (.seq (.reg f6_r13 [] none) (.block 0 (.loop f6_l19))) (.seq (.reg f6_r20 [] none) .ret)))))))))))
theorem f6_lc : Try.f6.body.map lc = some f6_c.st := by kernel_rfl
theorem f6_res : Try.f6.results.toList = [.tmp 2] := by kernel_rfl
theorem f6_nt : Try.f6.ntmps = 92 := by kernel_rfl
theorem f6_nm : (Try.f6.name == "runtime.NumGoroutine") = false := by kernel_rfl

/-! quill/quillref03.Great -/
def f7_r0 : List LOp := [
  ⟨some 2, .box 27 (.tmp 0), none⟩,
  ⟨some 4, .assign (.const (.bool false)), none⟩]
def f7_r1 : List LOp := [
  ⟨some 5, .load 27 (.tmp 2), none⟩,
  ⟨some 6, .move (.tmp 1), none⟩,
  ⟨some 7, .call { callee := .value (.func 19), args := #[.tmp 5, .tmp 6], argTypes := #[27, 3] }, none⟩,
  ⟨some 8, .move (.tmp 1), none⟩,
  ⟨some 9, .binOp .gtr 3 (.tmp 7) (.tmp 8) 3, none⟩,
  ⟨some 4, .assign (.tmp 9), none⟩]
def f7_c : LC := (.seq (.reg f7_r0 [] none) (.seq (.reg f7_r1 [] none) .ret))
theorem f7_lc : Try.f7.body.map lc = some f7_c.st := by kernel_rfl
theorem f7_res : Try.f7.results.toList = [.tmp 4] := by kernel_rfl
theorem f7_nt : Try.f7.ntmps = 10 := by kernel_rfl
theorem f7_nm : (Try.f7.name == "runtime.NumGoroutine") = false := by kernel_rfl

/-! quill/quilllaw04.awake -/
def f8_r0 : List LOp := [
  ⟨some 0, .assign (.const (.bool false)), none⟩]
def f8_r1 : List LOp := [
  ⟨some 1, .call { callee := .value (.func 20), args := #[.const (.int .u8 1)], argTypes := #[5] }, none⟩,
  ⟨some 2, .call { callee := .value (.func 20), args := #[.const (.int .u8 2)], argTypes := #[5] }, none⟩,
  ⟨some 3, .call { callee := .value (.func 9), args := #[.tmp 1, .tmp 2], argTypes := #[27, 27] }, none⟩,
  ⟨some 4, .binOp .eql 3 (.tmp 3) (.const (.int .i64 (-1))) 3, none⟩,
  ⟨some 5, .move (.tmp 4), none⟩,
  ⟨some 6, .call { callee := .value (.func 20), args := #[.const (.int .u8 1)], argTypes := #[5] }, some (4, true)⟩,
  ⟨some 7, .call { callee := .value (.func 21), args := #[.tmp 6], argTypes := #[27] }, some (4, true)⟩,
  ⟨some 8, .call { callee := .value (.func 20), args := #[.const (.int .u8 2)], argTypes := #[5] }, some (4, true)⟩,
  ⟨some 9, .call { callee := .value (.func 9), args := #[.tmp 7, .tmp 8], argTypes := #[27, 27] }, some (4, true)⟩,
  ⟨some 10, .binOp .eql 3 (.tmp 9) (.const (.int .i64 1)) 3, some (4, true)⟩,
  ⟨some 11, .pick (.tmp 5) (.tmp 10) (.const (.bool false)), none⟩,
  ⟨some 0, .assign (.tmp 11), none⟩]
def f8_c : LC := (.seq (.reg f8_r0 [] none) (.seq (.reg f8_r1 [] none) .ret))
theorem f8_lc : Try.f8.body.map lc = some f8_c.st := by kernel_rfl
theorem f8_res : Try.f8.results.toList = [.tmp 0] := by kernel_rfl
theorem f8_nt : Try.f8.ntmps = 12 := by kernel_rfl
theorem f8_nm : (Try.f8.name == "runtime.NumGoroutine") = false := by kernel_rfl

/-! quill/order.Two -/
def f9_r0 : List LOp := [
  ⟨some 2, .box 27 (.tmp 0), none⟩,
  ⟨some 3, .box 27 (.tmp 1), none⟩,
  ⟨some 4, .assign (.const (.int .i64 0)), none⟩]
def f9_r1 : List LOp := [
  ⟨some 5, .fieldAddr 27 (.tmp 2) 0, none⟩,
  ⟨some 6, .load 5 (.tmp 5), none⟩,
  ⟨some 7, .fieldAddr 27 (.tmp 3) 0, none⟩,
  ⟨some 8, .load 5 (.tmp 7), none⟩,
  ⟨some 9, .call { callee := .value (.func 23), args := #[.tmp 6, .tmp 8], argTypes := #[5, 5] }, none⟩,
  ⟨some 10, .fieldAddr 27 (.tmp 2) 1, none⟩,
  ⟨some 11, .load 24 (.tmp 10), none⟩,
  ⟨some 12, .fieldAddr 27 (.tmp 3) 1, none⟩,
  ⟨some 13, .load 24 (.tmp 12), none⟩,
  ⟨some 14, .call { callee := .value (.func 24), args := #[.tmp 11, .tmp 13], argTypes := #[24, 24] }, none⟩,
  ⟨some 15, .fieldAddr 27 (.tmp 2) 2, none⟩,
  ⟨some 16, .load 25 (.tmp 15), none⟩,
  ⟨some 17, .fieldAddr 27 (.tmp 3) 2, none⟩,
  ⟨some 18, .load 25 (.tmp 17), none⟩,
  ⟨some 19, .call { callee := .value (.func 25), args := #[.tmp 16, .tmp 18, .func 9], argTypes := #[25, 25, 30] }, none⟩,
  ⟨some 20, .buildSlice 54 3 #[(0, .tmp 9), (1, .tmp 14), (2, .tmp 19)], none⟩,
  ⟨some 21, .call { callee := .value (.func 22), args := #[.tmp 20], argTypes := #[54] }, none⟩,
  ⟨some 4, .assign (.tmp 21), none⟩]
def f9_c : LC := (.seq (.reg f9_r0 [] none) (.seq (.reg f9_r1 [] (some 14)) .ret))
theorem f9_lc : Try.f9.body.map lc = some f9_c.st := by kernel_rfl
theorem f9_res : Try.f9.results.toList = [.tmp 4] := by kernel_rfl
theorem f9_nt : Try.f9.ntmps = 22 := by kernel_rfl
theorem f9_nm : (Try.f9.name == "runtime.NumGoroutine") = false := by kernel_rfl

/-! quill/quillref04.Two -/
def f10_r0 : List LOp := [
  ⟨some 2, .box 27 (.tmp 0), none⟩,
  ⟨some 3, .box 27 (.tmp 1), none⟩,
  ⟨some 4, .assign (.const (.int .i64 0)), none⟩]
def f10_r1 : List LOp := [
  ⟨some 8, .fieldAddr 27 (.tmp 2) 0, none⟩,
  ⟨some 9, .load 5 (.tmp 8), none⟩,
  ⟨some 10, .fieldAddr 27 (.tmp 3) 0, none⟩,
  ⟨some 11, .load 5 (.tmp 10), none⟩,
  ⟨some 12, .binOp .lss 5 (.tmp 9) (.tmp 11) 5, none⟩]
def f10_r2 : List LOp := [
  ⟨some 4, .assign (.const (.int .i64 (-1))), none⟩]
def f10_r3 : List LOp := [
  ⟨some 13, .fieldAddr 27 (.tmp 2) 0, none⟩,
  ⟨some 14, .load 5 (.tmp 13), none⟩,
  ⟨some 15, .fieldAddr 27 (.tmp 3) 0, none⟩,
  ⟨some 16, .load 5 (.tmp 15), none⟩,
  ⟨some 17, .binOp .gtr 5 (.tmp 14) (.tmp 16) 5, none⟩]
def f10_r4 : List LOp := [
  ⟨some 4, .assign (.const (.int .i64 1)), none⟩]
def f10_r5 : List LOp := [
  ⟨some 18, .fieldAddr 27 (.tmp 2) 1, none⟩,
  ⟨some 19, .load 24 (.tmp 18), none⟩,
  ⟨some 20, .fieldAddr 27 (.tmp 3) 1, none⟩,
  ⟨some 21, .load 24 (.tmp 20), none⟩,
  ⟨some 22, .call { callee := .value (.func 26), args := #[.tmp 19, .tmp 21], argTypes := #[24, 24] }, none⟩,
  ⟨some 5, .assign (.tmp 22), none⟩]
def f10_r6 : List LOp := [
  ⟨some 23, .move (.tmp 5), none⟩,
  ⟨some 24, .binOp .neq 3 (.tmp 23) (.const (.int .i64 0)) 3, none⟩]
def f10_r7 : List LOp := [
  ⟨some 25, .move (.tmp 5), none⟩,
  ⟨some 4, .assign (.tmp 25), none⟩]
def f10_r8 : List LOp := [
  ⟨some 26, .fieldAddr 27 (.tmp 2) 2, none⟩,
  ⟨some 27, .load 25 (.tmp 26), none⟩,
  ⟨some 28, .call { callee := .builtin .len, args := #[.tmp 27], argTypes := #[25] }, none⟩,
  ⟨some 29, .move (.const (.int .i64 0)), none⟩]
def f10_r9 : List LOp := [
  ⟨some 30, .binOp .lss 3 (.tmp 29) (.tmp 28) 3, none⟩]
def f10_r10 : List LOp := [
  ⟨some 31, .move (.tmp 29), none⟩,
  ⟨some 6, .assign (.tmp 31), none⟩]
def f10_r11 : List LOp := [
  ⟨some 32, .move (.tmp 6), none⟩,
  ⟨some 33, .fieldAddr 27 (.tmp 3) 2, none⟩,
  ⟨some 34, .load 25 (.tmp 33), none⟩,
  ⟨some 35, .call { callee := .builtin .len, args := #[.tmp 34], argTypes := #[25] }, none⟩,
  ⟨some 36, .binOp .eql 3 (.tmp 32) (.tmp 35) 3, none⟩]
def f10_r12 : List LOp := [
  ⟨some 4, .assign (.const (.int .i64 1)), none⟩]
def f10_r13 : List LOp := [
  ⟨some 37, .fieldAddr 27 (.tmp 2) 2, none⟩,
  ⟨some 38, .load 25 (.tmp 37), none⟩,
  ⟨some 39, .move (.tmp 6), none⟩,
  ⟨some 40, .indexAddr 25 (.tmp 38) (.tmp 39), none⟩,
  ⟨some 41, .load 27 (.tmp 40), none⟩,
  ⟨some 42, .fieldAddr 27 (.tmp 3) 2, none⟩,
  ⟨some 43, .load 25 (.tmp 42), none⟩,
  ⟨some 44, .move (.tmp 6), none⟩,
  ⟨some 45, .indexAddr 25 (.tmp 43) (.tmp 44), none⟩,
  ⟨some 46, .load 27 (.tmp 45), none⟩,
  ⟨some 47, .call { callee := .value (.func 10), args := #[.tmp 41, .tmp 46], argTypes := #[27, 27] }, none⟩,
  ⟨some 7, .assign (.tmp 47), none⟩]
def f10_r14 : List LOp := [
  ⟨some 48, .move (.tmp 7), none⟩,
  ⟨some 49, .binOp .neq 3 (.tmp 48) (.const (.int .i64 0)) 3, none⟩]
def f10_r15 : List LOp := [
  ⟨some 50, .move (.tmp 7), none⟩,
  ⟨some 4, .assign (.tmp 50), none⟩]
def f10_r16 : List LOp := [
  ⟨some 51, .binOp .add 3 (.tmp 29) (.const (.int .i64 1)) 3, none⟩,
  ⟨some 29, .move (.tmp 51), none⟩]
def f10_l17 : LC := (.seq (.reg f10_r9 [] none) (.seq (.cond (.tmp 30) .skip (.exit 0)) (.seq (.block 1 (.seq (.reg f10_r10 [] none) (.seq (.seq (.reg f10_r11 [] none) (.cond (.tmp 36) (.seq (.reg f10_r12 [] none) .ret) .skip)) (.seq (.reg f10_r13 [] (some 10)) (.seq (.reg f10_r14 [] none) (.cond (.tmp 49) (.seq (.reg f10_r15 [] none) .ret) .skip)))))) (.reg f10_r16 [] none))))
def f10_i17 (t2 t3 t28 t29 : D) : List D := [.any, .any, t2, t3, .any, .any, .any, .any, .any, .any, .any, .any, .any, .any, .any, .any, .any, .any, .any, .any, .any, .any, .any, .any, .any, .any, .any, .any, t28, t29, .any, .any, .any, .any, .any, .any, .any, .any, .any, .any, .any, .any, .any, .any, .any, .any, .any, .any, .any, .any, .any, .any, .any, .any, .any, .any, .any, .any, .any]
def f10_r18 : List LOp := [
  ⟨some 52, .fieldAddr 27 (.tmp 2) 2, none⟩,
  ⟨some 53, .load 25 (.tmp 52), none⟩,
  ⟨some 54, .call { callee := .builtin .len, args := #[.tmp 53], argTypes := #[25] }, none⟩,
  ⟨some 55, .fieldAddr 27 (.tmp 3) 2, none⟩,
  ⟨some 56, .load 25 (.tmp 55), none⟩,
  ⟨some 57, .call { callee := .builtin .len, args := #[.tmp 56], argTypes := #[25] }, none⟩,
  ⟨some 58, .binOp .lss 3 (.tmp 54) (.tmp 57) 3, none⟩]
def f10_r19 : List LOp := [
  ⟨some 4, .assign (.const (.int .i64 (-1))), none⟩]
def f10_r20 : List LOp := [
  ⟨some 4, .assign (.const (.int .i64 0)), none⟩]
def f10_c : LC := (.seq (.reg f10_r0 [] none) (.seq (.seq (.reg f10_r1 [] none) (.cond (.tmp 12) (.seq (.reg f10_r2 [] none) .ret) .skip)) (.seq (.seq (.reg f10_r3 [] none) (.cond (.tmp 17) (.seq (.reg f10_r4 [] none) .ret) .skip)) (.seq (.reg f10_r5 [] none) (.seq (.seq (.reg f10_r6 [] none) (.cond (.tmp 24) (.seq (.reg f10_r7 [] none) .ret) .skip)) (.seq (.seq (.reg f10_r8 [] none) (.block 0 (.loop f10_l17))) (.seq (.seq (.reg f10_r18 [] none) (.cond (.tmp 58) (.seq (.reg f10_r19 [] none) .ret) .skip)) (.seq (.reg f10_r20 [] none) .ret))))))))
theorem f10_lc : Try.f10.body.map lc = some f10_c.st := by kernel_rfl
theorem f10_res : Try.f10.results.toList = [.tmp 4] := by kernel_rfl
theorem f10_nt : Try.f10.ntmps = 59 := by kernel_rfl
theorem f10_nm : (Try.f10.name == "runtime.NumGoroutine") = false := by kernel_rfl

/-! quill/quillref03.Same -/
def f11_r0 : List LOp := [
  ⟨some 2, .box 27 (.tmp 0), none⟩,
  ⟨some 3, .box 27 (.tmp 1), none⟩,
  ⟨some 4, .assign (.const (.bool false)), none⟩]
def f11_r1 : List LOp := [
  ⟨some 6, .fieldAddr 27 (.tmp 2) 0, none⟩,
  ⟨some 7, .load 5 (.tmp 6), none⟩,
  ⟨some 8, .fieldAddr 27 (.tmp 3) 0, none⟩,
  ⟨some 9, .load 5 (.tmp 8), none⟩,
  ⟨some 10, .binOp .neq 5 (.tmp 7) (.tmp 9) 5, none⟩,
  ⟨some 11, .move (.tmp 10), none⟩,
  ⟨some 12, .fieldAddr 27 (.tmp 2) 1, some (5, false)⟩,
  ⟨some 13, .load 24 (.tmp 12), some (5, false)⟩,
  ⟨some 14, .fieldAddr 27 (.tmp 3) 1, some (5, false)⟩,
  ⟨some 15, .load 24 (.tmp 14), some (5, false)⟩,
  ⟨some 16, .binOp .neq 24 (.tmp 13) (.tmp 15) 24, some (5, false)⟩,
  ⟨some 17, .pick (.tmp 11) (.const (.bool true)) (.tmp 16), none⟩,
  ⟨some 18, .move (.tmp 17), none⟩,
  ⟨some 19, .fieldAddr 27 (.tmp 2) 2, some (12, false)⟩,
  ⟨some 20, .load 25 (.tmp 19), some (12, false)⟩,
  ⟨some 21, .call { callee := .builtin .len, args := #[.tmp 20], argTypes := #[25] }, some (12, false)⟩,
  ⟨some 22, .fieldAddr 27 (.tmp 3) 2, some (12, false)⟩,
  ⟨some 23, .load 25 (.tmp 22), some (12, false)⟩,
  ⟨some 24, .call { callee := .builtin .len, args := #[.tmp 23], argTypes := #[25] }, some (12, false)⟩,
  ⟨some 25, .binOp .neq 3 (.tmp 21) (.tmp 24) 3, some (12, false)⟩,
  ⟨some 26, .pick (.tmp 18) (.const (.bool true)) (.tmp 25), none⟩]
def f11_r2 : List LOp := [
  ⟨some 4, .assign (.const (.bool false)), none⟩]
def f11_r3 : List LOp := [
  ⟨some 27, .fieldAddr 27 (.tmp 2) 2, none⟩,
  ⟨some 28, .load 25 (.tmp 27), none⟩,
  ⟨some 29, .call { callee := .builtin .len, args := #[.tmp 28], argTypes := #[25] }, none⟩,
  ⟨some 30, .move (.const (.int .i64 0)), none⟩]
def f11_r4 : List LOp := [
  ⟨some 31, .binOp .lss 3 (.tmp 30) (.tmp 29) 3, none⟩]
def f11_r5 : List LOp := [
  ⟨some 32, .move (.tmp 30), none⟩,
  ⟨some 5, .assign (.tmp 32), none⟩]
def f11_r6 : List LOp := [
  ⟨some 33, .fieldAddr 27 (.tmp 2) 2, none⟩,
  ⟨some 34, .load 25 (.tmp 33), none⟩,
  ⟨some 35, .move (.tmp 5), none⟩,
  ⟨some 36, .indexAddr 25 (.tmp 34) (.tmp 35), none⟩,
  ⟨some 37, .load 27 (.tmp 36), none⟩,
  ⟨some 38, .fieldAddr 27 (.tmp 3) 2, none⟩,
  ⟨some 39, .load 25 (.tmp 38), none⟩,
  ⟨some 40, .move (.tmp 5), none⟩,
  ⟨some 41, .indexAddr 25 (.tmp 39) (.tmp 40), none⟩,
  ⟨some 42, .load 27 (.tmp 41), none⟩,
  ⟨some 43, .call { callee := .value (.func 11), args := #[.tmp 37, .tmp 42], argTypes := #[27, 27] }, none⟩,
  ⟨some 44, .unOp .not 4 (.tmp 43), none⟩]
def f11_r7 : List LOp := [
  ⟨some 4, .assign (.const (.bool false)), none⟩]
def f11_r8 : List LOp := [
  ⟨some 45, .binOp .add 3 (.tmp 30) (.const (.int .i64 1)) 3, none⟩,
  ⟨some 30, .move (.tmp 45), none⟩]
def f11_l9 : LC := (.seq (.reg f11_r4 [] none) (.seq (.cond (.tmp 31) .skip (.exit 0)) (.seq (.block 1 (.seq (.reg f11_r5 [] none) (.seq (.reg f11_r6 [] (some 10)) (.cond (.tmp 44) (.seq (.reg f11_r7 [] none) .ret) .skip)))) (.reg f11_r8 [] none))))
def f11_i9 (t2 t3 t29 t30 : D) : List D := [.any, .any, t2, t3, .any, .any, .any, .any, .any, .any, .any, .any, .any, .any, .any, .any, .any, .any, .any, .any, .any, .any, .any, .any, .any, .any, .any, .any, .any, t29, t30, .any, .any, .any, .any, .any, .any, .any, .any, .any, .any, .any, .any, .any, .any, .any]
def f11_r10 : List LOp := [
  ⟨some 4, .assign (.const (.bool true)), none⟩]
def f11_c : LC := (.seq (.reg f11_r0 [] none) (.seq (.seq (.reg f11_r1 [] none) (.cond (.tmp 26) (.seq (.reg f11_r2 [] none) .ret) .skip)) (.seq (.seq (.reg f11_r3 [] none) (.block 0 (.loop f11_l9))) (.seq (.reg f11_r10 [] none) .ret))))
theorem f11_lc : Try.f11.body.map lc = some f11_c.st := by kernel_rfl
theorem f11_res : Try.f11.results.toList = [.tmp 4] := by kernel_rfl
theorem f11_nt : Try.f11.ntmps = 46 := by kernel_rfl
theorem f11_nm : (Try.f11.name == "runtime.NumGoroutine") = false := by kernel_rfl

/-! quill/quillref03.GreatAll -/
def f12_r0 : List LOp := [
  ⟨some 4, .assign (.const (.bool false)), none⟩]
def f12_r1 : List LOp := [
  ⟨some 6, .move (.tmp 0), none⟩,
  ⟨some 7, .call { callee := .builtin .len, args := #[.tmp 6], argTypes := #[25] }, none⟩,
  ⟨some 8, .binOp .gtr 3 (.tmp 7) (.const (.int .i64 20)) 3, none⟩]
def f12_r2 : List LOp := [
  ⟨some 4, .assign (.const (.bool true)), none⟩]
def f12_r3 : List LOp := [
  ⟨some 9, .move (.tmp 0), none⟩,
  ⟨some 10, .call { callee := .builtin .len, args := #[.tmp 9], argTypes := #[25] }, none⟩,
  ⟨some 11, .move (.const (.int .i64 0)), none⟩]
def f12_r4 : List LOp := [
  ⟨some 12, .binOp .lss 3 (.tmp 11) (.tmp 10) 3, none⟩]
def f12_r5 : List LOp := [
  ⟨some 13, .move (.tmp 11), none⟩,
  ⟨some 5, .assign (.tmp 13), none⟩]
def f12_r6 : List LOp := [
  ⟨some 14, .move (.tmp 0), none⟩,
  ⟨some 15, .move (.tmp 5), none⟩,
  ⟨some 16, .indexAddr 25 (.tmp 14) (.tmp 15), none⟩,
  ⟨some 17, .load 27 (.tmp 16), none⟩,
  ⟨some 18, .move (.tmp 1), none⟩,
  ⟨some 19, .call { callee := .value (.func 7), args := #[.tmp 17, .tmp 18], argTypes := #[27, 3] }, none⟩]
def f12_r7 : List LOp := [
  ⟨some 4, .assign (.const (.bool true)), none⟩]
def f12_r8 : List LOp := [
  ⟨some 20, .binOp .add 3 (.tmp 11) (.const (.int .i64 1)) 3, none⟩,
  ⟨some 11, .move (.tmp 20), none⟩]
def f12_l9 : LC := (.seq (.reg f12_r4 [] none) (.seq (.cond (.tmp 12) .skip (.exit 0)) (.seq (.block 1 (.seq (.reg f12_r5 [] none) (.seq (.reg f12_r6 [] none) (.cond (.tmp 19) (.seq (.reg f12_r7 [] none) .ret) .skip)))) (.reg f12_r8 [] none))))
def f12_i9 (t0 t1 t10 t11 : D) : List D := [t0, t1, .any, .any, .any, .any, .any, .any, .any, .any, t10, t11, .any, .any, .any, .any, .any, .any, .any, .any, .any]
def f12_r10 : List LOp := [
  ⟨some 4, .assign (.const (.bool false)), none⟩]
def f12_c : LC := (.seq (.reg f12_r0 [] none) (.seq (.seq (.reg f12_r1 [] none) (.cond (.tmp 8) (.seq (.reg f12_r2 [] none) .ret) .skip)) (.seq (.seq (.reg f12_r3 [] none) (.block 0 (.loop f12_l9))) (.seq (.reg f12_r10 [] none) .ret))))
theorem f12_lc : Try.f12.body.map lc = some f12_c.st := by kernel_rfl
theorem f12_res : Try.f12.results.toList = [.tmp 4] := by kernel_rfl
theorem f12_nt : Try.f12.ntmps = 21 := by kernel_rfl
theorem f12_nm : (Try.f12.name == "runtime.NumGoroutine") = false := by kernel_rfl

/-! quill/order.Sort -/
def f13_r0 : List LOp := [
  ⟨some 2, .assign (.const (.slice none 0 0)), none⟩]
def f13_r1 : List LOp := [
  ⟨some 3, .move (.tmp 0), none⟩,
  ⟨some 4, .call { callee := .value (.func 28), args := #[.tmp 3], argTypes := #[25] }, none⟩,
  ⟨some 5, .call { callee := .value (.func 27), args := #[.tmp 4, .func 9], argTypes := #[49, 30] }, none⟩,
  ⟨some 2, .assign (.tmp 5), none⟩]
def f13_c : LC := (.seq (.reg f13_r0 [] none) (.seq (.reg f13_r1 [] none) .ret))
theorem f13_lc : Try.f13.body.map lc = some f13_c.st := by kernel_rfl
theorem f13_res : Try.f13.results.toList = [.tmp 2] := by kernel_rfl
theorem f13_nt : Try.f13.ntmps = 6 := by kernel_rfl
theorem f13_nm : (Try.f13.name == "runtime.NumGoroutine") = false := by kernel_rfl

/-! quill/order.Once -/
def f14_r0 : List LOp := [
  ⟨some 2, .assign (.const (.slice none 0 0)), none⟩]
def f14_r1 : List LOp := [
  ⟨some 3, .assign (.const (.slice none 0 0)), none⟩]
def f14_r2 : List LOp := [
  ⟨some 6, .move (.tmp 0), none⟩,
  ⟨some 7, .call { callee := .builtin .len, args := #[.tmp 6], argTypes := #[25] }, none⟩,
  ⟨some 8, .move (.const (.int .i64 0)), none⟩]
def f14_r3 : List LOp := [
  ⟨some 9, .binOp .lss 3 (.tmp 8) (.tmp 7) 3, none⟩]
def f14_r4 : List LOp := [
  ⟨some 10, .indexAddr 25 (.tmp 6) (.tmp 8), none⟩,
  ⟨some 11, .load 27 (.tmp 10), none⟩,
  ⟨some 5, .alloc 27, none⟩,
  ⟨none, .store 27 (.tmp 5) (.tmp 11), none⟩]
def f14_r5 : List LOp := [
  ⟨some 12, .move (.tmp 3), none⟩,
  ⟨some 13, .makeFunc (.func 30) #[] #[.tmp 5], none⟩,
  ⟨some 14, .call { callee := .value (.func 29), args := #[.tmp 12, .tmp 13], argTypes := #[25, 52] }, none⟩,
  ⟨some 15, .unOp .not 4 (.tmp 14), none⟩]
def f14_r6 : List LOp := [
  ⟨some 16, .move (.tmp 3), none⟩,
  ⟨some 17, .load 27 (.tmp 5), none⟩,
  ⟨some 18, .buildSlice 25 1 #[(0, .tmp 17)], none⟩,
  ⟨some 19, .call { callee := .builtin .append, args := #[.tmp 16, .tmp 18], argTypes := #[25, 25] }, none⟩,
  ⟨some 3, .assign (.tmp 19), none⟩]
def f14_r7 : List LOp := [
  ⟨some 20, .binOp .add 3 (.tmp 8) (.const (.int .i64 1)) 3, none⟩,
  ⟨some 8, .move (.tmp 20), none⟩]
def f14_l8 : LC := (.seq (.reg f14_r3 [] none) (.seq (.cond (.tmp 9) .skip (.exit 0)) (.seq (.block 1 (.seq (.reg f14_r4 [] none) (.seq (.reg f14_r5 [] none) (.cond (.tmp 15) (.reg f14_r6 [] none) .skip)))) (.reg f14_r7 [] none))))
def f14_i8 (t3 t6 t7 t8 : D) : List D := [.any, .any, .any, t3, .any, .any, t6, t7, t8, .any, .any, .any, .any, .any, .any, .any, .any, .any, .any, .any, .any, .any]
def f14_r9 : List LOp := [
  ⟨some 21, .move (.tmp 3), none⟩,
  ⟨some 2, .assign (.tmp 21), none⟩]
def f14_c : LC := (.seq (.reg f14_r0 [] none) (.seq (.reg f14_r1 [] none) (.seq (.seq (.reg f14_r2 [] none) (.block 0 (.loop f14_l8))) (.seq (.reg f14_r9 [] none) .ret))))
theorem f14_lc : Try.f14.body.map lc = some f14_c.st := by kernel_rfl
theorem f14_res : Try.f14.results.toList = [.tmp 2] := by kernel_rfl
theorem f14_nt : Try.f14.ntmps = 22 := by kernel_rfl
theorem f14_nm : (Try.f14.name == "runtime.NumGoroutine") = false := by kernel_rfl

/-! quill/quillref04.SameAll -/
def f15_r0 : List LOp := [
  ⟨some 4, .assign (.const (.bool false)), none⟩]
def f15_r1 : List LOp := [
  ⟨some 6, .move (.tmp 0), none⟩,
  ⟨some 7, .call { callee := .builtin .len, args := #[.tmp 6], argTypes := #[25] }, none⟩,
  ⟨some 8, .move (.tmp 1), none⟩,
  ⟨some 9, .call { callee := .builtin .len, args := #[.tmp 8], argTypes := #[25] }, none⟩,
  ⟨some 10, .binOp .neq 3 (.tmp 7) (.tmp 9) 3, none⟩]
def f15_r2 : List LOp := [
  ⟨some 4, .assign (.const (.bool false)), none⟩]
def f15_r3 : List LOp := [
  ⟨some 11, .move (.tmp 0), none⟩,
  ⟨some 12, .call { callee := .builtin .len, args := #[.tmp 11], argTypes := #[25] }, none⟩,
  ⟨some 13, .move (.const (.int .i64 0)), none⟩]
def f15_r4 : List LOp := [
  ⟨some 14, .binOp .lss 3 (.tmp 13) (.tmp 12) 3, none⟩]
def f15_r5 : List LOp := [
  ⟨some 15, .move (.tmp 13), none⟩,
  ⟨some 5, .assign (.tmp 15), none⟩]
def f15_r6 : List LOp := [
  ⟨some 16, .move (.tmp 0), none⟩,
  ⟨some 17, .move (.tmp 5), none⟩,
  ⟨some 18, .indexAddr 25 (.tmp 16) (.tmp 17), none⟩,
  ⟨some 19, .load 27 (.tmp 18), none⟩,
  ⟨some 20, .move (.tmp 1), none⟩,
  ⟨some 21, .move (.tmp 5), none⟩,
  ⟨some 22, .indexAddr 25 (.tmp 20) (.tmp 21), none⟩,
  ⟨some 23, .load 27 (.tmp 22), none⟩,
  ⟨some 24, .call { callee := .value (.func 11), args := #[.tmp 19, .tmp 23], argTypes := #[27, 27] }, none⟩,
  ⟨some 25, .unOp .not 4 (.tmp 24), none⟩]
def f15_r7 : List LOp := [
  ⟨some 4, .assign (.const (.bool false)), none⟩]
def f15_r8 : List LOp := [
  ⟨some 26, .binOp .add 3 (.tmp 13) (.const (.int .i64 1)) 3, none⟩,
  ⟨some 13, .move (.tmp 26), none⟩]
def f15_l9 : LC := (.seq (.reg f15_r4 [] none) (.seq (.cond (.tmp 14) .skip (.exit 0)) (.seq (.block 1 (.seq (.reg f15_r5 [] none) (.seq (.reg f15_r6 [] (some 8)) (.cond (.tmp 25) (.seq (.reg f15_r7 [] none) .ret) .skip)))) (.reg f15_r8 [] none))))
def f15_i9 (t0 t1 t12 t13 : D) : List D := [t0, t1, .any, .any, .any, .any, .any, .any, .any, .any, .any, .any, t12, t13, .any, .any, .any, .any, .any, .any, .any, .any, .any, .any, .any, .any, .any]
def f15_r10 : List LOp := [
  ⟨some 4, .assign (.const (.bool true)), none⟩]
def f15_c : LC := (.seq (.reg f15_r0 [] none) (.seq (.seq (.reg f15_r1 [] none) (.cond (.tmp 10) (.seq (.reg f15_r2 [] none) .ret) .skip)) (.seq (.seq (.reg f15_r3 [] none) (.block 0 (.loop f15_l9))) (.seq (.reg f15_r10 [] none) .ret))))
theorem f15_lc : Try.f15.body.map lc = some f15_c.st := by kernel_rfl
theorem f15_res : Try.f15.results.toList = [.tmp 4] := by kernel_rfl
theorem f15_nt : Try.f15.ntmps = 27 := by kernel_rfl
theorem f15_nm : (Try.f15.name == "runtime.NumGoroutine") = false := by kernel_rfl

/-! quill/order.First -/
def f16_r0 : List LOp := [
  ⟨some 2, .assign (.const (.int .i64 0)), none⟩,
  ⟨some 3, .assign (.const (.bool false)), none⟩]
def f16_r1 : List LOp := [
  ⟨some 7, .move (.tmp 0), none⟩,
  ⟨some 8, .call { callee := .builtin .len, args := #[.tmp 7], argTypes := #[25] }, none⟩,
  ⟨some 9, .binOp .eql 3 (.tmp 8) (.const (.int .i64 0)) 3, none⟩]
def f16_r2 : List LOp := [
  ⟨some 2, .assign (.const (.int .i64 0)), none⟩,
  ⟨some 3, .assign (.const (.bool false)), none⟩]
def f16_r3 : List LOp := [
  ⟨some 4, .assign (.const (.int .i64 0)), none⟩]
def f16_r4 : List LOp := [
  ⟨some 10, .move (.tmp 0), none⟩,
  ⟨some 11, .call { callee := .builtin .len, args := #[.tmp 10], argTypes := #[25] }, none⟩,
  ⟨some 12, .move (.const (.int .i64 0)), none⟩]
def f16_r5 : List LOp := [
  ⟨some 13, .binOp .lss 3 (.tmp 12) (.tmp 11) 3, none⟩]
def f16_r6 : List LOp := [
  ⟨some 14, .move (.tmp 12), none⟩,
  ⟨some 15, .indexAddr 25 (.tmp 10) (.tmp 12), none⟩,
  ⟨some 16, .load 27 (.tmp 15), none⟩,
  ⟨some 6, .alloc 27, none⟩,
  ⟨some 5, .assign (.tmp 14), none⟩,
  ⟨none, .store 27 (.tmp 6) (.tmp 16), none⟩]
def f16_r7 : List LOp := [
  ⟨some 17, .load 27 (.tmp 6), none⟩,
  ⟨some 18, .move (.tmp 0), none⟩,
  ⟨some 19, .move (.tmp 4), none⟩,
  ⟨some 20, .indexAddr 25 (.tmp 18) (.tmp 19), none⟩,
  ⟨some 21, .load 27 (.tmp 20), none⟩,
  ⟨some 22, .call { callee := .value (.func 9), args := #[.tmp 17, .tmp 21], argTypes := #[27, 27] }, none⟩,
  ⟨some 23, .binOp .lss 3 (.tmp 22) (.const (.int .i64 0)) 3, none⟩]
def f16_r8 : List LOp := [
  ⟨some 24, .move (.tmp 5), none⟩,
  ⟨some 4, .assign (.tmp 24), none⟩]
def f16_r9 : List LOp := [
  ⟨some 25, .binOp .add 3 (.tmp 12) (.const (.int .i64 1)) 3, none⟩,
  ⟨some 12, .move (.tmp 25), none⟩]
def f16_l10 : LC := (.seq (.reg f16_r5 [] none) (.seq (.cond (.tmp 13) .skip (.exit 0)) (.seq (.block 1 (.seq (.reg f16_r6 [] none) (.seq (.reg f16_r7 [] (some 5)) (.cond (.tmp 23) (.reg f16_r8 [] none) .skip)))) (.reg f16_r9 [] none))))
def f16_i10 (t0 t4 t10 t11 t12 : D) : List D := [t0, .any, .any, .any, t4, .any, .any, .any, .any, .any, t10, t11, t12, .any, .any, .any, .any, .any, .any, .any, .any, .any, .any, .any, .any, .any, .any]
def f16_r11 : List LOp := [
  ⟨some 26, .move (.tmp 4), none⟩,
  ⟨some 2, .assign (.tmp 26), none⟩,
  ⟨some 3, .assign (.const (.bool true)), none⟩]
def f16_c : LC := (.seq (.reg f16_r0 [] none) (.seq (.seq (.reg f16_r1 [] none) (.cond (.tmp 9) (.seq (.reg f16_r2 [] none) .ret) .skip)) (.seq (.reg f16_r3 [] none) (.seq (.seq (.reg f16_r4 [] none) (.block 0 (.loop f16_l10))) (.seq (.reg f16_r11 [] none) .ret)))))
theorem f16_lc : Try.f16.body.map lc = some f16_c.st := by kernel_rfl
theorem f16_res : Try.f16.results.toList = [.tmp 2, .tmp 3] := by kernel_rfl
theorem f16_nt : Try.f16.ntmps = 27 := by kernel_rfl
theorem f16_nm : (Try.f16.name == "runtime.NumGoroutine") = false := by kernel_rfl

/-! quill/quillref04.Sort -/
def f17_r0 : List LOp := [
  ⟨some 2, .assign (.const (.slice none 0 0)), none⟩]
def f17_r1 : List LOp := [
  ⟨some 8, .buildSlice 25 0 #[], none⟩,
  ⟨some 3, .assign (.tmp 8), none⟩]
def f17_r2 : List LOp := [
  ⟨some 9, .move (.tmp 0), none⟩,
  ⟨some 10, .call { callee := .builtin .len, args := #[.tmp 9], argTypes := #[25] }, none⟩,
  ⟨some 11, .move (.const (.int .i64 0)), none⟩]
def f17_r3 : List LOp := [
  ⟨some 12, .binOp .lss 3 (.tmp 11) (.tmp 10) 3, none⟩]
def f17_r4 : List LOp := [
  ⟨some 13, .move (.tmp 11), none⟩,
  ⟨some 4, .assign (.tmp 13), none⟩]
def f17_r5 : List LOp := [
  ⟨some 14, .buildSlice 25 0 #[], none⟩,
  ⟨some 5, .assign (.tmp 14), none⟩]
def f17_r6 : List LOp := [
  ⟨some 6, .assign (.const (.bool false)), none⟩]
def f17_r7 : List LOp := [
  ⟨some 15, .move (.tmp 3), none⟩,
  ⟨some 16, .call { callee := .builtin .len, args := #[.tmp 15], argTypes := #[25] }, none⟩,
  ⟨some 17, .move (.const (.int .i64 0)), none⟩]
def f17_r8 : List LOp := [
  ⟨some 18, .binOp .lss 3 (.tmp 17) (.tmp 16) 3, none⟩]
def f17_r9 : List LOp := [
  ⟨some 19, .move (.tmp 17), none⟩,
  ⟨some 7, .assign (.tmp 19), none⟩]
def f17_r10 : List LOp := [
  ⟨some 20, .move (.tmp 6), none⟩,
  ⟨some 21, .unOp .not 4 (.tmp 20), none⟩,
  ⟨some 22, .move (.tmp 21), none⟩,
  ⟨some 23, .move (.tmp 0), some (2, true)⟩,
  ⟨some 24, .move (.tmp 4), some (2, true)⟩,
  ⟨some 25, .indexAddr 25 (.tmp 23) (.tmp 24), some (2, true)⟩,
  ⟨some 26, .load 27 (.tmp 25), some (2, true)⟩,
  ⟨some 27, .move (.tmp 3), some (2, true)⟩,
  ⟨some 28, .move (.tmp 7), some (2, true)⟩,
  ⟨some 29, .indexAddr 25 (.tmp 27) (.tmp 28), some (2, true)⟩,
  ⟨some 30, .load 27 (.tmp 29), some (2, true)⟩,
  ⟨some 31, .call { callee := .value (.func 10), args := #[.tmp 26, .tmp 30], argTypes := #[27, 27] }, some (2, true)⟩,
  ⟨some 32, .binOp .lss 3 (.tmp 31) (.const (.int .i64 0)) 3, some (2, true)⟩,
  ⟨some 33, .pick (.tmp 22) (.tmp 32) (.const (.bool false)), none⟩]
def f17_r11 : List LOp := [
  ⟨some 34, .move (.tmp 5), none⟩,
  ⟨some 35, .move (.tmp 0), none⟩,
  ⟨some 36, .move (.tmp 4), none⟩,
  ⟨some 37, .indexAddr 25 (.tmp 35) (.tmp 36), none⟩,
  ⟨some 38, .load 27 (.tmp 37), none⟩,
  ⟨some 39, .buildSlice 25 1 #[(0, .tmp 38)], none⟩,
  ⟨some 40, .call { callee := .builtin .append, args := #[.tmp 34, .tmp 39], argTypes := #[25, 25] }, none⟩,
  ⟨some 5, .assign (.tmp 40), none⟩]
def f17_r12 : List LOp := [
  ⟨some 6, .assign (.const (.bool true)), none⟩]
def f17_r13 : List LOp := [
  ⟨some 41, .move (.tmp 5), none⟩,
  ⟨some 42, .move (.tmp 3), none⟩,
  ⟨some 43, .move (.tmp 7), none⟩,
  ⟨some 44, .indexAddr 25 (.tmp 42) (.tmp 43), none⟩,
  ⟨some 45, .load 27 (.tmp 44), none⟩,
  ⟨some 46, .buildSlice 25 1 #[(0, .tmp 45)], none⟩,
  ⟨some 47, .call { callee := .builtin .append, args := #[.tmp 41, .tmp 46], argTypes := #[25, 25] }, none⟩,
  ⟨some 5, .assign (.tmp 47), none⟩]
def f17_r14 : List LOp := [
  ⟨some 48, .binOp .add 3 (.tmp 17) (.const (.int .i64 1)) 3, none⟩,
  ⟨some 17, .move (.tmp 48), none⟩]
def f17_l15 : LC := (.seq (.reg f17_r8 [] none) (.seq (.cond (.tmp 18) .skip (.exit 2)) (.seq (.block 3 (.seq (.reg f17_r9 [] none) (.seq (.seq (.reg f17_r10 [] (some 11)) (.cond (.tmp 33) (.seq (.reg f17_r11 [] none) (.reg f17_r12 [] none)) .skip)) (.reg f17_r13 [] none)))) (.reg f17_r14 [] none))))
def f17_i15 (t0 t3 t4 t5 t6 t10 t11 t16 t17 : D) : List D := [t0, .any, .any, t3, t4, t5, t6, .any, .any, .any, t10, t11, .any, .any, .any, .any, t16, t17, .any, .any, .any, .any, .any, .any, .any, .any, .any, .any, .any, .any, .any, .any, .any, .any, .any, .any, .any, .any, .any, .any, .any, .any, .any, .any, .any, .any, .any, .any, .any, .any, .any, .any, .any, .any, .any, .any, .any, .any, .any, .any, .any]
def f17_r16 : List LOp := [
  ⟨some 49, .move (.tmp 6), none⟩,
  ⟨some 50, .unOp .not 4 (.tmp 49), none⟩]
def f17_r17 : List LOp := [
  ⟨some 51, .move (.tmp 5), none⟩,
  ⟨some 52, .move (.tmp 0), none⟩,
  ⟨some 53, .move (.tmp 4), none⟩,
  ⟨some 54, .indexAddr 25 (.tmp 52) (.tmp 53), none⟩,
  ⟨some 55, .load 27 (.tmp 54), none⟩,
  ⟨some 56, .buildSlice 25 1 #[(0, .tmp 55)], none⟩,
  ⟨some 57, .call { callee := .builtin .append, args := #[.tmp 51, .tmp 56], argTypes := #[25, 25] }, none⟩,
  ⟨some 5, .assign (.tmp 57), none⟩]
def f17_r18 : List LOp := [
  ⟨some 58, .move (.tmp 5), none⟩,
  ⟨some 3, .assign (.tmp 58), none⟩]
def f17_r19 : List LOp := [
  ⟨some 59, .binOp .add 3 (.tmp 11) (.const (.int .i64 1)) 3, none⟩,
  ⟨some 11, .move (.tmp 59), none⟩]
def f17_l20 : LC := (.seq (.reg f17_r3 [] none) (.seq (.cond (.tmp 12) .skip (.exit 0)) (.seq (.block 1 (.seq (.reg f17_r4 [] none) (.seq (.reg f17_r5 [0] none) (.seq (.reg f17_r6 [] none) (.seq (.seq (.reg f17_r7 [] none) (.block 2 (.loop f17_l15))) (.seq (.seq (.reg f17_r16 [] none) (.cond (.tmp 50) (.reg f17_r17 [] none) .skip)) (.reg f17_r18 [] none))))))) (.reg f17_r19 [] none))))
def f17_i20 (t0 t3 t10 t11 : D) : List D := [t0, .any, .any, t3, .any, .any, .any, .any, .any, .any, t10, t11, .any, .any, .any, .any, .any, .any, .any, .any, .any, .any, .any, .any, .any, .any, .any, .any, .any, .any, .any, .any, .any, .any, .any, .any, .any, .any, .any, .any, .any, .any, .any, .any, .any, .any, .any, .any, .any, .any, .any, .any, .any, .any, .any, .any, .any, .any, .any, .any, .any]
def f17_r21 : List LOp := [
  ⟨some 60, .move (.tmp 3), none⟩,
  ⟨some 2, .assign (.tmp 60), none⟩]
def f17_c : LC := (.seq (.reg f17_r0 [] none) (.seq (.reg f17_r1 [0] none) (.seq (.seq (.reg f17_r2 [] none) (.block 0 (.loop f17_l20))) (.seq (.reg f17_r21 [] none) .ret))))
theorem f17_lc : Try.f17.body.map lc = some f17_c.st := by kernel_rfl
theorem f17_res : Try.f17.results.toList = [.tmp 2] := by kernel_rfl
theorem f17_nt : Try.f17.ntmps = 61 := by kernel_rfl
theorem f17_nm : (Try.f17.name == "runtime.NumGoroutine") = false := by kernel_rfl

/-! quill/quillref04.Once -/
def f18_r0 : List LOp := [
  ⟨some 2, .assign (.const (.slice none 0 0)), none⟩]
def f18_r1 : List LOp := [
  ⟨some 5, .buildSlice 25 0 #[], none⟩,
  ⟨some 3, .assign (.tmp 5), none⟩]
def f18_r2 : List LOp := [
  ⟨some 6, .move (.tmp 0), none⟩,
  ⟨some 7, .call { callee := .builtin .len, args := #[.tmp 6], argTypes := #[25] }, none⟩,
  ⟨some 8, .move (.const (.int .i64 0)), none⟩]
def f18_r3 : List LOp := [
  ⟨some 9, .binOp .lss 3 (.tmp 8) (.tmp 7) 3, none⟩]
def f18_r4 : List LOp := [
  ⟨some 10, .move (.tmp 8), none⟩,
  ⟨some 4, .assign (.tmp 10), none⟩]
def f18_r5 : List LOp := [
  ⟨some 11, .move (.tmp 3), none⟩,
  ⟨some 12, .move (.tmp 0), none⟩,
  ⟨some 13, .move (.tmp 4), none⟩,
  ⟨some 14, .indexAddr 25 (.tmp 12) (.tmp 13), none⟩,
  ⟨some 15, .load 27 (.tmp 14), none⟩,
  ⟨some 16, .call { callee := .value (.func 31), args := #[.tmp 11, .tmp 15], argTypes := #[25, 27] }, none⟩,
  ⟨some 17, .unOp .not 4 (.tmp 16), none⟩]
def f18_r6 : List LOp := [
  ⟨some 18, .move (.tmp 3), none⟩,
  ⟨some 19, .move (.tmp 0), none⟩,
  ⟨some 20, .move (.tmp 4), none⟩,
  ⟨some 21, .indexAddr 25 (.tmp 19) (.tmp 20), none⟩,
  ⟨some 22, .load 27 (.tmp 21), none⟩,
  ⟨some 23, .buildSlice 25 1 #[(0, .tmp 22)], none⟩,
  ⟨some 24, .call { callee := .builtin .append, args := #[.tmp 18, .tmp 23], argTypes := #[25, 25] }, none⟩,
  ⟨some 3, .assign (.tmp 24), none⟩]
def f18_r7 : List LOp := [
  ⟨some 25, .binOp .add 3 (.tmp 8) (.const (.int .i64 1)) 3, none⟩,
  ⟨some 8, .move (.tmp 25), none⟩]
def f18_l8 : LC := (.seq (.reg f18_r3 [] none) (.seq (.cond (.tmp 9) .skip (.exit 0)) (.seq (.block 1 (.seq (.reg f18_r4 [] none) (.seq (.reg f18_r5 [] none) (.cond (.tmp 17) (.reg f18_r6 [] none) .skip)))) (.reg f18_r7 [] none))))
def f18_i8 (t0 t3 t7 t8 : D) : List D := [t0, .any, .any, t3, .any, .any, .any, t7, t8, .any, .any, .any, .any, .any, .any, .any, .any, .any, .any, .any, .any, .any, .any, .any, .any, .any, .any]
def f18_r9 : List LOp := [
  ⟨some 26, .move (.tmp 3), none⟩,
  ⟨some 2, .assign (.tmp 26), none⟩]
def f18_c : LC := (.seq (.reg f18_r0 [] none) (.seq (.reg f18_r1 [0] none) (.seq (.seq (.reg f18_r2 [] none) (.block 0 (.loop f18_l8))) (.seq (.reg f18_r9 [] none) .ret))))
theorem f18_lc : Try.f18.body.map lc = some f18_c.st := by kernel_rfl
theorem f18_res : Try.f18.results.toList = [.tmp 2] := by kernel_rfl
theorem f18_nt : Try.f18.ntmps = 27 := by kernel_rfl
theorem f18_nm : (Try.f18.name == "runtime.NumGoroutine") = false := by kernel_rfl

/-! quill/quillref03.count -/
def f19_r0 : List LOp := [
  ⟨some 2, .box 27 (.tmp 0), none⟩,
  ⟨some 4, .assign (.const (.int .i64 0)), none⟩]
def f19_r1 : List LOp := [
  ⟨some 5, .assign (.const (.int .i64 1)), none⟩]
def f19_r2 : List LOp := [
  ⟨some 7, .fieldAddr 27 (.tmp 2) 2, none⟩,
  ⟨some 8, .load 25 (.tmp 7), none⟩,
  ⟨some 9, .call { callee := .builtin .len, args := #[.tmp 8], argTypes := #[25] }, none⟩,
  ⟨some 10, .move (.const (.int .i64 0)), none⟩]
def f19_r3 : List LOp := [
  ⟨some 11, .binOp .lss 3 (.tmp 10) (.tmp 9) 3, none⟩]
def f19_r4 : List LOp := [
  ⟨some 12, .move (.tmp 10), none⟩,
  ⟨some 6, .assign (.tmp 12), none⟩]
def f19_r5 : List LOp := [
  ⟨some 13, .move (.tmp 5), none⟩,
  ⟨some 14, .move (.tmp 1), none⟩,
  ⟨some 15, .binOp .gtr 3 (.tmp 13) (.tmp 14) 3, none⟩]
def f19_r6 : List LOp := [
  ⟨some 16, .move (.tmp 5), none⟩,
  ⟨some 4, .assign (.tmp 16), none⟩]
def f19_r7 : List LOp := [
  ⟨some 17, .move (.tmp 5), none⟩,
  ⟨some 18, .fieldAddr 27 (.tmp 2) 2, none⟩,
  ⟨some 19, .load 25 (.tmp 18), none⟩,
  ⟨some 20, .move (.tmp 6), none⟩,
  ⟨some 21, .indexAddr 25 (.tmp 19) (.tmp 20), none⟩,
  ⟨some 22, .load 27 (.tmp 21), none⟩,
  ⟨some 23, .move (.tmp 1), none⟩,
  ⟨some 24, .call { callee := .value (.func 19), args := #[.tmp 22, .tmp 23], argTypes := #[27, 3] }, none⟩,
  ⟨some 25, .binOp .add 3 (.tmp 17) (.tmp 24) 3, none⟩,
  ⟨some 5, .assign (.tmp 25), none⟩]
def f19_r8 : List LOp := [
  ⟨some 26, .binOp .add 3 (.tmp 10) (.const (.int .i64 1)) 3, none⟩,
  ⟨some 10, .move (.tmp 26), none⟩]
def f19_l9 : LC := (.seq (.reg f19_r3 [] none) (.seq (.cond (.tmp 11) .skip (.exit 0)) (.seq (.block 1 (.seq (.reg f19_r4 [] none) (.seq (.seq (.reg f19_r5 [] none) (.cond (.tmp 15) (.seq (.reg f19_r6 [] none) .ret) .skip)) (.reg f19_r7 [] none)))) (.reg f19_r8 [] none))))
def f19_i9 (t1 t2 t5 t9 t10 : D) : List D := [.any, t1, t2, .any, .any, t5, .any, .any, .any, t9, t10, .any, .any, .any, .any, .any, .any, .any, .any, .any, .any, .any, .any, .any, .any, .any, .any, .any]
def f19_r10 : List LOp := [
  ⟨some 27, .move (.tmp 5), none⟩,
  ⟨some 4, .assign (.tmp 27), none⟩]
def f19_c : LC := (.seq (.reg f19_r0 [] none) (.seq (.reg f19_r1 [] none) (.seq (.seq (.reg f19_r2 [] none) (.block 0 (.loop f19_l9))) (.seq (.reg f19_r10 [] none) .ret))))
theorem f19_lc : Try.f19.body.map lc = some f19_c.st := by kernel_rfl
theorem f19_res : Try.f19.results.toList = [.tmp 4] := by kernel_rfl
theorem f19_nt : Try.f19.ntmps = 28 := by kernel_rfl
theorem f19_nm : (Try.f19.name == "runtime.NumGoroutine") = false := by kernel_rfl

/-! quill/quillref03.Bare -/
def f20_r0 : List LOp := [
  ⟨some 2, .alloc 27, none⟩]
def f20_r1 : List LOp := [
  ⟨some 3, .move (.tmp 0), none⟩,
  ⟨some 4, .build 27 #[(0, .tmp 3)], none⟩,
  ⟨none, .store 27 (.tmp 2) (.tmp 4), none⟩]
def f20_c : LC := (.seq (.reg f20_r0 [] none) (.seq (.reg f20_r1 [] none) .ret))
theorem f20_lc : Try.f20.body.map lc = some f20_c.st := by kernel_rfl
theorem f20_res : Try.f20.results.toList = [.cell 2 27] := by kernel_rfl
theorem f20_nt : Try.f20.ntmps = 5 := by kernel_rfl
theorem f20_nm : (Try.f20.name == "runtime.NumGoroutine") = false := by kernel_rfl

/-! quill/quillref03.Many -/
def f21_r0 : List LOp := [
  ⟨some 1, .box 27 (.tmp 0), none⟩,
  ⟨some 2, .alloc 27, none⟩]
def f21_r1 : List LOp := [
  ⟨some 3, .load 27 (.tmp 1), none⟩,
  ⟨some 4, .buildSlice 25 1 #[(0, .tmp 3)], none⟩,
  ⟨some 5, .build 27 #[(0, .const (.int .u8 6)), (2, .tmp 4)], none⟩,
  ⟨none, .store 27 (.tmp 2) (.tmp 5), none⟩]
def f21_c : LC := (.seq (.reg f21_r0 [] none) (.seq (.reg f21_r1 [] none) .ret))
theorem f21_lc : Try.f21.body.map lc = some f21_c.st := by kernel_rfl
theorem f21_res : Try.f21.results.toList = [.cell 2 27] := by kernel_rfl
theorem f21_nt : Try.f21.ntmps = 6 := by kernel_rfl
theorem f21_nm : (Try.f21.name == "runtime.NumGoroutine") = false := by kernel_rfl

/-! cmp.Or[int] -/
def f22_r0 : List LOp := [
  ⟨some 2, .assign (.const (.int .i64 0)), none⟩]
def f22_r1 : List LOp := [
  ⟨some 3, .assign (.const (.int .i64 0)), none⟩]
def f22_r2 : List LOp := [
  ⟨some 6, .move (.tmp 0), none⟩,
  ⟨some 7, .call { callee := .builtin .len, args := #[.tmp 6], argTypes := #[54] }, none⟩,
  ⟨some 8, .move (.const (.int .i64 0)), none⟩]
def f22_r3 : List LOp := [
  ⟨some 9, .binOp .lss 3 (.tmp 8) (.tmp 7) 3, none⟩]
def f22_r4 : List LOp := [
  ⟨some 10, .indexAddr 54 (.tmp 6) (.tmp 8), none⟩,
  ⟨some 11, .load 3 (.tmp 10), none⟩,
  ⟨some 5, .assign (.tmp 11), none⟩]
def f22_r5 : List LOp := [
  ⟨some 12, .move (.tmp 5), none⟩,
  ⟨some 13, .move (.tmp 3), none⟩,
  ⟨some 14, .binOp .neq 3 (.tmp 12) (.tmp 13) 3, none⟩]
def f22_r6 : List LOp := [
  ⟨some 15, .move (.tmp 5), none⟩,
  ⟨some 2, .assign (.tmp 15), none⟩]
def f22_r7 : List LOp := [
  ⟨some 16, .binOp .add 3 (.tmp 8) (.const (.int .i64 1)) 3, none⟩,
  ⟨some 8, .move (.tmp 16), none⟩]
def f22_l8 : LC := (.seq (.reg f22_r3 [] none) (.seq (.cond (.tmp 9) .skip (.exit 0)) (.seq (.block 1 (.seq (.reg f22_r4 [] none) (.seq (.reg f22_r5 [] none) (.cond (.tmp 14) (.seq (.reg f22_r6 [] none) .ret) .skip)))) (.reg f22_r7 [] none))))
def f22_i8 (t3 t6 t7 t8 : D) : List D := [.any, .any, .any, t3, .any, .any, t6, t7, t8, .any, .any, .any, .any, .any, .any, .any, .any, .any]
def f22_r9 : List LOp := [
  ⟨some 17, .move (.tmp 3), none⟩,
  ⟨some 2, .assign (.tmp 17), none⟩]
def f22_c : LC := (.seq (.reg f22_r0 [] none) (.seq (.reg f22_r1 [] none) (.seq (.seq (.reg f22_r2 [] none) (.block 0 (.loop f22_l8))) (.seq (.reg f22_r9 [] none) .ret))))
theorem f22_lc : Try.f22.body.map lc = some f22_c.st := by kernel_rfl
theorem f22_res : Try.f22.results.toList = [.tmp 2] := by kernel_rfl
theorem f22_nt : Try.f22.ntmps = 18 := by kernel_rfl
theorem f22_nm : (Try.f22.name == "runtime.NumGoroutine") = false := by kernel_rfl

/-! cmp.Compare[uint8] -/
def f23_r0 : List LOp := [
  ⟨some 4, .assign (.const (.int .i64 0)), none⟩]
def f23_r1 : List LOp := [
  ⟨some 7, .move (.tmp 0), none⟩,
  ⟨some 8, .call { callee := .value (.func 32), args := #[.tmp 7], argTypes := #[5] }, none⟩,
  ⟨some 5, .assign (.tmp 8), none⟩]
def f23_r2 : List LOp := [
  ⟨some 9, .move (.tmp 1), none⟩,
  ⟨some 10, .call { callee := .value (.func 32), args := #[.tmp 9], argTypes := #[5] }, none⟩,
  ⟨some 6, .assign (.tmp 10), none⟩]
def f23_r3 : List LOp := [
  ⟨some 11, .move (.tmp 5), none⟩]
def f23_r4 : List LOp := [
  ⟨some 12, .move (.tmp 6), none⟩]
def f23_r5 : List LOp := [
  ⟨some 4, .assign (.const (.int .i64 0)), none⟩]
def f23_r6 : List LOp := [
  ⟨some 4, .assign (.const (.int .i64 (-1))), none⟩]
def f23_r7 : List LOp := [
  ⟨some 13, .move (.tmp 6), none⟩]
def f23_r8 : List LOp := [
  ⟨some 4, .assign (.const (.int .i64 1)), none⟩]
def f23_r9 : List LOp := [
  ⟨some 14, .move (.tmp 0), none⟩,
  ⟨some 15, .move (.tmp 1), none⟩,
  ⟨some 16, .binOp .lss 5 (.tmp 14) (.tmp 15) 5, none⟩]
def f23_r10 : List LOp := [
  ⟨some 4, .assign (.const (.int .i64 (-1))), none⟩]
def f23_r11 : List LOp := [
  ⟨some 17, .move (.tmp 0), none⟩,
  ⟨some 18, .move (.tmp 1), none⟩,
  ⟨some 19, .binOp .gtr 5 (.tmp 17) (.tmp 18) 5, none⟩]
def f23_r12 : List LOp := [
  ⟨some 4, .assign (.const (.int .i64 1)), none⟩]
def f23_r13 : List LOp := [
  ⟨some 4, .assign (.const (.int .i64 0)), none⟩]
def f23_c : LC := (.seq (.reg f23_r0 [] none) (.seq (.reg f23_r1 [] none) (.seq (.reg f23_r2 [] none) (.seq (.seq (.reg f23_r3 [] none) (.cond (.tmp 11) (.seq (.seq (.reg f23_r4 [] none) (.cond (.tmp 12) (.seq (.reg f23_r5 [] none) .ret) .skip)) (.seq (.reg f23_r6 [] none) .ret)) .skip)) (.seq (.seq (.reg f23_r7 [] none) (.cond (.tmp 13) (.seq (.reg f23_r8 [] none) .ret) .skip)) (.seq (.seq (.reg f23_r9 [] none) (.cond (.tmp 16) (.seq (.reg f23_r10 [] none) .ret) .skip)) (.seq (.seq (.reg f23_r11 [] none) (.cond (.tmp 19) (.seq (.reg f23_r12 [] none) .ret) .skip)) (.seq (.reg f23_r13 [] none) .ret))))))))
theorem f23_lc : Try.f23.body.map lc = some f23_c.st := by kernel_rfl
theorem f23_res : Try.f23.results.toList = [.tmp 4] := by kernel_rfl
theorem f23_nt : Try.f23.ntmps = 20 := by kernel_rfl
theorem f23_nm : (Try.f23.name == "runtime.NumGoroutine") = false := by kernel_rfl

/-! quill/set.Order -/
def f24_r0 : List LOp := [
  ⟨some 2, .box 24 (.tmp 0), none⟩,
  ⟨some 3, .box 24 (.tmp 1), none⟩,
  ⟨some 4, .assign (.const (.int .i64 0)), none⟩]
def f24_r1 : List LOp := [
  ⟨some 5, .slice 24 (.tmp 2) none none none, none⟩,
  ⟨some 6, .slice 24 (.tmp 3) none none none, none⟩,
  ⟨some 7, .call { callee := .value (.func 33), args := #[.tmp 5, .tmp 6, .func 34], argTypes := #[57, 57, 58] }, none⟩,
  ⟨some 4, .assign (.tmp 7), none⟩]
def f24_c : LC := (.seq (.reg f24_r0 [] none) (.seq (.reg f24_r1 [] (some 2)) .ret))
theorem f24_lc : Try.f24.body.map lc = some f24_c.st := by kernel_rfl
theorem f24_res : Try.f24.results.toList = [.tmp 4] := by kernel_rfl
theorem f24_nt : Try.f24.ntmps = 8 := by kernel_rfl
theorem f24_nm : (Try.f24.name == "runtime.NumGoroutine") = false := by kernel_rfl

/-! slices.CompareFunc[[]quill/api.Re,[]quill/api.Re,quill/api.Re,quill/api.Re] -/
def f25_r0 : List LOp := [
  ⟨some 6, .assign (.const (.int .i64 0)), none⟩]
def f25_r1 : List LOp := [
  ⟨some 11, .move (.tmp 0), none⟩,
  ⟨some 12, .call { callee := .builtin .len, args := #[.tmp 11], argTypes := #[25] }, none⟩,
  ⟨some 13, .move (.const (.int .i64 0)), none⟩]
def f25_r2 : List LOp := [
  ⟨some 14, .binOp .lss 3 (.tmp 13) (.tmp 12) 3, none⟩]
def f25_r3 : List LOp := [
  ⟨some 15, .move (.tmp 13), none⟩,
  ⟨some 16, .indexAddr 25 (.tmp 11) (.tmp 13), none⟩,
  ⟨some 17, .load 27 (.tmp 16), none⟩,
  ⟨some 8, .alloc 27, none⟩,
  ⟨some 7, .assign (.tmp 15), none⟩,
  ⟨none, .store 27 (.tmp 8) (.tmp 17), none⟩]
def f25_r4 : List LOp := [
  ⟨some 18, .move (.tmp 7), none⟩,
  ⟨some 19, .move (.tmp 1), none⟩,
  ⟨some 20, .call { callee := .builtin .len, args := #[.tmp 19], argTypes := #[25] }, none⟩,
  ⟨some 21, .binOp .geq 3 (.tmp 18) (.tmp 20) 3, none⟩]
def f25_r5 : List LOp := [
  ⟨some 6, .assign (.const (.int .i64 1)), none⟩]
def f25_r6 : List LOp := [
  ⟨some 22, .move (.tmp 1), none⟩,
  ⟨some 23, .move (.tmp 7), none⟩,
  ⟨some 24, .indexAddr 25 (.tmp 22) (.tmp 23), none⟩,
  ⟨some 25, .load 27 (.tmp 24), none⟩,
  ⟨some 9, .alloc 27, none⟩,
  ⟨none, .store 27 (.tmp 9) (.tmp 25), none⟩]
def f25_r7 : List LOp := [
  ⟨some 26, .move (.tmp 2), none⟩,
  ⟨some 27, .load 27 (.tmp 8), none⟩,
  ⟨some 28, .load 27 (.tmp 9), none⟩,
  ⟨some 29, .call { callee := .value (.tmp 26), args := #[.tmp 27, .tmp 28], argTypes := #[27, 27] }, none⟩,
  ⟨some 10, .assign (.tmp 29), none⟩]
def f25_r8 : List LOp := [
  ⟨some 30, .move (.tmp 10), none⟩,
  ⟨some 31, .binOp .neq 3 (.tmp 30) (.const (.int .i64 0)) 3, none⟩]
def f25_r9 : List LOp := [
  ⟨some 32, .move (.tmp 10), none⟩,
  ⟨some 6, .assign (.tmp 32), none⟩]
def f25_r10 : List LOp := [
  ⟨some 33, .binOp .add 3 (.tmp 13) (.const (.int .i64 1)) 3, none⟩,
  ⟨some 13, .move (.tmp 33), none⟩]
def f25_l11 : LC := (.seq (.reg f25_r2 [] none) (.seq (.cond (.tmp 14) .skip (.exit 0)) (.seq (.block 1 (.seq (.reg f25_r3 [] none) (.seq (.seq (.reg f25_r4 [] none) (.cond (.tmp 21) (.seq (.reg f25_r5 [] none) .ret) .skip)) (.seq (.reg f25_r6 [] none) (.seq (.reg f25_r7 [] none) (.seq (.reg f25_r8 [] none) (.cond (.tmp 31) (.seq (.reg f25_r9 [] none) .ret) .skip))))))) (.reg f25_r10 [] none))))
def f25_i11 (t0 t1 t2 t11 t12 t13 : D) : List D := [t0, t1, t2, .any, .any, .any, .any, .any, .any, .any, .any, t11, t12, t13, .any, .any, .any, .any, .any, .any, .any, .any, .any, .any, .any, .any, .any, .any, .any, .any, .any, .any, .any, .any, .any, .any, .any, .any, .any]
def f25_r12 : List LOp := [
  ⟨some 34, .move (.tmp 0), none⟩,
  ⟨some 35, .call { callee := .builtin .len, args := #[.tmp 34], argTypes := #[25] }, none⟩,
  ⟨some 36, .move (.tmp 1), none⟩,
  ⟨some 37, .call { callee := .builtin .len, args := #[.tmp 36], argTypes := #[25] }, none⟩,
  ⟨some 38, .binOp .lss 3 (.tmp 35) (.tmp 37) 3, none⟩]
def f25_r13 : List LOp := [
  ⟨some 6, .assign (.const (.int .i64 (-1))), none⟩]
def f25_r14 : List LOp := [
  ⟨some 6, .assign (.const (.int .i64 0)), none⟩]
def f25_c : LC := (.seq (.reg f25_r0 [] none) (.seq (.seq (.reg f25_r1 [] none) (.block 0 (.loop f25_l11))) (.seq (.seq (.reg f25_r12 [] none) (.cond (.tmp 38) (.seq (.reg f25_r13 [] none) .ret) .skip)) (.seq (.reg f25_r14 [] none) .ret))))
theorem f25_lc : Try.f25.body.map lc = some f25_c.st := by kernel_rfl
theorem f25_res : Try.f25.results.toList = [.tmp 6] := by kernel_rfl
theorem f25_nt : Try.f25.ntmps = 39 := by kernel_rfl
theorem f25_nm : (Try.f25.name == "runtime.NumGoroutine") = false := by kernel_rfl

/-! quill/quillref02.Order -/
def f26_r0 : List LOp := [
  ⟨some 2, .box 24 (.tmp 0), none⟩,
  ⟨some 3, .box 24 (.tmp 1), none⟩,
  ⟨some 4, .assign (.const (.int .i64 0)), none⟩]
def f26_r1 : List LOp := [
  ⟨some 5, .assign (.const (.int .i64 0)), none⟩]
def f26_r2 : List LOp := [
  ⟨some 6, .move (.tmp 5), none⟩,
  ⟨some 7, .binOp .lss 3 (.tmp 6) (.const (.int .i64 4)) 3, none⟩]
def f26_r3 : List LOp := [
  ⟨some 10, .move (.tmp 5), none⟩,
  ⟨some 11, .indexAddr 24 (.tmp 2) (.tmp 10), none⟩,
  ⟨some 12, .load 22 (.tmp 11), none⟩,
  ⟨some 13, .move (.tmp 5), none⟩,
  ⟨some 14, .indexAddr 24 (.tmp 3) (.tmp 13), none⟩,
  ⟨some 15, .load 22 (.tmp 14), none⟩,
  ⟨some 16, .binOp .lss 22 (.tmp 12) (.tmp 15) 22, none⟩]
def f26_r4 : List LOp := [
  ⟨some 4, .assign (.const (.int .i64 (-1))), none⟩]
def f26_r5 : List LOp := [
  ⟨some 17, .move (.tmp 5), none⟩,
  ⟨some 18, .indexAddr 24 (.tmp 2) (.tmp 17), none⟩,
  ⟨some 19, .load 22 (.tmp 18), none⟩,
  ⟨some 20, .move (.tmp 5), none⟩,
  ⟨some 21, .indexAddr 24 (.tmp 3) (.tmp 20), none⟩,
  ⟨some 22, .load 22 (.tmp 21), none⟩,
  ⟨some 23, .binOp .gtr 22 (.tmp 19) (.tmp 22) 22, none⟩]
def f26_r6 : List LOp := [
  ⟨some 4, .assign (.const (.int .i64 1)), none⟩]
def f26_r7 : List LOp := [
  ⟨some 8, .move (.tmp 5), none⟩,
  ⟨some 9, .binOp .add 3 (.tmp 8) (.const (.int .i64 1)) 3, none⟩,
  ⟨some 5, .assign (.tmp 9), none⟩]
def f26_l8 : LC := (.seq (.seq (.reg f26_r2 [] none) (.cond (.tmp 7) .skip (.exit 0))) (.seq (.block 1 (.seq (.seq (.reg f26_r3 [] (some 6)) (.cond (.tmp 16) (.seq (.reg f26_r4 [] none) .ret) .skip)) (.seq (.reg f26_r5 [] (some 6)) (.cond (.tmp 23) (.seq (.reg f26_r6 [] none) .ret) .skip)))) (.reg f26_r7 [] none)))
def f26_i8 (t2 t3 t5 : D) : List D := [.any, .any, t2, t3, .any, t5, .any, .any, .any, .any, .any, .any, .any, .any, .any, .any, .any, .any, .any, .any, .any, .any, .any, .any]
def f26_r9 : List LOp := [
  ⟨some 4, .assign (.const (.int .i64 0)), none⟩]
def f26_c : LC := (.seq (.reg f26_r0 [] none) (.seq (.seq (.reg f26_r1 [] none) (.block 0 (.loop f26_l8))) (.seq (.reg f26_r9 [] none) .ret)))
theorem f26_lc : Try.f26.body.map lc = some f26_c.st := by kernel_rfl
theorem f26_res : Try.f26.results.toList = [.tmp 4] := by kernel_rfl
theorem f26_nt : Try.f26.ntmps = 24 := by kernel_rfl
theorem f26_nm : (Try.f26.name == "runtime.NumGoroutine") = false := by kernel_rfl

/-! slices.SortedStableFunc[quill/api.Re] -/
def f27_r0 : List LOp := [
  ⟨some 4, .assign (.const (.slice none 0 0)), none⟩]
def f27_r1 : List LOp := [
  ⟨some 6, .move (.tmp 0), none⟩,
  ⟨some 7, .call { callee := .value (.func 35), args := #[.tmp 6], argTypes := #[49] }, none⟩,
  ⟨some 5, .assign (.tmp 7), none⟩]
def f27_r2 : List LOp := [
  ⟨some 8, .move (.tmp 5), none⟩,
  ⟨some 9, .move (.tmp 1), none⟩,
  ⟨some 10, .call { callee := .value (.func 36), args := #[.tmp 8, .tmp 9], argTypes := #[25, 30] }, none⟩]
def f27_r3 : List LOp := [
  ⟨some 11, .move (.tmp 5), none⟩,
  ⟨some 4, .assign (.tmp 11), none⟩]
def f27_c : LC := (.seq (.reg f27_r0 [] none) (.seq (.reg f27_r1 [] none) (.seq (.reg f27_r2 [] none) (.seq (.reg f27_r3 [] none) .ret))))
theorem f27_lc : Try.f27.body.map lc = some f27_c.st := by kernel_rfl
theorem f27_res : Try.f27.results.toList = [.tmp 4] := by kernel_rfl
theorem f27_nt : Try.f27.ntmps = 12 := by kernel_rfl
theorem f27_nm : (Try.f27.name == "runtime.NumGoroutine") = false := by kernel_rfl

/-! slices.Values[[]quill/api.Re,quill/api.Re] -/
def f28_r0 : List LOp := [
  ⟨some 1, .box 25 (.tmp 0), none⟩,
  ⟨some 2, .assign (.const .nilFunc), none⟩]
def f28_r1 : List LOp := [
  ⟨some 3, .makeFunc (.func 37) #[] #[.tmp 1], none⟩,
  ⟨some 2, .assign (.tmp 3), none⟩]
def f28_c : LC := (.seq (.reg f28_r0 [] none) (.seq (.reg f28_r1 [] none) .ret))
theorem f28_lc : Try.f28.body.map lc = some f28_c.st := by kernel_rfl
theorem f28_res : Try.f28.results.toList = [.tmp 2] := by kernel_rfl
theorem f28_nt : Try.f28.ntmps = 4 := by kernel_rfl
theorem f28_nm : (Try.f28.name == "runtime.NumGoroutine") = false := by kernel_rfl

/-! slices.ContainsFunc[[]quill/api.Re,quill/api.Re] -/
def f29_r0 : List LOp := [
  ⟨some 4, .assign (.const (.bool false)), none⟩]
def f29_r1 : List LOp := [
  ⟨some 5, .move (.tmp 0), none⟩,
  ⟨some 6, .move (.tmp 1), none⟩,
  ⟨some 7, .call { callee := .value (.func 38), args := #[.tmp 5, .tmp 6], argTypes := #[25, 52] }, none⟩,
  ⟨some 8, .binOp .geq 3 (.tmp 7) (.const (.int .i64 0)) 3, none⟩,
  ⟨some 4, .assign (.tmp 8), none⟩]
def f29_c : LC := (.seq (.reg f29_r0 [] none) (.seq (.reg f29_r1 [] none) .ret))
theorem f29_lc : Try.f29.body.map lc = some f29_c.st := by kernel_rfl
theorem f29_res : Try.f29.results.toList = [.tmp 4] := by kernel_rfl
theorem f29_nt : Try.f29.ntmps = 9 := by kernel_rfl
theorem f29_nm : (Try.f29.name == "runtime.NumGoroutine") = false := by kernel_rfl

/-! quill/order.Once$1 -/
def f30_r0 : List LOp := [
  ⟨some 2, .box 27 (.tmp 0), none⟩,
  ⟨some 3, .assign (.const (.bool false)), none⟩]
def f30_r1 : List LOp := [
  ⟨some 4, .load 27 (.tmp 2), none⟩,
  ⟨some 5, .load 27 (.tmp 1), none⟩,
  ⟨some 6, .call { callee := .value (.func 9), args := #[.tmp 4, .tmp 5], argTypes := #[27, 27] }, none⟩,
  ⟨some 7, .binOp .eql 3 (.tmp 6) (.const (.int .i64 0)) 3, none⟩,
  ⟨some 3, .assign (.tmp 7), none⟩]
def f30_c : LC := (.seq (.reg f30_r0 [] none) (.seq (.reg f30_r1 [] none) .ret))
theorem f30_lc : Try.f30.body.map lc = some f30_c.st := by kernel_rfl
theorem f30_res : Try.f30.results.toList = [.tmp 3] := by kernel_rfl
theorem f30_nt : Try.f30.ntmps = 8 := by kernel_rfl
theorem f30_nm : (Try.f30.name == "runtime.NumGoroutine") = false := by kernel_rfl

/-! quill/quillref04.In -/
def f31_r0 : List LOp := [
  ⟨some 3, .box 27 (.tmp 1), none⟩,
  ⟨some 4, .assign (.const (.bool false)), none⟩]
def f31_r1 : List LOp := [
  ⟨some 6, .move (.tmp 0), none⟩,
  ⟨some 7, .call { callee := .builtin .len, args := #[.tmp 6], argTypes := #[25] }, none⟩,
  ⟨some 8, .move (.const (.int .i64 0)), none⟩]
def f31_r2 : List LOp := [
  ⟨some 9, .binOp .lss 3 (.tmp 8) (.tmp 7) 3, none⟩]
def f31_r3 : List LOp := [
  ⟨some 10, .move (.tmp 8), none⟩,
  ⟨some 5, .assign (.tmp 10), none⟩]
def f31_r4 : List LOp := [
  ⟨some 11, .move (.tmp 0), none⟩,
  ⟨some 12, .move (.tmp 5), none⟩,
  ⟨some 13, .indexAddr 25 (.tmp 11) (.tmp 12), none⟩,
  ⟨some 14, .load 27 (.tmp 13), none⟩,
  ⟨some 15, .load 27 (.tmp 3), none⟩,
  ⟨some 16, .call { callee := .value (.func 11), args := #[.tmp 14, .tmp 15], argTypes := #[27, 27] }, none⟩]
def f31_r5 : List LOp := [
  ⟨some 4, .assign (.const (.bool true)), none⟩]
def f31_r6 : List LOp := [
  ⟨some 17, .binOp .add 3 (.tmp 8) (.const (.int .i64 1)) 3, none⟩,
  ⟨some 8, .move (.tmp 17), none⟩]
def f31_l7 : LC := (.seq (.reg f31_r2 [] none) (.seq (.cond (.tmp 9) .skip (.exit 0)) (.seq (.block 1 (.seq (.reg f31_r3 [] none) (.seq (.reg f31_r4 [] (some 5)) (.cond (.tmp 16) (.seq (.reg f31_r5 [] none) .ret) .skip)))) (.reg f31_r6 [] none))))
def f31_i7 (t0 t3 t7 t8 : D) : List D := [t0, .any, .any, t3, .any, .any, .any, t7, t8, .any, .any, .any, .any, .any, .any, .any, .any, .any]
def f31_r8 : List LOp := [
  ⟨some 4, .assign (.const (.bool false)), none⟩]
def f31_c : LC := (.seq (.reg f31_r0 [] none) (.seq (.seq (.reg f31_r1 [] none) (.block 0 (.loop f31_l7))) (.seq (.reg f31_r8 [] none) .ret)))
theorem f31_lc : Try.f31.body.map lc = some f31_c.st := by kernel_rfl
theorem f31_res : Try.f31.results.toList = [.tmp 4] := by kernel_rfl
theorem f31_nt : Try.f31.ntmps = 18 := by kernel_rfl
theorem f31_nm : (Try.f31.name == "runtime.NumGoroutine") = false := by kernel_rfl

/-! cmp.isNaN[uint8] -/
def f32_r0 : List LOp := [
  ⟨some 2, .assign (.const (.bool false)), none⟩]
def f32_r1 : List LOp := [
  ⟨some 3, .move (.tmp 0), none⟩,
  ⟨some 4, .move (.tmp 0), none⟩,
  ⟨some 5, .binOp .neq 5 (.tmp 3) (.tmp 4) 5, none⟩,
  ⟨some 2, .assign (.tmp 5), none⟩]
def f32_c : LC := (.seq (.reg f32_r0 [] none) (.seq (.reg f32_r1 [] none) .ret))
theorem f32_lc : Try.f32.body.map lc = some f32_c.st := by kernel_rfl
theorem f32_res : Try.f32.results.toList = [.tmp 2] := by kernel_rfl
theorem f32_nt : Try.f32.ntmps = 6 := by kernel_rfl
theorem f32_nm : (Try.f32.name == "runtime.NumGoroutine") = false := by kernel_rfl

/-! slices.CompareFunc[[]uint64,[]uint64,uint64,uint64] -/
def f33_r0 : List LOp := [
  ⟨some 6, .assign (.const (.int .i64 0)), none⟩]
def f33_r1 : List LOp := [
  ⟨some 11, .move (.tmp 0), none⟩,
  ⟨some 12, .call { callee := .builtin .len, args := #[.tmp 11], argTypes := #[57] }, none⟩,
  ⟨some 13, .move (.const (.int .i64 0)), none⟩]
def f33_r2 : List LOp := [
  ⟨some 14, .binOp .lss 3 (.tmp 13) (.tmp 12) 3, none⟩]
def f33_r3 : List LOp := [
  ⟨some 15, .move (.tmp 13), none⟩,
  ⟨some 16, .indexAddr 57 (.tmp 11) (.tmp 13), none⟩,
  ⟨some 17, .load 22 (.tmp 16), none⟩,
  ⟨some 7, .assign (.tmp 15), none⟩,
  ⟨some 8, .assign (.tmp 17), none⟩]
def f33_r4 : List LOp := [
  ⟨some 18, .move (.tmp 7), none⟩,
  ⟨some 19, .move (.tmp 1), none⟩,
  ⟨some 20, .call { callee := .builtin .len, args := #[.tmp 19], argTypes := #[57] }, none⟩,
  ⟨some 21, .binOp .geq 3 (.tmp 18) (.tmp 20) 3, none⟩]
def f33_r5 : List LOp := [
  ⟨some 6, .assign (.const (.int .i64 1)), none⟩]
def f33_r6 : List LOp := [
  ⟨some 22, .move (.tmp 1), none⟩,
  ⟨some 23, .move (.tmp 7), none⟩,
  ⟨some 24, .indexAddr 57 (.tmp 22) (.tmp 23), none⟩,
  ⟨some 25, .load 22 (.tmp 24), none⟩,
  ⟨some 9, .assign (.tmp 25), none⟩]
def f33_r7 : List LOp := [
  ⟨some 26, .move (.tmp 2), none⟩,
  ⟨some 27, .move (.tmp 8), none⟩,
  ⟨some 28, .move (.tmp 9), none⟩,
  ⟨some 29, .call { callee := .value (.tmp 26), args := #[.tmp 27, .tmp 28], argTypes := #[22, 22] }, none⟩,
  ⟨some 10, .assign (.tmp 29), none⟩]
def f33_r8 : List LOp := [
  ⟨some 30, .move (.tmp 10), none⟩,
  ⟨some 31, .binOp .neq 3 (.tmp 30) (.const (.int .i64 0)) 3, none⟩]
def f33_r9 : List LOp := [
  ⟨some 32, .move (.tmp 10), none⟩,
  ⟨some 6, .assign (.tmp 32), none⟩]
def f33_r10 : List LOp := [
  ⟨some 33, .binOp .add 3 (.tmp 13) (.const (.int .i64 1)) 3, none⟩,
  ⟨some 13, .move (.tmp 33), none⟩]
def f33_l11 : LC := (.seq (.reg f33_r2 [] none) (.seq (.cond (.tmp 14) .skip (.exit 0)) (.seq (.block 1 (.seq (.reg f33_r3 [] none) (.seq (.seq (.reg f33_r4 [] none) (.cond (.tmp 21) (.seq (.reg f33_r5 [] none) .ret) .skip)) (.seq (.reg f33_r6 [] none) (.seq (.reg f33_r7 [] none) (.seq (.reg f33_r8 [] none) (.cond (.tmp 31) (.seq (.reg f33_r9 [] none) .ret) .skip))))))) (.reg f33_r10 [] none))))
def f33_i11 (t0 t1 t2 t11 t12 t13 : D) : List D := [t0, t1, t2, .any, .any, .any, .any, .any, .any, .any, .any, t11, t12, t13, .any, .any, .any, .any, .any, .any, .any, .any, .any, .any, .any, .any, .any, .any, .any, .any, .any, .any, .any, .any, .any, .any, .any, .any, .any]
def f33_r12 : List LOp := [
  ⟨some 34, .move (.tmp 0), none⟩,
  ⟨some 35, .call { callee := .builtin .len, args := #[.tmp 34], argTypes := #[57] }, none⟩,
  ⟨some 36, .move (.tmp 1), none⟩,
  ⟨some 37, .call { callee := .builtin .len, args := #[.tmp 36], argTypes := #[57] }, none⟩,
  ⟨some 38, .binOp .lss 3 (.tmp 35) (.tmp 37) 3, none⟩]
def f33_r13 : List LOp := [
  ⟨some 6, .assign (.const (.int .i64 (-1))), none⟩]
def f33_r14 : List LOp := [
  ⟨some 6, .assign (.const (.int .i64 0)), none⟩]
def f33_c : LC := (.seq (.reg f33_r0 [] none) (.seq (.seq (.reg f33_r1 [] none) (.block 0 (.loop f33_l11))) (.seq (.seq (.reg f33_r12 [] none) (.cond (.tmp 38) (.seq (.reg f33_r13 [] none) .ret) .skip)) (.seq (.reg f33_r14 [] none) .ret))))
theorem f33_lc : Try.f33.body.map lc = some f33_c.st := by kernel_rfl
theorem f33_res : Try.f33.results.toList = [.tmp 6] := by kernel_rfl
theorem f33_nt : Try.f33.ntmps = 39 := by kernel_rfl
theorem f33_nm : (Try.f33.name == "runtime.NumGoroutine") = false := by kernel_rfl

/-! cmp.Compare[uint64] -/
def f34_r0 : List LOp := [
  ⟨some 4, .assign (.const (.int .i64 0)), none⟩]
def f34_r1 : List LOp := [
  ⟨some 7, .move (.tmp 0), none⟩,
  ⟨some 8, .call { callee := .value (.func 39), args := #[.tmp 7], argTypes := #[22] }, none⟩,
  ⟨some 5, .assign (.tmp 8), none⟩]
def f34_r2 : List LOp := [
  ⟨some 9, .move (.tmp 1), none⟩,
  ⟨some 10, .call { callee := .value (.func 39), args := #[.tmp 9], argTypes := #[22] }, none⟩,
  ⟨some 6, .assign (.tmp 10), none⟩]
def f34_r3 : List LOp := [
  ⟨some 11, .move (.tmp 5), none⟩]
def f34_r4 : List LOp := [
  ⟨some 12, .move (.tmp 6), none⟩]
def f34_r5 : List LOp := [
  ⟨some 4, .assign (.const (.int .i64 0)), none⟩]
def f34_r6 : List LOp := [
  ⟨some 4, .assign (.const (.int .i64 (-1))), none⟩]
def f34_r7 : List LOp := [
  ⟨some 13, .move (.tmp 6), none⟩]
def f34_r8 : List LOp := [
  ⟨some 4, .assign (.const (.int .i64 1)), none⟩]
def f34_r9 : List LOp := [
  ⟨some 14, .move (.tmp 0), none⟩,
  ⟨some 15, .move (.tmp 1), none⟩,
  ⟨some 16, .binOp .lss 22 (.tmp 14) (.tmp 15) 22, none⟩]
def f34_r10 : List LOp := [
  ⟨some 4, .assign (.const (.int .i64 (-1))), none⟩]
def f34_r11 : List LOp := [
  ⟨some 17, .move (.tmp 0), none⟩,
  ⟨some 18, .move (.tmp 1), none⟩,
  ⟨some 19, .binOp .gtr 22 (.tmp 17) (.tmp 18) 22, none⟩]
def f34_r12 : List LOp := [
  ⟨some 4, .assign (.const (.int .i64 1)), none⟩]
def f34_r13 : List LOp := [
  ⟨some 4, .assign (.const (.int .i64 0)), none⟩]
def f34_c : LC := (.seq (.reg f34_r0 [] none) (.seq (.reg f34_r1 [] none) (.seq (.reg f34_r2 [] none) (.seq (.seq (.reg f34_r3 [] none) (.cond (.tmp 11) (.seq (.seq (.reg f34_r4 [] none) (.cond (.tmp 12) (.seq (.reg f34_r5 [] none) .ret) .skip)) (.seq (.reg f34_r6 [] none) .ret)) .skip)) (.seq (.seq (.reg f34_r7 [] none) (.cond (.tmp 13) (.seq (.reg f34_r8 [] none) .ret) .skip)) (.seq (.seq (.reg f34_r9 [] none) (.cond (.tmp 16) (.seq (.reg f34_r10 [] none) .ret) .skip)) (.seq (.seq (.reg f34_r11 [] none) (.cond (.tmp 19) (.seq (.reg f34_r12 [] none) .ret) .skip)) (.seq (.reg f34_r13 [] none) .ret))))))))
theorem f34_lc : Try.f34.body.map lc = some f34_c.st := by kernel_rfl
theorem f34_res : Try.f34.results.toList = [.tmp 4] := by kernel_rfl
theorem f34_nt : Try.f34.ntmps = 20 := by kernel_rfl
theorem f34_nm : (Try.f34.name == "runtime.NumGoroutine") = false := by kernel_rfl

/-! slices.Collect[quill/api.Re] -/
def f35_r0 : List LOp := [
  ⟨some 2, .assign (.const (.slice none 0 0)), none⟩]
def f35_r1 : List LOp := [
  ⟨some 3, .move (.tmp 0), none⟩,
  ⟨some 4, .call { callee := .value (.func 40), args := #[.const (.slice none 0 0), .tmp 3], argTypes := #[25, 49] }, none⟩,
  ⟨some 2, .assign (.tmp 4), none⟩]
def f35_c : LC := (.seq (.reg f35_r0 [] none) (.seq (.reg f35_r1 [] none) .ret))
theorem f35_lc : Try.f35.body.map lc = some f35_c.st := by kernel_rfl
theorem f35_res : Try.f35.results.toList = [.tmp 2] := by kernel_rfl
theorem f35_nt : Try.f35.ntmps = 5 := by kernel_rfl
theorem f35_nm : (Try.f35.name == "runtime.NumGoroutine") = false := by kernel_rfl

/-! slices.SortStableFunc[[]quill/api.Re,quill/api.Re] -/
def f36_r0 : List LOp := [
  ⟨some 4, .move (.tmp 0), none⟩,
  ⟨some 5, .move (.tmp 0), none⟩,
  ⟨some 6, .call { callee := .builtin .len, args := #[.tmp 5], argTypes := #[25] }, none⟩,
  ⟨some 7, .move (.tmp 1), none⟩,
  ⟨some 8, .call { callee := .value (.func 41), args := #[.tmp 4, .tmp 6, .tmp 7], argTypes := #[25, 3, 30] }, none⟩]
def f36_c : LC := (.reg f36_r0 [] none)
theorem f36_lc : Try.f36.body.map lc = some f36_c.st := by kernel_rfl
theorem f36_res : Try.f36.results.toList = [] := by kernel_rfl
theorem f36_nt : Try.f36.ntmps = 9 := by kernel_rfl
theorem f36_nm : (Try.f36.name == "runtime.NumGoroutine") = false := by kernel_rfl

/-! slices.Values[[]quill/api.Re,quill/api.Re]$1 -/
def f37_r0 : List LOp := [
  ⟨some 5, .load 25 (.tmp 1), none⟩,
  ⟨some 6, .call { callee := .builtin .len, args := #[.tmp 5], argTypes := #[25] }, none⟩,
  ⟨some 7, .move (.const (.int .i64 0)), none⟩]
def f37_r1 : List LOp := [
  ⟨some 8, .binOp .lss 3 (.tmp 7) (.tmp 6) 3, none⟩]
def f37_r2 : List LOp := [
  ⟨some 9, .indexAddr 25 (.tmp 5) (.tmp 7), none⟩,
  ⟨some 10, .load 27 (.tmp 9), none⟩,
  ⟨some 4, .alloc 27, none⟩,
  ⟨none, .store 27 (.tmp 4) (.tmp 10), none⟩]
def f37_r3 : List LOp := [
  ⟨some 11, .move (.tmp 0), none⟩,
  ⟨some 12, .load 27 (.tmp 4), none⟩,
  ⟨some 13, .call { callee := .value (.tmp 11), args := #[.tmp 12], argTypes := #[27] }, none⟩,
  ⟨some 14, .unOp .not 4 (.tmp 13), none⟩]
def f37_r4 : List LOp := [
  ⟨some 15, .binOp .add 3 (.tmp 7) (.const (.int .i64 1)) 3, none⟩,
  ⟨some 7, .move (.tmp 15), none⟩]
def f37_l5 : LC := (.seq (.reg f37_r1 [] none) (.seq (.cond (.tmp 8) .skip (.exit 0)) (.seq (.block 1 (.seq (.reg f37_r2 [] none) (.seq (.reg f37_r3 [] none) (.cond (.tmp 14) .ret .skip)))) (.reg f37_r4 [] none))))
def f37_i5 (t0 t5 t6 t7 : D) : List D := [t0, .any, .any, .any, .any, t5, t6, t7, .any, .any, .any, .any, .any, .any, .any, .any]
def f37_c : LC := (.seq (.reg f37_r0 [] none) (.block 0 (.loop f37_l5)))
theorem f37_lc : Try.f37.body.map lc = some f37_c.st := by kernel_rfl
theorem f37_res : Try.f37.results.toList = [] := by kernel_rfl
theorem f37_nt : Try.f37.ntmps = 16 := by kernel_rfl
theorem f37_nm : (Try.f37.name == "runtime.NumGoroutine") = false := by kernel_rfl

/-! slices.IndexFunc[[]quill/api.Re,quill/api.Re] -/
def f38_r0 : List LOp := [
  ⟨some 4, .assign (.const (.int .i64 0)), none⟩]
def f38_r1 : List LOp := [
  ⟨some 6, .move (.tmp 0), none⟩,
  ⟨some 7, .call { callee := .builtin .len, args := #[.tmp 6], argTypes := #[25] }, none⟩,
  ⟨some 8, .move (.const (.int .i64 0)), none⟩]
def f38_r2 : List LOp := [
  ⟨some 9, .binOp .lss 3 (.tmp 8) (.tmp 7) 3, none⟩]
def f38_r3 : List LOp := [
  ⟨some 10, .move (.tmp 8), none⟩,
  ⟨some 5, .assign (.tmp 10), none⟩]
def f38_r4 : List LOp := [
  ⟨some 11, .move (.tmp 1), none⟩,
  ⟨some 12, .move (.tmp 0), none⟩,
  ⟨some 13, .move (.tmp 5), none⟩,
  ⟨some 14, .indexAddr 25 (.tmp 12) (.tmp 13), none⟩,
  ⟨some 15, .load 27 (.tmp 14), none⟩,
  ⟨some 16, .call { callee := .value (.tmp 11), args := #[.tmp 15], argTypes := #[27] }, none⟩]
def f38_r5 : List LOp := [
  ⟨some 17, .move (.tmp 5), none⟩,
  ⟨some 4, .assign (.tmp 17), none⟩]
def f38_r6 : List LOp := [
  ⟨some 18, .binOp .add 3 (.tmp 8) (.const (.int .i64 1)) 3, none⟩,
  ⟨some 8, .move (.tmp 18), none⟩]
def f38_l7 : LC := (.seq (.reg f38_r2 [] none) (.seq (.cond (.tmp 9) .skip (.exit 0)) (.seq (.block 1 (.seq (.reg f38_r3 [] none) (.seq (.reg f38_r4 [] none) (.cond (.tmp 16) (.seq (.reg f38_r5 [] none) .ret) .skip)))) (.reg f38_r6 [] none))))
def f38_i7 (t0 t1 t7 t8 : D) : List D := [t0, t1, .any, .any, .any, .any, .any, t7, t8, .any, .any, .any, .any, .any, .any, .any, .any, .any, .any]
def f38_r8 : List LOp := [
  ⟨some 4, .assign (.const (.int .i64 (-1))), none⟩]
def f38_c : LC := (.seq (.reg f38_r0 [] none) (.seq (.seq (.reg f38_r1 [] none) (.block 0 (.loop f38_l7))) (.seq (.reg f38_r8 [] none) .ret)))
theorem f38_lc : Try.f38.body.map lc = some f38_c.st := by kernel_rfl
theorem f38_res : Try.f38.results.toList = [.tmp 4] := by kernel_rfl
theorem f38_nt : Try.f38.ntmps = 19 := by kernel_rfl
theorem f38_nm : (Try.f38.name == "runtime.NumGoroutine") = false := by kernel_rfl

/-! cmp.isNaN[uint64] -/
def f39_r0 : List LOp := [
  ⟨some 2, .assign (.const (.bool false)), none⟩]
def f39_r1 : List LOp := [
  ⟨some 3, .move (.tmp 0), none⟩,
  ⟨some 4, .move (.tmp 0), none⟩,
  ⟨some 5, .binOp .neq 22 (.tmp 3) (.tmp 4) 22, none⟩,
  ⟨some 2, .assign (.tmp 5), none⟩]
def f39_c : LC := (.seq (.reg f39_r0 [] none) (.seq (.reg f39_r1 [] none) .ret))
theorem f39_lc : Try.f39.body.map lc = some f39_c.st := by kernel_rfl
theorem f39_res : Try.f39.results.toList = [.tmp 2] := by kernel_rfl
theorem f39_nt : Try.f39.ntmps = 6 := by kernel_rfl
theorem f39_nm : (Try.f39.name == "runtime.NumGoroutine") = false := by kernel_rfl

/-! slices.AppendSeq[[]quill/api.Re,quill/api.Re] -/
def f40_r0 : List LOp := [
  ⟨some 2, .box 25 (.tmp 0), none⟩,
  ⟨some 4, .assign (.const (.slice none 0 0)), none⟩]
def f40_r1 : List LOp := [
  ⟨some 6, .move (.tmp 1), none⟩]
def f40_r2 : List LOp := [
  ⟨some 5, .alloc 27, none⟩,
  ⟨none, .store 27 (.tmp 5) (.tmp 7), none⟩]
def f40_r3 : List LOp := [
  ⟨some 8, .load 25 (.tmp 2), none⟩,
  ⟨some 9, .load 27 (.tmp 5), none⟩,
  ⟨some 10, .call { callee := .builtin .len, args := #[.tmp 8], argTypes := #[25] }, none⟩,
  ⟨some 11, .buildSlice 25 1 #[(0, .const (.agg #[.int .u8 0, .int .u64 0, .int .u64 0, .int .u64 0, .int .u64 0, .slice none 0 0]))], none⟩,
  ⟨some 12, .call { callee := .builtin .append, args := #[.tmp 8, .tmp 11], argTypes := #[25, 25] }, none⟩,
  ⟨some 13, .indexAddr 25 (.tmp 12) (.tmp 10), none⟩,
  ⟨none, .store 27 (.tmp 13) (.tmp 9), none⟩,
  ⟨none, .store 25 (.tmp 2) (.tmp 12), none⟩]
def f40_a4 : LC := (.reg f40_r2 [] none)
def f40_b4 : LC := (.block 1 (.regt f40_r3 [] 4 (.op 4 (.both (.op 5 (.both (.op 6 (.op 7 .done)) (.op 7 (.op 6 .done)))) (.op 7 (.op 5 (.op 6 .done)))))))
def f40_r5 : List LOp := [
  ⟨some 14, .load 25 (.tmp 2), none⟩,
  ⟨some 4, .assign (.tmp 14), none⟩]
def f40_c : LC := (.seq (.reg f40_r0 [0] none) (.seq (.seq (.reg f40_r1 [] none) (.block 0 (.rfun (.tmp 6) [7] f40_a4 f40_b4))) (.seq (.reg f40_r5 [] none) .ret)))
theorem f40_lc : Try.f40.body.map lc = some f40_c.st := by kernel_rfl
theorem f40_res : Try.f40.results.toList = [.tmp 4] := by kernel_rfl
theorem f40_nt : Try.f40.ntmps = 15 := by kernel_rfl
theorem f40_nm : (Try.f40.name == "runtime.NumGoroutine") = false := by kernel_rfl

/-! slices.stableCmpFunc[quill/api.Re] -/
def f41_r0 : List LOp := [
  ⟨some 6, .assign (.const (.int .i64 20)), none⟩]
def f41_r1 : List LOp := [
  ⟨some 10, .move (.tmp 6), none⟩,
  ⟨some 7, .assign (.const (.int .i64 0)), none⟩,
  ⟨some 8, .assign (.tmp 10), none⟩]
def f41_r2 : List LOp := [
  ⟨some 11, .move (.tmp 8), none⟩,
  ⟨some 12, .move (.tmp 1), none⟩,
  ⟨some 13, .binOp .leq 3 (.tmp 11) (.tmp 12) 3, none⟩]
def f41_r3 : List LOp := [
  ⟨some 14, .move (.tmp 0), none⟩,
  ⟨some 15, .move (.tmp 7), none⟩,
  ⟨some 16, .move (.tmp 8), none⟩,
  ⟨some 17, .move (.tmp 2), none⟩,
  ⟨some 18, .call { callee := .value (.func 42), args := #[.tmp 14, .tmp 15, .tmp 16, .tmp 17], argTypes := #[25, 3, 3, 30] }, none⟩]
def f41_r4 : List LOp := [
  ⟨some 19, .move (.tmp 8), none⟩,
  ⟨some 7, .assign (.tmp 19), none⟩]
def f41_r5 : List LOp := [
  ⟨some 20, .move (.tmp 8), none⟩,
  ⟨some 21, .move (.tmp 6), none⟩,
  ⟨some 22, .binOp .add 3 (.tmp 20) (.tmp 21) 3, none⟩,
  ⟨some 8, .assign (.tmp 22), none⟩]
def f41_l6 : LC := (.seq (.seq (.reg f41_r2 [] none) (.cond (.tmp 13) .skip (.exit 0))) (.block 1 (.seq (.reg f41_r3 [] none) (.seq (.reg f41_r4 [] none) (.reg f41_r5 [] none)))))
def f41_i6 (t0 t1 t2 t6 t7 t8 : D) : List D := [t0, t1, t2, .any, .any, .any, t6, t7, t8, .any, .any, .any, .any, .any, .any, .any, .any, .any, .any, .any, .any, .any, .any, .any, .any, .any, .any, .any, .any, .any, .any, .any, .any, .any, .any, .any, .any, .any, .any, .any, .any, .any, .any, .any, .any, .any, .any, .any, .any, .any, .any, .any, .any, .any, .any, .any, .any, .any, .any, .any, .any, .any, .any]
def f41_r7 : List LOp := [
  ⟨some 23, .move (.tmp 0), none⟩,
  ⟨some 24, .move (.tmp 7), none⟩,
  ⟨some 25, .move (.tmp 1), none⟩,
  ⟨some 26, .move (.tmp 2), none⟩,
  ⟨some 27, .call { callee := .value (.func 42), args := #[.tmp 23, .tmp 24, .tmp 25, .tmp 26], argTypes := #[25, 3, 3, 30] }, none⟩]
def f41_r8 : List LOp := [
  ⟨some 28, .move (.tmp 6), none⟩,
  ⟨some 29, .move (.tmp 1), none⟩,
  ⟨some 30, .binOp .lss 3 (.tmp 28) (.tmp 29) 3, none⟩]
def f41_r9 : List LOp := [
  ⟨some 31, .move (.tmp 6), none⟩,
  ⟨some 32, .binOp .mul 3 (.const (.int .i64 2)) (.tmp 31) 3, none⟩,
  ⟨some 7, .assign (.const (.int .i64 0)), none⟩,
  ⟨some 8, .assign (.tmp 32), none⟩]
def f41_r10 : List LOp := [
  ⟨some 33, .move (.tmp 8), none⟩,
  ⟨some 34, .move (.tmp 1), none⟩,
  ⟨some 35, .binOp .leq 3 (.tmp 33) (.tmp 34) 3, none⟩]
def f41_r11 : List LOp := [
  ⟨some 36, .move (.tmp 0), none⟩,
  ⟨some 37, .move (.tmp 7), none⟩,
  ⟨some 38, .move (.tmp 7), none⟩,
  ⟨some 39, .move (.tmp 6), none⟩,
  ⟨some 40, .binOp .add 3 (.tmp 38) (.tmp 39) 3, none⟩,
  ⟨some 41, .move (.tmp 8), none⟩,
  ⟨some 42, .move (.tmp 2), none⟩,
  ⟨some 43, .call { callee := .value (.func 43), args := #[.tmp 36, .tmp 37, .tmp 40, .tmp 41, .tmp 42], argTypes := #[25, 3, 3, 3, 30] }, none⟩]
def f41_r12 : List LOp := [
  ⟨some 44, .move (.tmp 8), none⟩,
  ⟨some 7, .assign (.tmp 44), none⟩]
def f41_r13 : List LOp := [
  ⟨some 45, .move (.tmp 8), none⟩,
  ⟨some 46, .move (.tmp 6), none⟩,
  ⟨some 47, .binOp .mul 3 (.const (.int .i64 2)) (.tmp 46) 3, none⟩,
  ⟨some 48, .binOp .add 3 (.tmp 45) (.tmp 47) 3, none⟩,
  ⟨some 8, .assign (.tmp 48), none⟩]
def f41_l14 : LC := (.seq (.seq (.reg f41_r10 [] none) (.cond (.tmp 35) .skip (.exit 4))) (.block 5 (.seq (.reg f41_r11 [] none) (.seq (.reg f41_r12 [] none) (.reg f41_r13 [] none)))))
def f41_i14 (t0 t1 t2 t6 t7 t8 : D) : List D := [t0, t1, t2, .any, .any, .any, t6, t7, t8, .any, .any, .any, .any, .any, .any, .any, .any, .any, .any, .any, .any, .any, .any, .any, .any, .any, .any, .any, .any, .any, .any, .any, .any, .any, .any, .any, .any, .any, .any, .any, .any, .any, .any, .any, .any, .any, .any, .any, .any, .any, .any, .any, .any, .any, .any, .any, .any, .any, .any, .any, .any, .any, .any]
def f41_r15 : List LOp := [
  ⟨some 49, .move (.tmp 7), none⟩,
  ⟨some 50, .move (.tmp 6), none⟩,
  ⟨some 51, .binOp .add 3 (.tmp 49) (.tmp 50) 3, none⟩,
  ⟨some 9, .assign (.tmp 51), none⟩]
def f41_r16 : List LOp := [
  ⟨some 52, .move (.tmp 9), none⟩,
  ⟨some 53, .move (.tmp 1), none⟩,
  ⟨some 54, .binOp .lss 3 (.tmp 52) (.tmp 53) 3, none⟩]
def f41_r17 : List LOp := [
  ⟨some 55, .move (.tmp 0), none⟩,
  ⟨some 56, .move (.tmp 7), none⟩,
  ⟨some 57, .move (.tmp 9), none⟩,
  ⟨some 58, .move (.tmp 1), none⟩,
  ⟨some 59, .move (.tmp 2), none⟩,
  ⟨some 60, .call { callee := .value (.func 43), args := #[.tmp 55, .tmp 56, .tmp 57, .tmp 58, .tmp 59], argTypes := #[25, 3, 3, 3, 30] }, none⟩]
def f41_r18 : List LOp := [
  ⟨some 61, .move (.tmp 6), none⟩,
  ⟨some 62, .binOp .mul 3 (.tmp 61) (.const (.int .i64 2)) 3, none⟩,
  ⟨some 6, .assign (.tmp 62), none⟩]
def f41_l19 : LC := (.seq (.seq (.reg f41_r8 [] none) (.cond (.tmp 30) .skip (.exit 2))) (.block 3 (.seq (.reg f41_r9 [] none) (.seq (.block 4 (.loop f41_l14)) (.seq (.seq (.reg f41_r15 [] none) (.seq (.reg f41_r16 [] none) (.cond (.tmp 54) (.reg f41_r17 [] none) .skip))) (.reg f41_r18 [] none))))))
def f41_i19 (t0 t1 t2 t6 : D) : List D := [t0, t1, t2, .any, .any, .any, t6, .any, .any, .any, .any, .any, .any, .any, .any, .any, .any, .any, .any, .any, .any, .any, .any, .any, .any, .any, .any, .any, .any, .any, .any, .any, .any, .any, .any, .any, .any, .any, .any, .any, .any, .any, .any, .any, .any, .any, .any, .any, .any, .any, .any, .any, .any, .any, .any, .any, .any, .any, .any, .any, .any, .any, .any]
def f41_c : LC := (.seq (.reg f41_r0 [] none) (.seq (.reg f41_r1 [] none) (.seq (.block 0 (.loop f41_l6)) (.seq (.reg f41_r7 [] none) (.block 2 (.loop f41_l19))))))
theorem f41_lc : Try.f41.body.map lc = some f41_c.st := by kernel_rfl
theorem f41_res : Try.f41.results.toList = [] := by kernel_rfl
theorem f41_nt : Try.f41.ntmps = 63 := by kernel_rfl
theorem f41_nm : (Try.f41.name == "runtime.NumGoroutine") = false := by kernel_rfl

/-! slices.insertionSortCmpFunc[quill/api.Re] -/
def f42_r0 : List LOp := [
  ⟨some 10, .move (.tmp 1), none⟩,
  ⟨some 11, .binOp .add 3 (.tmp 10) (.const (.int .i64 1)) 3, none⟩,
  ⟨some 8, .assign (.tmp 11), none⟩]
def f42_r1 : List LOp := [
  ⟨some 12, .move (.tmp 8), none⟩,
  ⟨some 13, .move (.tmp 2), none⟩,
  ⟨some 14, .binOp .lss 3 (.tmp 12) (.tmp 13) 3, none⟩]
def f42_r2 : List LOp := [
  ⟨some 17, .move (.tmp 8), none⟩,
  ⟨some 9, .assign (.tmp 17), none⟩]
def f42_r3 : List LOp := [
  ⟨some 18, .move (.tmp 9), none⟩,
  ⟨some 19, .move (.tmp 1), none⟩,
  ⟨some 20, .binOp .gtr 3 (.tmp 18) (.tmp 19) 3, none⟩,
  ⟨some 21, .move (.tmp 20), none⟩,
  ⟨some 22, .move (.tmp 3), some (3, true)⟩,
  ⟨some 23, .move (.tmp 0), some (3, true)⟩,
  ⟨some 24, .move (.tmp 9), some (3, true)⟩,
  ⟨some 25, .indexAddr 25 (.tmp 23) (.tmp 24), some (3, true)⟩,
  ⟨some 26, .load 27 (.tmp 25), some (3, true)⟩,
  ⟨some 27, .move (.tmp 0), some (3, true)⟩,
  ⟨some 28, .move (.tmp 9), some (3, true)⟩,
  ⟨some 29, .binOp .sub 3 (.tmp 28) (.const (.int .i64 1)) 3, some (3, true)⟩,
  ⟨some 30, .indexAddr 25 (.tmp 27) (.tmp 29), some (3, true)⟩,
  ⟨some 31, .load 27 (.tmp 30), some (3, true)⟩,
  ⟨some 32, .call { callee := .value (.tmp 22), args := #[.tmp 26, .tmp 31], argTypes := #[27, 27] }, some (3, true)⟩,
  ⟨some 33, .binOp .lss 3 (.tmp 32) (.const (.int .i64 0)) 3, some (3, true)⟩,
  ⟨some 34, .pick (.tmp 21) (.tmp 33) (.const (.bool false)), none⟩]
def f42_r4 : List LOp := [
  ⟨some 37, .move (.tmp 0), none⟩,
  ⟨some 38, .move (.tmp 9), none⟩,
  ⟨some 39, .move (.tmp 0), none⟩,
  ⟨some 40, .move (.tmp 9), none⟩,
  ⟨some 41, .binOp .sub 3 (.tmp 40) (.const (.int .i64 1)) 3, none⟩,
  ⟨some 42, .move (.tmp 0), none⟩,
  ⟨some 43, .move (.tmp 9), none⟩,
  ⟨some 44, .binOp .sub 3 (.tmp 43) (.const (.int .i64 1)) 3, none⟩,
  ⟨some 45, .indexAddr 25 (.tmp 42) (.tmp 44), none⟩,
  ⟨some 46, .load 27 (.tmp 45), none⟩,
  ⟨some 47, .move (.tmp 0), none⟩,
  ⟨some 48, .move (.tmp 9), none⟩,
  ⟨some 49, .indexAddr 25 (.tmp 47) (.tmp 48), none⟩,
  ⟨some 50, .load 27 (.tmp 49), none⟩,
  ⟨some 51, .indexAddr 25 (.tmp 37) (.tmp 38), none⟩,
  ⟨none, .store 27 (.tmp 51) (.tmp 46), none⟩,
  ⟨some 52, .indexAddr 25 (.tmp 39) (.tmp 41), none⟩,
  ⟨none, .store 27 (.tmp 52) (.tmp 50), none⟩]
def f42_r5 : List LOp := [
  ⟨some 35, .move (.tmp 9), none⟩,
  ⟨some 36, .binOp .sub 3 (.tmp 35) (.const (.int .i64 1)) 3, none⟩,
  ⟨some 9, .assign (.tmp 36), none⟩]
def f42_l6 : LC := (.seq (.seq (.reg f42_r3 [] (some 14)) (.cond (.tmp 34) .skip (.exit 2))) (.seq (.block 3 (.regp f42_r4 [] [0, 1, 2, 3, 4, 5, 6, 7, 10, 11] 14)) (.reg f42_r5 [] none)))
def f42_i6 (t0 t1 t2 t3 t8 t9 : D) : List D := [t0, t1, t2, t3, .any, .any, .any, .any, t8, t9, .any, .any, .any, .any, .any, .any, .any, .any, .any, .any, .any, .any, .any, .any, .any, .any, .any, .any, .any, .any, .any, .any, .any, .any, .any, .any, .any, .any, .any, .any, .any, .any, .any, .any, .any, .any, .any, .any, .any, .any, .any, .any, .any]
def f42_r7 : List LOp := [
  ⟨some 15, .move (.tmp 8), none⟩,
  ⟨some 16, .binOp .add 3 (.tmp 15) (.const (.int .i64 1)) 3, none⟩,
  ⟨some 8, .assign (.tmp 16), none⟩]
def f42_l8 : LC := (.seq (.seq (.reg f42_r1 [] none) (.cond (.tmp 14) .skip (.exit 0))) (.seq (.block 1 (.seq (.reg f42_r2 [] none) (.block 2 (.loop f42_l6)))) (.reg f42_r7 [] none)))
def f42_i8 (t0 t1 t2 t3 t8 : D) : List D := [t0, t1, t2, t3, .any, .any, .any, .any, t8, .any, .any, .any, .any, .any, .any, .any, .any, .any, .any, .any, .any, .any, .any, .any, .any, .any, .any, .any, .any, .any, .any, .any, .any, .any, .any, .any, .any, .any, .any, .any, .any, .any, .any, .any, .any, .any, .any, .any, .any, .any, .any, .any, .any]
def f42_c : LC := (.seq (.reg f42_r0 [] none) (.block 0 (.loop f42_l8)))
theorem f42_lc : Try.f42.body.map lc = some f42_c.st := by kernel_rfl
theorem f42_res : Try.f42.results.toList = [] := by kernel_rfl
theorem f42_nt : Try.f42.ntmps = 53 := by kernel_rfl
theorem f42_nm : (Try.f42.name == "runtime.NumGoroutine") = false := by kernel_rfl

/-! slices.symMergeCmpFunc[quill/api.Re] -/
def f43_r0 : List LOp := [
  ⟨some 25, .move (.tmp 2), none⟩,
  ⟨some 26, .move (.tmp 1), none⟩,
  ⟨some 27, .binOp .sub 3 (.tmp 25) (.tmp 26) 3, none⟩,
  ⟨some 28, .binOp .eql 3 (.tmp 27) (.const (.int .i64 1)) 3, none⟩]
def f43_r1 : List LOp := [
  ⟨some 29, .move (.tmp 2), none⟩,
  ⟨some 10, .assign (.tmp 29), none⟩]
def f43_r2 : List LOp := [
  ⟨some 30, .move (.tmp 3), none⟩,
  ⟨some 11, .assign (.tmp 30), none⟩]
def f43_r3 : List LOp := [
  ⟨some 31, .move (.tmp 10), none⟩,
  ⟨some 32, .move (.tmp 11), none⟩,
  ⟨some 33, .binOp .lss 3 (.tmp 31) (.tmp 32) 3, none⟩]
def f43_r4 : List LOp := [
  ⟨some 34, .move (.tmp 10), none⟩,
  ⟨some 35, .move (.tmp 11), none⟩,
  ⟨some 36, .binOp .add 3 (.tmp 34) (.tmp 35) 3, none⟩,
  ⟨some 37, .convert 3 67 (.tmp 36), none⟩,
  ⟨some 38, .binOp .shr 67 (.tmp 37) (.const (.int .u64 1)) 67, none⟩,
  ⟨some 39, .convert 67 3 (.tmp 38), none⟩,
  ⟨some 12, .assign (.tmp 39), none⟩]
def f43_r5 : List LOp := [
  ⟨some 40, .move (.tmp 4), none⟩,
  ⟨some 41, .move (.tmp 0), none⟩,
  ⟨some 42, .move (.tmp 12), none⟩,
  ⟨some 43, .indexAddr 25 (.tmp 41) (.tmp 42), none⟩,
  ⟨some 44, .load 27 (.tmp 43), none⟩,
  ⟨some 45, .move (.tmp 0), none⟩,
  ⟨some 46, .move (.tmp 1), none⟩,
  ⟨some 47, .indexAddr 25 (.tmp 45) (.tmp 46), none⟩,
  ⟨some 48, .load 27 (.tmp 47), none⟩,
  ⟨some 49, .call { callee := .value (.tmp 40), args := #[.tmp 44, .tmp 48], argTypes := #[27, 27] }, none⟩,
  ⟨some 50, .binOp .lss 3 (.tmp 49) (.const (.int .i64 0)) 3, none⟩]
def f43_r6 : List LOp := [
  ⟨some 51, .move (.tmp 12), none⟩,
  ⟨some 52, .binOp .add 3 (.tmp 51) (.const (.int .i64 1)) 3, none⟩,
  ⟨some 10, .assign (.tmp 52), none⟩]
def f43_r7 : List LOp := [
  ⟨some 53, .move (.tmp 12), none⟩,
  ⟨some 11, .assign (.tmp 53), none⟩]
def f43_l8 : LC := (.seq (.seq (.reg f43_r3 [] none) (.cond (.tmp 33) .skip (.exit 0))) (.block 1 (.seq (.reg f43_r4 [] none) (.seq (.reg f43_r5 [] (some 9)) (.cond (.tmp 50) (.reg f43_r6 [] none) (.reg f43_r7 [] none))))))
def f43_i8 (t0 t1 t4 t10 t11 : D) : List D := [t0, t1, .any, .any, t4, .any, .any, .any, .any, .any, t10, t11, .any, .any, .any, .any, .any, .any, .any, .any, .any, .any, .any, .any, .any, .any, .any, .any, .any, .any, .any, .any, .any, .any, .any, .any, .any, .any, .any, .any, .any, .any, .any, .any, .any, .any, .any, .any, .any, .any, .any, .any, .any, .any, .any, .any, .any, .any, .any, .any, .any, .any, .any, .any, .any, .any, .any, .any, .any, .any, .any, .any, .any, .any, .any, .any, .any, .any, .any, .any, .any, .any, .any, .any, .any, .any, .any, .any, .any, .any, .any, .any, .any, .any, .any, .any, .any, .any, .any, .any, .any, .any, .any, .any, .any, .any, .any, .any, .any, .any, .any, .any, .any, .any, .any, .any, .any, .any, .any, .any, .any, .any, .any, .any, .any, .any, .any, .any, .any, .any, .any, .any, .any, .any, .any, .any, .any, .any, .any, .any, .any, .any, .any, .any, .any, .any, .any, .any, .any, .any, .any, .any, .any, .any, .any, .any, .any, .any, .any, .any, .any, .any, .any, .any, .any, .any, .any, .any, .any, .any, .any, .any, .any, .any, .any, .any, .any, .any, .any, .any, .any, .any, .any, .any, .any, .any, .any, .any, .any, .any, .any, .any, .any, .any, .any, .any, .any, .any, .any, .any, .any, .any, .any, .any, .any, .any, .any, .any, .any, .any, .any, .any, .any, .any, .any, .any, .any, .any, .any, .any]
def f43_r9 : List LOp := [
  ⟨some 54, .move (.tmp 1), none⟩,
  ⟨some 13, .assign (.tmp 54), none⟩]
def f43_r10 : List LOp := [
  ⟨some 55, .move (.tmp 13), none⟩,
  ⟨some 56, .move (.tmp 10), none⟩,
  ⟨some 57, .binOp .sub 3 (.tmp 56) (.const (.int .i64 1)) 3, none⟩,
  ⟨some 58, .binOp .lss 3 (.tmp 55) (.tmp 57) 3, none⟩]
def f43_r11 : List LOp := [
  ⟨some 61, .move (.tmp 0), none⟩,
  ⟨some 62, .move (.tmp 13), none⟩,
  ⟨some 63, .move (.tmp 0), none⟩,
  ⟨some 64, .move (.tmp 13), none⟩,
  ⟨some 65, .binOp .add 3 (.tmp 64) (.const (.int .i64 1)) 3, none⟩,
  ⟨some 66, .move (.tmp 0), none⟩,
  ⟨some 67, .move (.tmp 13), none⟩,
  ⟨some 68, .binOp .add 3 (.tmp 67) (.const (.int .i64 1)) 3, none⟩,
  ⟨some 69, .indexAddr 25 (.tmp 66) (.tmp 68), none⟩,
  ⟨some 70, .load 27 (.tmp 69), none⟩,
  ⟨some 71, .move (.tmp 0), none⟩,
  ⟨some 72, .move (.tmp 13), none⟩,
  ⟨some 73, .indexAddr 25 (.tmp 71) (.tmp 72), none⟩,
  ⟨some 74, .load 27 (.tmp 73), none⟩,
  ⟨some 75, .indexAddr 25 (.tmp 61) (.tmp 62), none⟩,
  ⟨none, .store 27 (.tmp 75) (.tmp 70), none⟩,
  ⟨some 76, .indexAddr 25 (.tmp 63) (.tmp 65), none⟩,
  ⟨none, .store 27 (.tmp 76) (.tmp 74), none⟩]
def f43_r12 : List LOp := [
  ⟨some 59, .move (.tmp 13), none⟩,
  ⟨some 60, .binOp .add 3 (.tmp 59) (.const (.int .i64 1)) 3, none⟩,
  ⟨some 13, .assign (.tmp 60), none⟩]
def f43_l13 : LC := (.seq (.seq (.reg f43_r10 [] none) (.cond (.tmp 58) .skip (.exit 2))) (.seq (.block 3 (.regp f43_r11 [] [0, 1, 2, 3, 4, 5, 6, 7, 10, 11] 14)) (.reg f43_r12 [] none)))
def f43_i13 (t0 t10 t13 : D) : List D := [t0, .any, .any, .any, .any, .any, .any, .any, .any, .any, t10, .any, .any, t13, .any, .any, .any, .any, .any, .any, .any, .any, .any, .any, .any, .any, .any, .any, .any, .any, .any, .any, .any, .any, .any, .any, .any, .any, .any, .any, .any, .any, .any, .any, .any, .any, .any, .any, .any, .any, .any, .any, .any, .any, .any, .any, .any, .any, .any, .any, .any, .any, .any, .any, .any, .any, .any, .any, .any, .any, .any, .any, .any, .any, .any, .any, .any, .any, .any, .any, .any, .any, .any, .any, .any, .any, .any, .any, .any, .any, .any, .any, .any, .any, .any, .any, .any, .any, .any, .any, .any, .any, .any, .any, .any, .any, .any, .any, .any, .any, .any, .any, .any, .any, .any, .any, .any, .any, .any, .any, .any, .any, .any, .any, .any, .any, .any, .any, .any, .any, .any, .any, .any, .any, .any, .any, .any, .any, .any, .any, .any, .any, .any, .any, .any, .any, .any, .any, .any, .any, .any, .any, .any, .any, .any, .any, .any, .any, .any, .any, .any, .any, .any, .any, .any, .any, .any, .any, .any, .any, .any, .any, .any, .any, .any, .any, .any, .any, .any, .any, .any, .any, .any, .any, .any, .any, .any, .any, .any, .any, .any, .any, .any, .any, .any, .any, .any, .any, .any, .any, .any, .any, .any, .any, .any, .any, .any, .any, .any, .any, .any, .any, .any, .any, .any, .any, .any, .any, .any, .any]
def f43_r14 : List LOp := [
  ⟨some 77, .move (.tmp 3), none⟩,
  ⟨some 78, .move (.tmp 2), none⟩,
  ⟨some 79, .binOp .sub 3 (.tmp 77) (.tmp 78) 3, none⟩,
  ⟨some 80, .binOp .eql 3 (.tmp 79) (.const (.int .i64 1)) 3, none⟩]
def f43_r15 : List LOp := [
  ⟨some 81, .move (.tmp 1), none⟩,
  ⟨some 14, .assign (.tmp 81), none⟩]
def f43_r16 : List LOp := [
  ⟨some 82, .move (.tmp 2), none⟩,
  ⟨some 15, .assign (.tmp 82), none⟩]
def f43_r17 : List LOp := [
  ⟨some 83, .move (.tmp 14), none⟩,
  ⟨some 84, .move (.tmp 15), none⟩,
  ⟨some 85, .binOp .lss 3 (.tmp 83) (.tmp 84) 3, none⟩]
def f43_r18 : List LOp := [
  ⟨some 86, .move (.tmp 14), none⟩,
  ⟨some 87, .move (.tmp 15), none⟩,
  ⟨some 88, .binOp .add 3 (.tmp 86) (.tmp 87) 3, none⟩,
  ⟨some 89, .convert 3 67 (.tmp 88), none⟩,
  ⟨some 90, .binOp .shr 67 (.tmp 89) (.const (.int .u64 1)) 67, none⟩,
  ⟨some 91, .convert 67 3 (.tmp 90), none⟩,
  ⟨some 16, .assign (.tmp 91), none⟩]
def f43_r19 : List LOp := [
  ⟨some 92, .move (.tmp 4), none⟩,
  ⟨some 93, .move (.tmp 0), none⟩,
  ⟨some 94, .move (.tmp 2), none⟩,
  ⟨some 95, .indexAddr 25 (.tmp 93) (.tmp 94), none⟩,
  ⟨some 96, .load 27 (.tmp 95), none⟩,
  ⟨some 97, .move (.tmp 0), none⟩,
  ⟨some 98, .move (.tmp 16), none⟩,
  ⟨some 99, .indexAddr 25 (.tmp 97) (.tmp 98), none⟩,
  ⟨some 100, .load 27 (.tmp 99), none⟩,
  ⟨some 101, .call { callee := .value (.tmp 92), args := #[.tmp 96, .tmp 100], argTypes := #[27, 27] }, none⟩,
  ⟨some 102, .binOp .lss 3 (.tmp 101) (.const (.int .i64 0)) 3, none⟩,
  ⟨some 103, .unOp .not 4 (.tmp 102), none⟩]
def f43_r20 : List LOp := [
  ⟨some 104, .move (.tmp 16), none⟩,
  ⟨some 105, .binOp .add 3 (.tmp 104) (.const (.int .i64 1)) 3, none⟩,
  ⟨some 14, .assign (.tmp 105), none⟩]
def f43_r21 : List LOp := [
  ⟨some 106, .move (.tmp 16), none⟩,
  ⟨some 15, .assign (.tmp 106), none⟩]
def f43_l22 : LC := (.seq (.seq (.reg f43_r17 [] none) (.cond (.tmp 85) .skip (.exit 4))) (.block 5 (.seq (.reg f43_r18 [] none) (.seq (.reg f43_r19 [] (some 9)) (.cond (.tmp 103) (.reg f43_r20 [] none) (.reg f43_r21 [] none))))))
def f43_i22 (t0 t2 t4 t14 t15 : D) : List D := [t0, .any, t2, .any, t4, .any, .any, .any, .any, .any, .any, .any, .any, .any, t14, t15, .any, .any, .any, .any, .any, .any, .any, .any, .any, .any, .any, .any, .any, .any, .any, .any, .any, .any, .any, .any, .any, .any, .any, .any, .any, .any, .any, .any, .any, .any, .any, .any, .any, .any, .any, .any, .any, .any, .any, .any, .any, .any, .any, .any, .any, .any, .any, .any, .any, .any, .any, .any, .any, .any, .any, .any, .any, .any, .any, .any, .any, .any, .any, .any, .any, .any, .any, .any, .any, .any, .any, .any, .any, .any, .any, .any, .any, .any, .any, .any, .any, .any, .any, .any, .any, .any, .any, .any, .any, .any, .any, .any, .any, .any, .any, .any, .any, .any, .any, .any, .any, .any, .any, .any, .any, .any, .any, .any, .any, .any, .any, .any, .any, .any, .any, .any, .any, .any, .any, .any, .any, .any, .any, .any, .any, .any, .any, .any, .any, .any, .any, .any, .any, .any, .any, .any, .any, .any, .any, .any, .any, .any, .any, .any, .any, .any, .any, .any, .any, .any, .any, .any, .any, .any, .any, .any, .any, .any, .any, .any, .any, .any, .any, .any, .any, .any, .any, .any, .any, .any, .any, .any, .any, .any, .any, .any, .any, .any, .any, .any, .any, .any, .any, .any, .any, .any, .any, .any, .any, .any, .any, .any, .any, .any, .any, .any, .any, .any, .any, .any, .any, .any, .any, .any]
def f43_r23 : List LOp := [
  ⟨some 107, .move (.tmp 2), none⟩,
  ⟨some 17, .assign (.tmp 107), none⟩]
def f43_r24 : List LOp := [
  ⟨some 108, .move (.tmp 17), none⟩,
  ⟨some 109, .move (.tmp 14), none⟩,
  ⟨some 110, .binOp .gtr 3 (.tmp 108) (.tmp 109) 3, none⟩]
def f43_r25 : List LOp := [
  ⟨some 113, .move (.tmp 0), none⟩,
  ⟨some 114, .move (.tmp 17), none⟩,
  ⟨some 115, .move (.tmp 0), none⟩,
  ⟨some 116, .move (.tmp 17), none⟩,
  ⟨some 117, .binOp .sub 3 (.tmp 116) (.const (.int .i64 1)) 3, none⟩,
  ⟨some 118, .move (.tmp 0), none⟩,
  ⟨some 119, .move (.tmp 17), none⟩,
  ⟨some 120, .binOp .sub 3 (.tmp 119) (.const (.int .i64 1)) 3, none⟩,
  ⟨some 121, .indexAddr 25 (.tmp 118) (.tmp 120), none⟩,
  ⟨some 122, .load 27 (.tmp 121), none⟩,
  ⟨some 123, .move (.tmp 0), none⟩,
  ⟨some 124, .move (.tmp 17), none⟩,
  ⟨some 125, .indexAddr 25 (.tmp 123) (.tmp 124), none⟩,
  ⟨some 126, .load 27 (.tmp 125), none⟩,
  ⟨some 127, .indexAddr 25 (.tmp 113) (.tmp 114), none⟩,
  ⟨none, .store 27 (.tmp 127) (.tmp 122), none⟩,
  ⟨some 128, .indexAddr 25 (.tmp 115) (.tmp 117), none⟩,
  ⟨none, .store 27 (.tmp 128) (.tmp 126), none⟩]
def f43_r26 : List LOp := [
  ⟨some 111, .move (.tmp 17), none⟩,
  ⟨some 112, .binOp .sub 3 (.tmp 111) (.const (.int .i64 1)) 3, none⟩,
  ⟨some 17, .assign (.tmp 112), none⟩]
def f43_l27 : LC := (.seq (.seq (.reg f43_r24 [] none) (.cond (.tmp 110) .skip (.exit 6))) (.seq (.block 7 (.regp f43_r25 [] [0, 1, 2, 3, 4, 5, 6, 7, 10, 11] 14)) (.reg f43_r26 [] none)))
def f43_i27 (t0 t14 t17 : D) : List D := [t0, .any, .any, .any, .any, .any, .any, .any, .any, .any, .any, .any, .any, .any, t14, .any, .any, t17, .any, .any, .any, .any, .any, .any, .any, .any, .any, .any, .any, .any, .any, .any, .any, .any, .any, .any, .any, .any, .any, .any, .any, .any, .any, .any, .any, .any, .any, .any, .any, .any, .any, .any, .any, .any, .any, .any, .any, .any, .any, .any, .any, .any, .any, .any, .any, .any, .any, .any, .any, .any, .any, .any, .any, .any, .any, .any, .any, .any, .any, .any, .any, .any, .any, .any, .any, .any, .any, .any, .any, .any, .any, .any, .any, .any, .any, .any, .any, .any, .any, .any, .any, .any, .any, .any, .any, .any, .any, .any, .any, .any, .any, .any, .any, .any, .any, .any, .any, .any, .any, .any, .any, .any, .any, .any, .any, .any, .any, .any, .any, .any, .any, .any, .any, .any, .any, .any, .any, .any, .any, .any, .any, .any, .any, .any, .any, .any, .any, .any, .any, .any, .any, .any, .any, .any, .any, .any, .any, .any, .any, .any, .any, .any, .any, .any, .any, .any, .any, .any, .any, .any, .any, .any, .any, .any, .any, .any, .any, .any, .any, .any, .any, .any, .any, .any, .any, .any, .any, .any, .any, .any, .any, .any, .any, .any, .any, .any, .any, .any, .any, .any, .any, .any, .any, .any, .any, .any, .any, .any, .any, .any, .any, .any, .any, .any, .any, .any, .any, .any, .any, .any]
def f43_r28 : List LOp := [
  ⟨some 129, .move (.tmp 1), none⟩,
  ⟨some 130, .move (.tmp 3), none⟩,
  ⟨some 131, .binOp .add 3 (.tmp 129) (.tmp 130) 3, none⟩,
  ⟨some 132, .convert 3 67 (.tmp 131), none⟩,
  ⟨some 133, .binOp .shr 67 (.tmp 132) (.const (.int .u64 1)) 67, none⟩,
  ⟨some 134, .convert 67 3 (.tmp 133), none⟩,
  ⟨some 18, .assign (.tmp 134), none⟩]
def f43_r29 : List LOp := [
  ⟨some 135, .move (.tmp 18), none⟩,
  ⟨some 136, .move (.tmp 2), none⟩,
  ⟨some 137, .binOp .add 3 (.tmp 135) (.tmp 136) 3, none⟩,
  ⟨some 19, .assign (.tmp 137), none⟩]
def f43_r30 : List LOp := [
  ⟨some 20, .assign (.const (.int .i64 0)), none⟩,
  ⟨some 21, .assign (.const (.int .i64 0)), none⟩]
def f43_r31 : List LOp := [
  ⟨some 138, .move (.tmp 2), none⟩,
  ⟨some 139, .move (.tmp 18), none⟩,
  ⟨some 140, .binOp .gtr 3 (.tmp 138) (.tmp 139) 3, none⟩]
def f43_r32 : List LOp := [
  ⟨some 141, .move (.tmp 19), none⟩,
  ⟨some 142, .move (.tmp 3), none⟩,
  ⟨some 143, .binOp .sub 3 (.tmp 141) (.tmp 142) 3, none⟩,
  ⟨some 20, .assign (.tmp 143), none⟩]
def f43_r33 : List LOp := [
  ⟨some 144, .move (.tmp 18), none⟩,
  ⟨some 21, .assign (.tmp 144), none⟩]
def f43_r34 : List LOp := [
  ⟨some 145, .move (.tmp 1), none⟩,
  ⟨some 20, .assign (.tmp 145), none⟩]
def f43_r35 : List LOp := [
  ⟨some 146, .move (.tmp 2), none⟩,
  ⟨some 21, .assign (.tmp 146), none⟩]
def f43_r36 : List LOp := [
  ⟨some 147, .move (.tmp 19), none⟩,
  ⟨some 148, .binOp .sub 3 (.tmp 147) (.const (.int .i64 1)) 3, none⟩,
  ⟨some 22, .assign (.tmp 148), none⟩]
def f43_r37 : List LOp := [
  ⟨some 149, .move (.tmp 20), none⟩,
  ⟨some 150, .move (.tmp 21), none⟩,
  ⟨some 151, .binOp .lss 3 (.tmp 149) (.tmp 150) 3, none⟩]
def f43_r38 : List LOp := [
  ⟨some 152, .move (.tmp 20), none⟩,
  ⟨some 153, .move (.tmp 21), none⟩,
  ⟨some 154, .binOp .add 3 (.tmp 152) (.tmp 153) 3, none⟩,
  ⟨some 155, .convert 3 67 (.tmp 154), none⟩,
  ⟨some 156, .binOp .shr 67 (.tmp 155) (.const (.int .u64 1)) 67, none⟩,
  ⟨some 157, .convert 67 3 (.tmp 156), none⟩,
  ⟨some 23, .assign (.tmp 157), none⟩]
def f43_r39 : List LOp := [
  ⟨some 158, .move (.tmp 4), none⟩,
  ⟨some 159, .move (.tmp 0), none⟩,
  ⟨some 160, .move (.tmp 22), none⟩,
  ⟨some 161, .move (.tmp 23), none⟩,
  ⟨some 162, .binOp .sub 3 (.tmp 160) (.tmp 161) 3, none⟩,
  ⟨some 163, .indexAddr 25 (.tmp 159) (.tmp 162), none⟩,
  ⟨some 164, .load 27 (.tmp 163), none⟩,
  ⟨some 165, .move (.tmp 0), none⟩,
  ⟨some 166, .move (.tmp 23), none⟩,
  ⟨some 167, .indexAddr 25 (.tmp 165) (.tmp 166), none⟩,
  ⟨some 168, .load 27 (.tmp 167), none⟩,
  ⟨some 169, .call { callee := .value (.tmp 158), args := #[.tmp 164, .tmp 168], argTypes := #[27, 27] }, none⟩,
  ⟨some 170, .binOp .lss 3 (.tmp 169) (.const (.int .i64 0)) 3, none⟩,
  ⟨some 171, .unOp .not 4 (.tmp 170), none⟩]
def f43_r40 : List LOp := [
  ⟨some 172, .move (.tmp 23), none⟩,
  ⟨some 173, .binOp .add 3 (.tmp 172) (.const (.int .i64 1)) 3, none⟩,
  ⟨some 20, .assign (.tmp 173), none⟩]
def f43_r41 : List LOp := [
  ⟨some 174, .move (.tmp 23), none⟩,
  ⟨some 21, .assign (.tmp 174), none⟩]
def f43_l42 : LC := (.seq (.seq (.reg f43_r37 [] none) (.cond (.tmp 151) .skip (.exit 8))) (.block 9 (.seq (.reg f43_r38 [] none) (.seq (.reg f43_r39 [] (some 11)) (.cond (.tmp 171) (.reg f43_r40 [] none) (.reg f43_r41 [] none))))))
def f43_i42 (t0 t1 t2 t3 t4 t18 t19 t20 t21 t22 : D) : List D := [t0, t1, t2, t3, t4, .any, .any, .any, .any, .any, .any, .any, .any, .any, .any, .any, .any, .any, t18, t19, t20, t21, t22, .any, .any, .any, .any, .any, .any, .any, .any, .any, .any, .any, .any, .any, .any, .any, .any, .any, .any, .any, .any, .any, .any, .any, .any, .any, .any, .any, .any, .any, .any, .any, .any, .any, .any, .any, .any, .any, .any, .any, .any, .any, .any, .any, .any, .any, .any, .any, .any, .any, .any, .any, .any, .any, .any, .any, .any, .any, .any, .any, .any, .any, .any, .any, .any, .any, .any, .any, .any, .any, .any, .any, .any, .any, .any, .any, .any, .any, .any, .any, .any, .any, .any, .any, .any, .any, .any, .any, .any, .any, .any, .any, .any, .any, .any, .any, .any, .any, .any, .any, .any, .any, .any, .any, .any, .any, .any, .any, .any, .any, .any, .any, .any, .any, .any, .any, .any, .any, .any, .any, .any, .any, .any, .any, .any, .any, .any, .any, .any, .any, .any, .any, .any, .any, .any, .any, .any, .any, .any, .any, .any, .any, .any, .any, .any, .any, .any, .any, .any, .any, .any, .any, .any, .any, .any, .any, .any, .any, .any, .any, .any, .any, .any, .any, .any, .any, .any, .any, .any, .any, .any, .any, .any, .any, .any, .any, .any, .any, .any, .any, .any, .any, .any, .any, .any, .any, .any, .any, .any, .any, .any, .any, .any, .any, .any, .any, .any, .any]
def f43_r43 : List LOp := [
  ⟨some 175, .move (.tmp 19), none⟩,
  ⟨some 176, .move (.tmp 20), none⟩,
  ⟨some 177, .binOp .sub 3 (.tmp 175) (.tmp 176) 3, none⟩,
  ⟨some 24, .assign (.tmp 177), none⟩]
def f43_r44 : List LOp := [
  ⟨some 178, .move (.tmp 20), none⟩,
  ⟨some 179, .move (.tmp 2), none⟩,
  ⟨some 180, .binOp .lss 3 (.tmp 178) (.tmp 179) 3, none⟩,
  ⟨some 181, .move (.tmp 180), none⟩,
  ⟨some 182, .move (.tmp 2), some (3, true)⟩,
  ⟨some 183, .move (.tmp 24), some (3, true)⟩,
  ⟨some 184, .binOp .lss 3 (.tmp 182) (.tmp 183) 3, some (3, true)⟩,
  ⟨some 185, .pick (.tmp 181) (.tmp 184) (.const (.bool false)), none⟩]
def f43_r45 : List LOp := [
  ⟨some 186, .move (.tmp 0), none⟩,
  ⟨some 187, .move (.tmp 20), none⟩,
  ⟨some 188, .move (.tmp 2), none⟩,
  ⟨some 189, .move (.tmp 24), none⟩,
  ⟨some 190, .move (.tmp 4), none⟩,
  ⟨some 191, .call { callee := .value (.func 44), args := #[.tmp 186, .tmp 187, .tmp 188, .tmp 189, .tmp 190], argTypes := #[25, 3, 3, 3, 30] }, none⟩]
def f43_r46 : List LOp := [
  ⟨some 192, .move (.tmp 1), none⟩,
  ⟨some 193, .move (.tmp 20), none⟩,
  ⟨some 194, .binOp .lss 3 (.tmp 192) (.tmp 193) 3, none⟩,
  ⟨some 195, .move (.tmp 194), none⟩,
  ⟨some 196, .move (.tmp 20), some (3, true)⟩,
  ⟨some 197, .move (.tmp 18), some (3, true)⟩,
  ⟨some 198, .binOp .lss 3 (.tmp 196) (.tmp 197) 3, some (3, true)⟩,
  ⟨some 199, .pick (.tmp 195) (.tmp 198) (.const (.bool false)), none⟩]
def f43_r47 : List LOp := [
  ⟨some 200, .move (.tmp 0), none⟩,
  ⟨some 201, .move (.tmp 1), none⟩,
  ⟨some 202, .move (.tmp 20), none⟩,
  ⟨some 203, .move (.tmp 18), none⟩,
  ⟨some 204, .move (.tmp 4), none⟩,
  ⟨some 205, .call { callee := .value (.func 43), args := #[.tmp 200, .tmp 201, .tmp 202, .tmp 203, .tmp 204], argTypes := #[25, 3, 3, 3, 30] }, none⟩]
def f43_r48 : List LOp := [
  ⟨some 206, .move (.tmp 18), none⟩,
  ⟨some 207, .move (.tmp 24), none⟩,
  ⟨some 208, .binOp .lss 3 (.tmp 206) (.tmp 207) 3, none⟩,
  ⟨some 209, .move (.tmp 208), none⟩,
  ⟨some 210, .move (.tmp 24), some (3, true)⟩,
  ⟨some 211, .move (.tmp 3), some (3, true)⟩,
  ⟨some 212, .binOp .lss 3 (.tmp 210) (.tmp 211) 3, some (3, true)⟩,
  ⟨some 213, .pick (.tmp 209) (.tmp 212) (.const (.bool false)), none⟩]
def f43_r49 : List LOp := [
  ⟨some 214, .move (.tmp 0), none⟩,
  ⟨some 215, .move (.tmp 18), none⟩,
  ⟨some 216, .move (.tmp 24), none⟩,
  ⟨some 217, .move (.tmp 3), none⟩,
  ⟨some 218, .move (.tmp 4), none⟩,
  ⟨some 219, .call { callee := .value (.func 43), args := #[.tmp 214, .tmp 215, .tmp 216, .tmp 217, .tmp 218], argTypes := #[25, 3, 3, 3, 30] }, none⟩]
def f43_c : LC := (.seq (.seq (.reg f43_r0 [] none) (.cond (.tmp 28) (.seq (.reg f43_r1 [] none) (.seq (.reg f43_r2 [] none) (.seq (.block 0 (.loop f43_l8)) (.seq (.seq (.reg f43_r9 [] none) (.block 2 (.loop f43_l13))) .ret)))) .skip)) (.seq (.seq (.reg f43_r14 [] none) (.cond (.tmp 80) (.seq (.reg f43_r15 [] none) (.seq (.reg f43_r16 [] none) (.seq (.block 4 (.loop f43_l22)) (.seq (.seq (.reg f43_r23 [] none) (.block 6 (.loop f43_l27))) .ret)))) .skip)) (.seq (.reg f43_r28 [] none) (.seq (.reg f43_r29 [] none) (.seq (.reg f43_r30 [] none) (.seq (.seq (.reg f43_r31 [] none) (.cond (.tmp 140) (.seq (.reg f43_r32 [] none) (.reg f43_r33 [] none)) (.seq (.reg f43_r34 [] none) (.reg f43_r35 [] none)))) (.seq (.reg f43_r36 [] none) (.seq (.block 8 (.loop f43_l42)) (.seq (.reg f43_r43 [] none) (.seq (.seq (.reg f43_r44 [] none) (.cond (.tmp 185) (.reg f43_r45 [] none) .skip)) (.seq (.seq (.reg f43_r46 [] none) (.cond (.tmp 199) (.reg f43_r47 [] none) .skip)) (.seq (.reg f43_r48 [] none) (.cond (.tmp 213) (.reg f43_r49 [] none) .skip)))))))))))))
theorem f43_lc : Try.f43.body.map lc = some f43_c.st := by kernel_rfl
theorem f43_res : Try.f43.results.toList = [] := by kernel_rfl
theorem f43_nt : Try.f43.ntmps = 220 := by kernel_rfl
theorem f43_nm : (Try.f43.name == "runtime.NumGoroutine") = false := by kernel_rfl

/-! slices.rotateCmpFunc[quill/api.Re] -/
def f44_r0 : List LOp := [
  ⟨some 12, .move (.tmp 2), none⟩,
  ⟨some 13, .move (.tmp 1), none⟩,
  ⟨some 14, .binOp .sub 3 (.tmp 12) (.tmp 13) 3, none⟩,
  ⟨some 10, .assign (.tmp 14), none⟩]
def f44_r1 : List LOp := [
  ⟨some 15, .move (.tmp 3), none⟩,
  ⟨some 16, .move (.tmp 2), none⟩,
  ⟨some 17, .binOp .sub 3 (.tmp 15) (.tmp 16) 3, none⟩,
  ⟨some 11, .assign (.tmp 17), none⟩]
def f44_r2 : List LOp := [
  ⟨some 18, .move (.tmp 10), none⟩,
  ⟨some 19, .move (.tmp 11), none⟩,
  ⟨some 20, .binOp .neq 3 (.tmp 18) (.tmp 19) 3, none⟩]
def f44_r3 : List LOp := [
  ⟨some 21, .move (.tmp 10), none⟩,
  ⟨some 22, .move (.tmp 11), none⟩,
  ⟨some 23, .binOp .gtr 3 (.tmp 21) (.tmp 22) 3, none⟩]
def f44_r4 : List LOp := [
  ⟨some 24, .move (.tmp 0), none⟩,
  ⟨some 25, .move (.tmp 2), none⟩,
  ⟨some 26, .move (.tmp 10), none⟩,
  ⟨some 27, .binOp .sub 3 (.tmp 25) (.tmp 26) 3, none⟩,
  ⟨some 28, .move (.tmp 2), none⟩,
  ⟨some 29, .move (.tmp 11), none⟩,
  ⟨some 30, .move (.tmp 4), none⟩,
  ⟨some 31, .call { callee := .value (.func 45), args := #[.tmp 24, .tmp 27, .tmp 28, .tmp 29, .tmp 30], argTypes := #[25, 3, 3, 3, 30] }, none⟩]
def f44_r5 : List LOp := [
  ⟨some 32, .move (.tmp 10), none⟩,
  ⟨some 33, .move (.tmp 11), none⟩,
  ⟨some 34, .binOp .sub 3 (.tmp 32) (.tmp 33) 3, none⟩,
  ⟨some 10, .assign (.tmp 34), none⟩]
def f44_r6 : List LOp := [
  ⟨some 35, .move (.tmp 0), none⟩,
  ⟨some 36, .move (.tmp 2), none⟩,
  ⟨some 37, .move (.tmp 10), none⟩,
  ⟨some 38, .binOp .sub 3 (.tmp 36) (.tmp 37) 3, none⟩,
  ⟨some 39, .move (.tmp 2), none⟩,
  ⟨some 40, .move (.tmp 11), none⟩,
  ⟨some 41, .binOp .add 3 (.tmp 39) (.tmp 40) 3, none⟩,
  ⟨some 42, .move (.tmp 10), none⟩,
  ⟨some 43, .binOp .sub 3 (.tmp 41) (.tmp 42) 3, none⟩,
  ⟨some 44, .move (.tmp 10), none⟩,
  ⟨some 45, .move (.tmp 4), none⟩,
  ⟨some 46, .call { callee := .value (.func 45), args := #[.tmp 35, .tmp 38, .tmp 43, .tmp 44, .tmp 45], argTypes := #[25, 3, 3, 3, 30] }, none⟩]
def f44_r7 : List LOp := [
  ⟨some 47, .move (.tmp 11), none⟩,
  ⟨some 48, .move (.tmp 10), none⟩,
  ⟨some 49, .binOp .sub 3 (.tmp 47) (.tmp 48) 3, none⟩,
  ⟨some 11, .assign (.tmp 49), none⟩]
def f44_l8 : LC := (.seq (.seq (.reg f44_r2 [] none) (.cond (.tmp 20) .skip (.exit 0))) (.block 1 (.seq (.reg f44_r3 [] none) (.cond (.tmp 23) (.seq (.reg f44_r4 [] none) (.reg f44_r5 [] none)) (.seq (.reg f44_r6 [] none) (.reg f44_r7 [] none))))))
def f44_i8 (t0 t2 t4 t10 t11 : D) : List D := [t0, .any, t2, .any, t4, .any, .any, .any, .any, .any, t10, t11, .any, .any, .any, .any, .any, .any, .any, .any, .any, .any, .any, .any, .any, .any, .any, .any, .any, .any, .any, .any, .any, .any, .any, .any, .any, .any, .any, .any, .any, .any, .any, .any, .any, .any, .any, .any, .any, .any, .any, .any, .any, .any, .any, .any, .any, .any]
def f44_r9 : List LOp := [
  ⟨some 50, .move (.tmp 0), none⟩,
  ⟨some 51, .move (.tmp 2), none⟩,
  ⟨some 52, .move (.tmp 10), none⟩,
  ⟨some 53, .binOp .sub 3 (.tmp 51) (.tmp 52) 3, none⟩,
  ⟨some 54, .move (.tmp 2), none⟩,
  ⟨some 55, .move (.tmp 10), none⟩,
  ⟨some 56, .move (.tmp 4), none⟩,
  ⟨some 57, .call { callee := .value (.func 45), args := #[.tmp 50, .tmp 53, .tmp 54, .tmp 55, .tmp 56], argTypes := #[25, 3, 3, 3, 30] }, none⟩]
def f44_c : LC := (.seq (.reg f44_r0 [] none) (.seq (.reg f44_r1 [] none) (.seq (.block 0 (.loop f44_l8)) (.reg f44_r9 [] none))))
theorem f44_lc : Try.f44.body.map lc = some f44_c.st := by kernel_rfl
theorem f44_res : Try.f44.results.toList = [] := by kernel_rfl
theorem f44_nt : Try.f44.ntmps = 58 := by kernel_rfl
theorem f44_nm : (Try.f44.name == "runtime.NumGoroutine") = false := by kernel_rfl

/-! slices.swapRangeCmpFunc[quill/api.Re] -/
def f45_r0 : List LOp := [
  ⟨some 10, .assign (.const (.int .i64 0)), none⟩]
def f45_r1 : List LOp := [
  ⟨some 11, .move (.tmp 10), none⟩,
  ⟨some 12, .move (.tmp 3), none⟩,
  ⟨some 13, .binOp .lss 3 (.tmp 11) (.tmp 12) 3, none⟩]
def f45_r2 : List LOp := [
  ⟨some 16, .move (.tmp 0), none⟩,
  ⟨some 17, .move (.tmp 1), none⟩,
  ⟨some 18, .move (.tmp 10), none⟩,
  ⟨some 19, .binOp .add 3 (.tmp 17) (.tmp 18) 3, none⟩,
  ⟨some 20, .move (.tmp 0), none⟩,
  ⟨some 21, .move (.tmp 2), none⟩,
  ⟨some 22, .move (.tmp 10), none⟩,
  ⟨some 23, .binOp .add 3 (.tmp 21) (.tmp 22) 3, none⟩,
  ⟨some 24, .move (.tmp 0), none⟩,
  ⟨some 25, .move (.tmp 2), none⟩,
  ⟨some 26, .move (.tmp 10), none⟩,
  ⟨some 27, .binOp .add 3 (.tmp 25) (.tmp 26) 3, none⟩,
  ⟨some 28, .indexAddr 25 (.tmp 24) (.tmp 27), none⟩,
  ⟨some 29, .load 27 (.tmp 28), none⟩,
  ⟨some 30, .move (.tmp 0), none⟩,
  ⟨some 31, .move (.tmp 1), none⟩,
  ⟨some 32, .move (.tmp 10), none⟩,
  ⟨some 33, .binOp .add 3 (.tmp 31) (.tmp 32) 3, none⟩,
  ⟨some 34, .indexAddr 25 (.tmp 30) (.tmp 33), none⟩,
  ⟨some 35, .load 27 (.tmp 34), none⟩,
  ⟨some 36, .indexAddr 25 (.tmp 16) (.tmp 19), none⟩,
  ⟨none, .store 27 (.tmp 36) (.tmp 29), none⟩,
  ⟨some 37, .indexAddr 25 (.tmp 20) (.tmp 23), none⟩,
  ⟨none, .store 27 (.tmp 37) (.tmp 35), none⟩]
def f45_r3 : List LOp := [
  ⟨some 14, .move (.tmp 10), none⟩,
  ⟨some 15, .binOp .add 3 (.tmp 14) (.const (.int .i64 1)) 3, none⟩,
  ⟨some 10, .assign (.tmp 15), none⟩]
def f45_l4 : LC := (.seq (.seq (.reg f45_r1 [] none) (.cond (.tmp 13) .skip (.exit 0))) (.seq (.block 1 (.regp f45_r2 [] [0, 1, 2, 3, 4, 5, 6, 7, 8, 9, 10, 11, 14, 15, 16, 17] 20)) (.reg f45_r3 [] none)))
def f45_i4 (t0 t1 t2 t3 t10 : D) : List D := [t0, t1, t2, t3, .any, .any, .any, .any, .any, .any, t10, .any, .any, .any, .any, .any, .any, .any, .any, .any, .any, .any, .any, .any, .any, .any, .any, .any, .any, .any, .any, .any, .any, .any, .any, .any, .any, .any]
def f45_c : LC := (.seq (.reg f45_r0 [] none) (.block 0 (.loop f45_l4)))
theorem f45_lc : Try.f45.body.map lc = some f45_c.st := by kernel_rfl
theorem f45_res : Try.f45.results.toList = [] := by kernel_rfl
theorem f45_nt : Try.f45.ntmps = 38 := by kernel_rfl
theorem f45_nm : (Try.f45.name == "runtime.NumGoroutine") = false := by kernel_rfl

attribute [go_sem] f2_r0 f2_c f3_r0 f3_r1 f3_r2 f3_r3 f3_r4 f3_c f4_r0 f4_r1 f4_r2 f4_r3 f4_r4 f4_c f5_r0 f5_r1 f5_r2 f5_r3 f5_r4 f5_c f6_r0 f6_r1 f6_r2 f6_r3 f6_r4 f6_r5 f6_r6 f6_r7 f6_r8 f6_r9 f6_r10 f6_r11 f6_r12 f6_r13 f6_r14 f6_r15 f6_r16 f6_r17 f6_r18 f6_l19 f6_i19 f6_r20 f6_c f7_r0 f7_r1 f7_c f8_r0 f8_r1 f8_c f9_r0 f9_r1 f9_c f10_r0 f10_r1 f10_r2 f10_r3 f10_r4 f10_r5 f10_r6 f10_r7 f10_r8 f10_r9 f10_r10 f10_r11 f10_r12 f10_r13 f10_r14 f10_r15 f10_r16 f10_l17 f10_i17 f10_r18 f10_r19 f10_r20 f10_c f11_r0 f11_r1 f11_r2 f11_r3 f11_r4 f11_r5 f11_r6 f11_r7 f11_r8 f11_l9 f11_i9 f11_r10 f11_c f12_r0 f12_r1 f12_r2 f12_r3 f12_r4 f12_r5 f12_r6 f12_r7 f12_r8 f12_l9 f12_i9 f12_r10 f12_c f13_r0 f13_r1 f13_c f14_r0 f14_r1 f14_r2 f14_r3 f14_r4 f14_r5 f14_r6 f14_r7 f14_l8 f14_i8 f14_r9 f14_c f15_r0 f15_r1 f15_r2 f15_r3 f15_r4 f15_r5 f15_r6 f15_r7 f15_r8 f15_l9 f15_i9 f15_r10 f15_c f16_r0 f16_r1 f16_r2 f16_r3 f16_r4 f16_r5 f16_r6 f16_r7 f16_r8 f16_r9 f16_l10 f16_i10 f16_r11 f16_c f17_r0 f17_r1 f17_r2 f17_r3 f17_r4 f17_r5 f17_r6 f17_r7 f17_r8 f17_r9 f17_r10 f17_r11 f17_r12 f17_r13 f17_r14 f17_l15 f17_i15 f17_r16 f17_r17 f17_r18 f17_r19 f17_l20 f17_i20 f17_r21 f17_c f18_r0 f18_r1 f18_r2 f18_r3 f18_r4 f18_r5 f18_r6 f18_r7 f18_l8 f18_i8 f18_r9 f18_c f19_r0 f19_r1 f19_r2 f19_r3 f19_r4 f19_r5 f19_r6 f19_r7 f19_r8 f19_l9 f19_i9 f19_r10 f19_c f20_r0 f20_r1 f20_c f21_r0 f21_r1 f21_c f22_r0 f22_r1 f22_r2 f22_r3 f22_r4 f22_r5 f22_r6 f22_r7 f22_l8 f22_i8 f22_r9 f22_c f23_r0 f23_r1 f23_r2 f23_r3 f23_r4 f23_r5 f23_r6 f23_r7 f23_r8 f23_r9 f23_r10 f23_r11 f23_r12 f23_r13 f23_c f24_r0 f24_r1 f24_c f25_r0 f25_r1 f25_r2 f25_r3 f25_r4 f25_r5 f25_r6 f25_r7 f25_r8 f25_r9 f25_r10 f25_l11 f25_i11 f25_r12 f25_r13 f25_r14 f25_c f26_r0 f26_r1 f26_r2 f26_r3 f26_r4 f26_r5 f26_r6 f26_r7 f26_l8 f26_i8 f26_r9 f26_c f27_r0 f27_r1 f27_r2 f27_r3 f27_c f28_r0 f28_r1 f28_c f29_r0 f29_r1 f29_c f30_r0 f30_r1 f30_c f31_r0 f31_r1 f31_r2 f31_r3 f31_r4 f31_r5 f31_r6 f31_l7 f31_i7 f31_r8 f31_c f32_r0 f32_r1 f32_c f33_r0 f33_r1 f33_r2 f33_r3 f33_r4 f33_r5 f33_r6 f33_r7 f33_r8 f33_r9 f33_r10 f33_l11 f33_i11 f33_r12 f33_r13 f33_r14 f33_c f34_r0 f34_r1 f34_r2 f34_r3 f34_r4 f34_r5 f34_r6 f34_r7 f34_r8 f34_r9 f34_r10 f34_r11 f34_r12 f34_r13 f34_c f35_r0 f35_r1 f35_c f36_r0 f36_c f37_r0 f37_r1 f37_r2 f37_r3 f37_r4 f37_l5 f37_i5 f37_c f38_r0 f38_r1 f38_r2 f38_r3 f38_r4 f38_r5 f38_r6 f38_l7 f38_i7 f38_r8 f38_c f39_r0 f39_r1 f39_c f40_r0 f40_r1 f40_r2 f40_r3 f40_a4 f40_b4 f40_r5 f40_c f41_r0 f41_r1 f41_r2 f41_r3 f41_r4 f41_r5 f41_l6 f41_i6 f41_r7 f41_r8 f41_r9 f41_r10 f41_r11 f41_r12 f41_r13 f41_l14 f41_i14 f41_r15 f41_r16 f41_r17 f41_r18 f41_l19 f41_i19 f41_c f42_r0 f42_r1 f42_r2 f42_r3 f42_r4 f42_r5 f42_l6 f42_i6 f42_r7 f42_l8 f42_i8 f42_c f43_r0 f43_r1 f43_r2 f43_r3 f43_r4 f43_r5 f43_r6 f43_r7 f43_l8 f43_i8 f43_r9 f43_r10 f43_r11 f43_r12 f43_l13 f43_i13 f43_r14 f43_r15 f43_r16 f43_r17 f43_r18 f43_r19 f43_r20 f43_r21 f43_l22 f43_i22 f43_r23 f43_r24 f43_r25 f43_r26 f43_l27 f43_i27 f43_r28 f43_r29 f43_r30 f43_r31 f43_r32 f43_r33 f43_r34 f43_r35 f43_r36 f43_r37 f43_r38 f43_r39 f43_r40 f43_r41 f43_l42 f43_i42 f43_r43 f43_r44 f43_r45 f43_r46 f43_r47 f43_r48 f43_r49 f43_c f44_r0 f44_r1 f44_r2 f44_r3 f44_r4 f44_r5 f44_r6 f44_r7 f44_l8 f44_i8 f44_r9 f44_c f45_r0 f45_r1 f45_r2 f45_r3 f45_l4 f45_i4 f45_c T3 T4 T5 T22 T24 T25 T27 T30 T49 T52 T54 T57 T58 T67 ti3 ti4 ti5 ti22 ti24 ti25 ti27 ti30 ti49 ti52 ti54 ti57 ti58 ti67

end Go.Proofs.Ytbpkppidbdhopaa.W
