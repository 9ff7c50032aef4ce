/- Part of a program logic over data: rules of the walk, each proved. -/
import Derived.Test.YtdliolbjngcgcaaGreatDoorChecked
import Derived.Test.YtdliolbjngcgcaaGreatDoorLogicC
import Derived.KernelRfl
set_option linter.unusedVariables false
set_option linter.unusedSimpArgs false
set_option linter.unusedSectionVars false
set_option maxRecDepth 100000
namespace Go.Proofs.YtdliolbjngcgcaaGreatDoor.W
open Go Go.Proofs Go.Proofs.YtdliolbjngcgcaaGreatDoor.AWP
/-! ### types -/
def ti3 : TI := ⟨.int .i64, 1, 8, [.int .i64 0]⟩
def ti4 : TI := ⟨.bool, 1, 1, [.bool false]⟩
def ti5 : TI := ⟨.int .u8, 1, 1, [.int .u8 0]⟩
def ti9 : TI := ⟨.str, 1, 16, [.string .empty]⟩
def ti20 : TI := ⟨.other, 1, 16, [.nilIface]⟩
def ti21 : TI := ⟨.int .i32, 1, 4, [.int .i32 0]⟩
def ti23 : TI := ⟨.slice 56, 1, 24, [.slice none 0 0]⟩
def ti24 : TI := ⟨.int .i64, 1, 8, [.int .i64 0]⟩
def ti32 : TI := ⟨.other, 1, 8, [.nilFunc]⟩
def ti33 : TI := ⟨.other, 1, 8, [.pointer none]⟩
def ti34 : TI := ⟨.map 9 4 (.bool false), 1, 8, [.map none]⟩
def ti36 : TI := ⟨.struct [(0, 23), (1, 34)], 2, 32, [.slice none 0 0, .map none]⟩
def ti47 : TI := ⟨.int .u64, 1, 8, [.int .u64 0]⟩
def ti49 : TI := ⟨.arr 4 47, 4, 32, [.int .u64 0, .int .u64 0, .int .u64 0, .int .u64 0]⟩
def ti50 : TI := ⟨.slice 52, 1, 24, [.slice none 0 0]⟩
def ti52 : TI := ⟨.struct [(0, 5), (1, 49), (5, 50)], 6, 64, [.int .u8 0, .int .u64 0, .int .u64 0, .int .u64 0, .int .u64 0, .slice none 0 0]⟩
def ti56 : TI := ⟨.struct [(0, 9), (1, 52)], 7, 80, [.string .empty, .int .u8 0, .int .u64 0, .int .u64 0, .int .u64 0, .int .u64 0, .slice none 0 0]⟩
def ti60 : TI := ⟨.other, 1, 8, [.pointer none]⟩
def ti61 : TI := ⟨.slice 5, 1, 24, [.slice none 0 0]⟩
def ti63 : TI := ⟨.struct [(0, 60), (1, 61)], 2, 32, [.pointer none, .slice none 0 0]⟩
def ti79 : TI := ⟨.struct [(0, 52), (6, 3), (7, 4)], 8, 80, [.int .u8 0, .int .u64 0, .int .u64 0, .int .u64 0, .int .u64 0, .slice none 0 0, .int .i64 0, .bool false]⟩
def ti81 : TI := ⟨.other, 1, 8, [.nilFunc]⟩
def ti84 : TI := ⟨.other, 1, 8, [.pointer none]⟩
def ti86 : TI := ⟨.struct [(0, 63)], 2, 32, [.pointer none, .slice none 0 0]⟩
def ti88 : TI := ⟨.other, 1, 8, [.pointer none]⟩
def ti90 : TI := ⟨.slice 9, 1, 24, [.slice none 0 0]⟩
def ti92 : TI := ⟨.other, 1, 8, [.pointer none]⟩
def ti94 : TI := ⟨.struct [(0, 9), (1, 3)], 2, 24, [.string .empty, .int .i64 0]⟩
def ti98 : TI := ⟨.slice 3, 1, 24, [.slice none 0 0]⟩
def ti100 : TI := ⟨.other, 1, 8, [.pointer none]⟩
def ti108 : TI := ⟨.struct [(0, 3)], 1, 8, [.int .i64 0]⟩
def ti130 : TI := ⟨.int .u32, 1, 4, [.int .u32 0]⟩
def ti139 : TI := ⟨.arr 64 5, 64, 64, [.int .u8 0, .int .u8 0, .int .u8 0, .int .u8 0, .int .u8 0, .int .u8 0, .int .u8 0, .int .u8 0, .int .u8 0, .int .u8 0, .int .u8 0, .int .u8 0, .int .u8 0, .int .u8 0, .int .u8 0, .int .u8 0, .int .u8 0, .int .u8 0, .int .u8 0, .int .u8 0, .int .u8 0, .int .u8 0, .int .u8 0, .int .u8 0, .int .u8 0, .int .u8 0, .int .u8 0, .int .u8 0, .int .u8 0, .int .u8 0, .int .u8 0, .int .u8 0, .int .u8 0, .int .u8 0, .int .u8 0, .int .u8 0, .int .u8 0, .int .u8 0, .int .u8 0, .int .u8 0, .int .u8 0, .int .u8 0, .int .u8 0, .int .u8 0, .int .u8 0, .int .u8 0, .int .u8 0, .int .u8 0, .int .u8 0, .int .u8 0, .int .u8 0, .int .u8 0, .int .u8 0, .int .u8 0, .int .u8 0, .int .u8 0, .int .u8 0, .int .u8 0, .int .u8 0, .int .u8 0, .int .u8 0, .int .u8 0, .int .u8 0, .int .u8 0]⟩
def ti154 : TI := ⟨.slice 49, 1, 24, [.slice none 0 0]⟩
def tab : List (Nat × TI) := [(3, ti3), (4, ti4), (5, ti5), (9, ti9), (20, ti20), (21, ti21), (23, ti23), (24, ti24), (32, ti32), (33, ti33), (34, ti34), (36, ti36), (47, ti47), (49, ti49), (50, ti50), (52, ti52), (56, ti56), (60, ti60), (61, ti61), (63, ti63), (79, ti79), (81, ti81), (84, ti84), (86, ti86), (88, ti88), (90, ti90), (92, ti92), (94, ti94), (98, ti98), (100, ti100), (108, ti108), (130, ti130), (139, ti139), (154, ti154)]
def T : Tab := fun t => (tab.find? fun p => p.1 == t).map (·.2)
theorem T3 : T 3 = some ti3 := rfl
theorem T4 : T 4 = some ti4 := rfl
theorem T5 : T 5 = some ti5 := rfl
theorem T9 : T 9 = some ti9 := rfl
theorem T20 : T 20 = some ti20 := rfl
theorem T21 : T 21 = some ti21 := rfl
theorem T23 : T 23 = some ti23 := rfl
theorem T24 : T 24 = some ti24 := rfl
theorem T32 : T 32 = some ti32 := rfl
theorem T33 : T 33 = some ti33 := rfl
theorem T34 : T 34 = some ti34 := rfl
theorem T36 : T 36 = some ti36 := rfl
theorem T47 : T 47 = some ti47 := rfl
theorem T49 : T 49 = some ti49 := rfl
theorem T50 : T 50 = some ti50 := rfl
theorem T52 : T 52 = some ti52 := rfl
theorem T56 : T 56 = some ti56 := rfl
theorem T60 : T 60 = some ti60 := rfl
theorem T61 : T 61 = some ti61 := rfl
theorem T63 : T 63 = some ti63 := rfl
theorem T79 : T 79 = some ti79 := rfl
theorem T81 : T 81 = some ti81 := rfl
theorem T84 : T 84 = some ti84 := rfl
theorem T86 : T 86 = some ti86 := rfl
theorem T88 : T 88 = some ti88 := rfl
theorem T90 : T 90 = some ti90 := rfl
theorem T92 : T 92 = some ti92 := rfl
theorem T94 : T 94 = some ti94 := rfl
theorem T98 : T 98 = some ti98 := rfl
theorem T100 : T 100 = some ti100 := rfl
theorem T108 : T 108 = some ti108 := rfl
theorem T130 : T 130 = some ti130 := rfl
theorem T139 : T 139 = some ti139 := rfl
theorem T154 : T 154 = some ti154 := rfl
theorem tab_ok : tabB Tryz.prog tab = true := by kernel_rfl
theorem hT : TabOk Tryz.prog T := by
  intro t i h
  unfold T at h
  simp only [Option.map_eq_some_iff] at h
  obtain ⟨p, hp, rfl⟩ := h
  have h1 := List.find?_some hp
  have h2 := List.mem_of_find?_eq_some hp
  simp only [beq_iff_eq] at h1
  obtain ⟨t', i'⟩ := p
  subst h1
  exact tabB_ok tab_ok t' i' h2
theorem hm : Tryz.prog.follows .mixedOrders = true := by kernel_rfl
/-! quill/quilllaw19.RulesReads -/
def f3_r0 : List LOp := [
  ⟨some 2, .assign (.const (.bool false)), none⟩]
def f3_r1 : List LOp := [
  ⟨some 14, .move (.tmp 0), none⟩,
  ⟨some 15, .call { callee := .builtin .len, args := #[.tmp 14], argTypes := #[9] }, none⟩,
  ⟨some 16, .binOp .gtr 3 (.tmp 15) (.const (.int .i64 2000)) 3, none⟩]
def f3_r2 : List LOp := [
  ⟨some 17, .call { callee := .value (.func 4), args := #[], argTypes := #[] }, none⟩,
  ⟨some 2, .assign (.tmp 17), none⟩]
def f3_r3 : List LOp := [
  ⟨some 19, .move (.tmp 0), none⟩,
  ⟨some 20, .call { callee := .value (.func 5), args := #[.tmp 19], argTypes := #[9] }, none⟩,
  ⟨some 18, .move (.tmp 20), none⟩,
  ⟨some 21, .extract (.tmp 18) 0, none⟩,
  ⟨some 22, .extract (.tmp 18) 1, none⟩,
  ⟨some 23, .extract (.tmp 18) 2, none⟩,
  ⟨some 3, .assign (.tmp 21), none⟩,
  ⟨some 4, .assign (.tmp 22), none⟩,
  ⟨some 5, .assign (.tmp 23), none⟩]
def f3_r4 : List LOp := [
  ⟨some 25, .move (.tmp 0), none⟩,
  ⟨some 26, .call { callee := .value (.func 6), args := #[.tmp 25], argTypes := #[9] }, none⟩,
  ⟨some 24, .move (.tmp 26), none⟩,
  ⟨some 27, .extract (.tmp 24) 0, none⟩,
  ⟨some 28, .extract (.tmp 24) 1, none⟩,
  ⟨some 29, .extract (.tmp 24) 2, none⟩,
  ⟨some 6, .assign (.tmp 27), none⟩,
  ⟨some 7, .assign (.tmp 28), none⟩,
  ⟨some 8, .assign (.tmp 29), none⟩]
def f3_r5 : List LOp := [
  ⟨some 30, .move (.tmp 5), none⟩,
  ⟨some 31, .move (.tmp 8), none⟩,
  ⟨some 32, .binOp .neq 3 (.tmp 30) (.tmp 31) 3, none⟩,
  ⟨some 33, .move (.tmp 32), none⟩,
  ⟨some 34, .move (.tmp 4), some (3, false)⟩,
  ⟨some 35, .move (.tmp 7), some (3, false)⟩,
  ⟨some 36, .binOp .neq 3 (.tmp 34) (.tmp 35) 3, some (3, false)⟩,
  ⟨some 37, .pick (.tmp 33) (.const (.bool true)) (.tmp 36), none⟩,
  ⟨some 38, .move (.tmp 37), none⟩,
  ⟨some 39, .move (.tmp 3), some (8, false)⟩,
  ⟨some 40, .move (.tmp 6), some (8, false)⟩,
  ⟨some 41, .call { callee := .value (.func 7), args := #[.tmp 39, .tmp 40], argTypes := #[23, 23] }, some (8, false)⟩,
  ⟨some 42, .unOp .not 4 (.tmp 41), some (8, false)⟩,
  ⟨some 43, .pick (.tmp 38) (.const (.bool true)) (.tmp 42), none⟩]
def f3_r6 : List LOp := [
  ⟨some 2, .assign (.const (.bool false)), none⟩]
def f3_r7 : List LOp := [
  ⟨some 44, .move (.tmp 8), none⟩,
  ⟨some 45, .binOp .neq 3 (.tmp 44) (.const (.int .i64 0)) 3, none⟩]
def f3_r8 : List LOp := [
  ⟨some 46, .call { callee := .value (.func 4), args := #[], argTypes := #[] }, none⟩,
  ⟨some 2, .assign (.tmp 46), none⟩]
def f3_r9 : List LOp := [
  ⟨some 48, .move (.tmp 3), none⟩,
  ⟨some 49, .call { callee := .value (.func 8), args := #[.tmp 48], argTypes := #[23] }, none⟩,
  ⟨some 47, .move (.tmp 49), none⟩,
  ⟨some 50, .extract (.tmp 47) 0, none⟩,
  ⟨some 51, .extract (.tmp 47) 1, none⟩,
  ⟨some 9, .assign (.tmp 50), none⟩,
  ⟨some 10, .assign (.tmp 51), none⟩]
def f3_r10 : List LOp := [
  ⟨some 53, .move (.tmp 9), none⟩,
  ⟨some 54, .call { callee := .value (.func 5), args := #[.tmp 53], argTypes := #[9] }, none⟩,
  ⟨some 52, .move (.tmp 54), none⟩,
  ⟨some 55, .extract (.tmp 52) 0, none⟩,
  ⟨some 56, .extract (.tmp 52) 1, none⟩,
  ⟨some 57, .extract (.tmp 52) 2, none⟩,
  ⟨some 11, .assign (.tmp 55), none⟩,
  ⟨some 12, .assign (.tmp 56), none⟩,
  ⟨some 13, .assign (.tmp 57), none⟩]
def f3_r11 : List LOp := [
  ⟨some 58, .move (.tmp 10), none⟩,
  ⟨some 59, .binOp .eql 24 (.tmp 58) (.const (.int .i64 0)) 24, none⟩,
  ⟨some 60, .move (.tmp 59), none⟩,
  ⟨some 61, .move (.tmp 13), some (2, true)⟩,
  ⟨some 62, .binOp .eql 24 (.tmp 61) (.const (.int .i64 0)) 24, some (2, true)⟩,
  ⟨some 63, .pick (.tmp 60) (.tmp 62) (.const (.bool false)), none⟩,
  ⟨some 64, .move (.tmp 63), none⟩,
  ⟨some 65, .move (.tmp 11), some (6, true)⟩,
  ⟨some 66, .move (.tmp 3), some (6, true)⟩,
  ⟨some 67, .call { callee := .value (.func 7), args := #[.tmp 65, .tmp 66], argTypes := #[23, 23] }, some (6, true)⟩,
  ⟨some 68, .pick (.tmp 64) (.tmp 67) (.const (.bool false)), none⟩,
  ⟨some 69, .move (.tmp 68), none⟩,
  ⟨some 70, .call { callee := .value (.func 4), args := #[], argTypes := #[] }, some (11, true)⟩,
  ⟨some 71, .pick (.tmp 69) (.tmp 70) (.const (.bool false)), none⟩,
  ⟨some 2, .assign (.tmp 71), none⟩]
def f3_c : LC := (.seq (.reg f3_r0 [] none) (.seq (.seq (.reg f3_r1 [] none) (.cond (.tmp 16) (.seq (.reg f3_r2 [] none) .ret) .skip)) (.seq (.reg f3_r3 [] none) (.seq (.reg f3_r4 [] none) (.seq (.seq (.reg f3_r5 [] none) (.cond (.tmp 43) (.seq (.reg f3_r6 [] none) .ret) .skip)) (.seq (.seq (.reg f3_r7 [] none) (.cond (.tmp 45) (.seq (.reg f3_r8 [] none) .ret) .skip)) (.seq (.reg f3_r9 [] none) (.seq (.reg f3_r10 [] none) (.seq (.reg f3_r11 [] none) .ret)))))))))
theorem f3_lc : Tryz.f3.body.map lc = some f3_c.st := by kernel_rfl
theorem f3_res : Tryz.f3.results.toList = [.tmp 2] := by kernel_rfl
theorem f3_nt : Tryz.f3.ntmps = 72 := by kernel_rfl
theorem f3_nm : (Tryz.f3.name == "runtime.NumGoroutine") = false := by kernel_rfl
/-! quill/quilllaw19.awake -/
def f4_r0 : List LOp := [
  ⟨some 0, .assign (.const (.bool false)), none⟩]
def f4_r1 : List LOp := [
  ⟨some 7, .call { callee := .value (.func 5), args := #[.const (.string { data := #[105, 100, 32, 91, 97, 45, 122, 93, 91, 97, 45, 122, 93, 42, 10] })], argTypes := #[9] }, none⟩,
  ⟨some 6, .move (.tmp 7), none⟩,
  ⟨some 8, .extract (.tmp 6) 0, none⟩,
  ⟨some 9, .extract (.tmp 6) 1, none⟩,
  ⟨some 10, .extract (.tmp 6) 2, none⟩,
  ⟨some 1, .assign (.tmp 8), none⟩,
  ⟨some 2, .assign (.tmp 9), none⟩,
  ⟨some 3, .assign (.tmp 10), none⟩]
def f4_r2 : List LOp := [
  ⟨some 12, .move (.tmp 1), none⟩,
  ⟨some 13, .call { callee := .value (.func 8), args := #[.tmp 12], argTypes := #[23] }, none⟩,
  ⟨some 11, .move (.tmp 13), none⟩,
  ⟨some 14, .extract (.tmp 11) 0, none⟩,
  ⟨some 15, .extract (.tmp 11) 1, none⟩,
  ⟨some 4, .assign (.tmp 14), none⟩,
  ⟨some 5, .assign (.tmp 15), none⟩]
def f4_r3 : List LOp := [
  ⟨some 16, .move (.tmp 3), none⟩,
  ⟨some 17, .binOp .eql 24 (.tmp 16) (.const (.int .i64 0)) 24, none⟩,
  ⟨some 18, .move (.tmp 17), none⟩,
  ⟨some 19, .move (.tmp 5), some (2, true)⟩,
  ⟨some 20, .binOp .eql 24 (.tmp 19) (.const (.int .i64 0)) 24, some (2, true)⟩,
  ⟨some 21, .pick (.tmp 18) (.tmp 20) (.const (.bool false)), none⟩,
  ⟨some 22, .move (.tmp 21), none⟩,
  ⟨some 23, .move (.tmp 4), some (6, true)⟩,
  ⟨some 24, .binOp .eql 9 (.tmp 23) (.const (.string { data := #[105, 100, 32, 91, 97, 45, 122, 93, 91, 97, 45, 122, 93, 42, 10] })) 9, some (6, true)⟩,
  ⟨some 25, .pick (.tmp 22) (.tmp 24) (.const (.bool false)), none⟩,
  ⟨some 0, .assign (.tmp 25), none⟩]
def f4_c : LC := (.seq (.reg f4_r0 [] none) (.seq (.reg f4_r1 [] none) (.seq (.reg f4_r2 [] none) (.seq (.reg f4_r3 [] none) .ret))))
theorem f4_lc : Tryz.f4.body.map lc = some f4_c.st := by kernel_rfl
theorem f4_res : Tryz.f4.results.toList = [.tmp 0] := by kernel_rfl
theorem f4_nt : Tryz.f4.ntmps = 26 := by kernel_rfl
theorem f4_nm : (Tryz.f4.name == "runtime.NumGoroutine") = false := by kernel_rfl
/-! quill/rules.Read -/
def f5_r0 : List LOp := [
  ⟨some 1, .box 9 (.tmp 0), none⟩,
  ⟨some 2, .alloc 23, none⟩,
  ⟨some 3, .alloc 3, none⟩,
  ⟨some 4, .alloc 24, none⟩]
def f5_r1 : List LOp := [
  ⟨some 12, .load 9 (.tmp 1), none⟩,
  ⟨some 13, .call { callee := .builtin .len, args := #[.tmp 12], argTypes := #[9] }, none⟩,
  ⟨some 14, .binOp .gtr 3 (.tmp 13) (.const (.int .i64 65536)) 3, none⟩]
def f5_r2 : List LOp := [
  ⟨none, .store 23 (.tmp 2) (.const (.slice none 0 0)), none⟩,
  ⟨none, .store 3 (.tmp 3) (.const (.int .i64 0)), none⟩,
  ⟨none, .store 24 (.tmp 4) (.const (.int .i64 3)), none⟩]
def f5_r3 : List LOp := [
  ⟨some 15, .makeMap 34 none, none⟩,
  ⟨some 16, .build 36 #[(1, .tmp 15)], none⟩,
  ⟨some 17, .box 36 (.tmp 16), none⟩,
  ⟨some 5, .alloc 33, none⟩,
  ⟨none, .store 33 (.tmp 5) (.tmp 17), none⟩]
def f5_r4 : List LOp := [
  ⟨some 6, .alloc 3, none⟩,
  ⟨none, .store 3 (.tmp 6) (.const (.int .i64 0)), none⟩]
def f5_r5 : List LOp := [
  ⟨some 18, .load 9 (.tmp 1), none⟩,
  ⟨some 19, .call { callee := .value (.func 9), args := #[.tmp 18], argTypes := #[9] }, none⟩]
def f5_r6 : List LOp := [
  ⟨some 7, .assign (.tmp 20), none⟩]
def f5_r7 : List LOp := [
  ⟨some 22, .move (.tmp 7), none⟩,
  ⟨some 23, .call { callee := .value (.func 10), args := #[.tmp 22, .const (.string { data := #[10] })], argTypes := #[9, 9] }, none⟩,
  ⟨some 21, .move (.tmp 23), none⟩,
  ⟨some 24, .extract (.tmp 21) 0, none⟩,
  ⟨some 25, .extract (.tmp 21) 1, none⟩,
  ⟨some 8, .assign (.tmp 24), none⟩,
  ⟨some 9, .assign (.tmp 25), none⟩]
def f5_r8 : List LOp := [
  ⟨some 26, .move (.tmp 9), none⟩,
  ⟨some 27, .unOp .not 4 (.tmp 26), none⟩]
def f5_r9 : List LOp := [
  ⟨some 28, .load 9 (.tmp 1), none⟩,
  ⟨some 29, .call { callee := .builtin .len, args := #[.tmp 28], argTypes := #[9] }, none⟩,
  ⟨none, .store 23 (.tmp 2) (.const (.slice none 0 0)), none⟩,
  ⟨none, .store 3 (.tmp 3) (.tmp 29), none⟩,
  ⟨none, .store 24 (.tmp 4) (.const (.int .i64 2)), none⟩]
def f5_r10 : List LOp := [
  ⟨some 31, .load 33 (.tmp 5), none⟩,
  ⟨some 32, .move (.tmp 8), none⟩,
  ⟨some 33, .call { callee := .value (.func 11), args := #[.tmp 31, .tmp 32], argTypes := #[33, 9] }, none⟩,
  ⟨some 30, .move (.tmp 33), none⟩,
  ⟨some 34, .extract (.tmp 30) 0, none⟩,
  ⟨some 35, .extract (.tmp 30) 1, none⟩,
  ⟨some 10, .assign (.tmp 34), none⟩,
  ⟨some 11, .assign (.tmp 35), none⟩]
def f5_r11 : List LOp := [
  ⟨some 36, .move (.tmp 11), none⟩,
  ⟨some 37, .binOp .neq 24 (.tmp 36) (.const (.int .i64 0)) 24, none⟩]
def f5_r12 : List LOp := [
  ⟨some 38, .load 3 (.tmp 6), none⟩,
  ⟨some 39, .move (.tmp 10), none⟩,
  ⟨some 40, .binOp .add 3 (.tmp 38) (.tmp 39) 3, none⟩,
  ⟨some 41, .move (.tmp 11), none⟩,
  ⟨none, .store 23 (.tmp 2) (.const (.slice none 0 0)), none⟩,
  ⟨none, .store 3 (.tmp 3) (.tmp 40), none⟩,
  ⟨none, .store 24 (.tmp 4) (.tmp 41), none⟩]
def f5_r13 : List LOp := [
  ⟨some 42, .load 3 (.tmp 6), none⟩,
  ⟨some 43, .move (.tmp 7), none⟩,
  ⟨some 44, .call { callee := .builtin .len, args := #[.tmp 43], argTypes := #[9] }, none⟩,
  ⟨some 45, .binOp .add 3 (.tmp 42) (.tmp 44) 3, none⟩,
  ⟨none, .store 3 (.tmp 6) (.tmp 45), none⟩]
def f5_a14 : LC := (.reg f5_r6 [] none)
def f5_b14 : LC := (.block 1 (.seq (.reg f5_r7 [] none) (.seq (.seq (.reg f5_r8 [] none) (.cond (.tmp 27) (.seq (.regt f5_r9 [] 0 (.both (.op 0 (.both (.op 1 (.op 2 (.op 3 (.op 4 .done)))) (.op 2 (.op 1 (.op 3 (.op 4 .done)))))) (.op 2 (.op 0 (.op 1 (.op 3 (.op 4 .done))))))) .ret) .skip)) (.seq (.seq (.reg f5_r10 [] none) (.seq (.reg f5_r11 [] none) (.cond (.tmp 37) (.seq (.regt f5_r12 [] 0 (.both (.op 0 (.both (.op 1 (.both (.op 2 (.both (.op 3 (.op 4 (.op 5 (.op 6 .done)))) (.op 4 (.both (.op 3 (.op 5 (.op 6 .done))) (.op 5 (.op 3 (.op 6 .done))))))) (.both (.op 3 (.both (.op 2 (.op 4 (.op 5 (.op 6 .done)))) (.op 4 (.op 2 (.op 5 (.op 6 .done)))))) (.op 4 (.both (.op 2 (.both (.op 3 (.op 5 (.op 6 .done))) (.op 5 (.op 3 (.op 6 .done))))) (.op 3 (.op 2 (.op 5 (.op 6 .done))))))))) (.both (.op 3 (.both (.op 1 (.both (.op 2 (.op 4 (.op 5 (.op 6 .done)))) (.op 4 (.op 2 (.op 5 (.op 6 .done)))))) (.op 4 (.op 1 (.op 2 (.op 5 (.op 6 .done))))))) (.op 4 (.both (.op 1 (.both (.op 2 (.both (.op 3 (.op 5 (.op 6 .done))) (.op 5 (.op 3 (.op 6 .done))))) (.op 3 (.op 2 (.op 5 (.op 6 .done)))))) (.op 3 (.op 1 (.op 2 (.op 5 (.op 6 .done)))))))))) (.both (.op 1 (.both (.op 0 (.both (.op 2 (.both (.op 3 (.op 4 (.op 5 (.op 6 .done)))) (.op 4 (.both (.op 3 (.op 5 (.op 6 .done))) (.op 5 (.op 3 (.op 6 .done))))))) (.both (.op 3 (.both (.op 2 (.op 4 (.op 5 (.op 6 .done)))) (.op 4 (.op 2 (.op 5 (.op 6 .done)))))) (.op 4 (.both (.op 2 (.both (.op 3 (.op 5 (.op 6 .done))) (.op 5 (.op 3 (.op 6 .done))))) (.op 3 (.op 2 (.op 5 (.op 6 .done))))))))) (.both (.op 3 (.both (.op 0 (.both (.op 2 (.op 4 (.op 5 (.op 6 .done)))) (.op 4 (.op 2 (.op 5 (.op 6 .done)))))) (.op 4 (.op 0 (.op 2 (.op 5 (.op 6 .done))))))) (.op 4 (.both (.op 0 (.both (.op 2 (.both (.op 3 (.op 5 (.op 6 .done))) (.op 5 (.op 3 (.op 6 .done))))) (.op 3 (.op 2 (.op 5 (.op 6 .done)))))) (.op 3 (.op 0 (.op 2 (.op 5 (.op 6 .done)))))))))) (.both (.op 3 (.both (.op 0 (.both (.op 1 (.both (.op 2 (.op 4 (.op 5 (.op 6 .done)))) (.op 4 (.op 2 (.op 5 (.op 6 .done)))))) (.op 4 (.op 1 (.op 2 (.op 5 (.op 6 .done))))))) (.both (.op 1 (.both (.op 0 (.both (.op 2 (.op 4 (.op 5 (.op 6 .done)))) (.op 4 (.op 2 (.op 5 (.op 6 .done)))))) (.op 4 (.op 0 (.op 2 (.op 5 (.op 6 .done))))))) (.op 4 (.both (.op 0 (.op 1 (.op 2 (.op 5 (.op 6 .done))))) (.op 1 (.op 0 (.op 2 (.op 5 (.op 6 .done)))))))))) (.op 4 (.both (.op 0 (.both (.op 1 (.both (.op 2 (.both (.op 3 (.op 5 (.op 6 .done))) (.op 5 (.op 3 (.op 6 .done))))) (.op 3 (.op 2 (.op 5 (.op 6 .done)))))) (.op 3 (.op 1 (.op 2 (.op 5 (.op 6 .done))))))) (.both (.op 1 (.both (.op 0 (.both (.op 2 (.both (.op 3 (.op 5 (.op 6 .done))) (.op 5 (.op 3 (.op 6 .done))))) (.op 3 (.op 2 (.op 5 (.op 6 .done)))))) (.op 3 (.op 0 (.op 2 (.op 5 (.op 6 .done))))))) (.op 3 (.both (.op 0 (.op 1 (.op 2 (.op 5 (.op 6 .done))))) (.op 1 (.op 0 (.op 2 (.op 5 (.op 6 .done)))))))))))))) .ret) .skip))) (.reg f5_r13 [] none)))))
def f5_r15 : List LOp := [
  ⟨some 47, .load 33 (.tmp 5), none⟩,
  ⟨some 48, .nilCheck (.tmp 47), none⟩,
  ⟨some 49, .fieldAddr 36 (.tmp 48) 0, none⟩,
  ⟨some 50, .load 23 (.tmp 49), none⟩,
  ⟨some 51, .call { callee := .builtin .len, args := #[.tmp 50], argTypes := #[23] }, none⟩,
  ⟨some 52, .binOp .eql 3 (.tmp 51) (.const (.int .i64 0)) 3, none⟩,
  ⟨some 46, .assign (.tmp 52), none⟩]
def f5_r16 : List LOp := [
  ⟨none, .store 23 (.tmp 2) (.const (.slice none 0 0)), none⟩,
  ⟨none, .store 3 (.tmp 3) (.const (.int .i64 0)), none⟩,
  ⟨none, .store 24 (.tmp 4) (.const (.int .i64 2)), none⟩]
def f5_r17 : List LOp := [
  ⟨some 54, .load 33 (.tmp 5), none⟩,
  ⟨some 55, .nilCheck (.tmp 54), none⟩,
  ⟨some 56, .fieldAddr 36 (.tmp 55) 0, none⟩,
  ⟨some 57, .load 23 (.tmp 56), none⟩,
  ⟨some 58, .call { callee := .value (.func 12), args := #[.tmp 57], argTypes := #[23] }, none⟩,
  ⟨some 59, .unOp .not 4 (.tmp 58), none⟩,
  ⟨some 53, .assign (.tmp 59), none⟩]
def f5_r18 : List LOp := [
  ⟨none, .store 23 (.tmp 2) (.const (.slice none 0 0)), none⟩,
  ⟨none, .store 3 (.tmp 3) (.const (.int .i64 0)), none⟩,
  ⟨none, .store 24 (.tmp 4) (.const (.int .i64 4)), none⟩]
def f5_r19 : List LOp := [
  ⟨some 60, .load 33 (.tmp 5), none⟩,
  ⟨some 61, .nilCheck (.tmp 60), none⟩,
  ⟨some 62, .fieldAddr 36 (.tmp 61) 0, none⟩,
  ⟨some 63, .load 23 (.tmp 62), none⟩,
  ⟨none, .store 23 (.tmp 2) (.tmp 63), none⟩,
  ⟨none, .store 3 (.tmp 3) (.const (.int .i64 0)), none⟩,
  ⟨none, .store 24 (.tmp 4) (.const (.int .i64 0)), none⟩]
def f5_c : LC := (.seq (.reg f5_r0 [] none) (.seq (.seq (.reg f5_r1 [] none) (.cond (.tmp 14) (.seq (.reg f5_r2 [] none) .ret) .skip)) (.seq (.reg f5_r3 [2] none) (.seq (.reg f5_r4 [] none) (.seq (.seq (.reg f5_r5 [] none) (.block 0 (.rfun (.tmp 19) [20] f5_a14 f5_b14))) (.seq (.block 2 (.seq (.reg f5_r15 [] none) (.cond (.tmp 46) (.seq (.reg f5_r16 [] none) .ret) (.seq (.reg f5_r17 [] none) (.cond (.tmp 53) (.seq (.reg f5_r18 [] none) .ret) .skip))))) (.seq (.reg f5_r19 [] none) .ret)))))))
theorem f5_lc : Tryz.f5.body.map lc = some f5_c.st := by kernel_rfl
theorem f5_res : Tryz.f5.results.toList = [.cell 2 23, .cell 3 3, .cell 4 24] := by kernel_rfl
theorem f5_nt : Tryz.f5.ntmps = 64 := by kernel_rfl
theorem f5_nm : (Tryz.f5.name == "runtime.NumGoroutine") = false := by kernel_rfl
/-! quill/quillref19.Read -/
def f6_r0 : List LOp := [
  ⟨some 2, .assign (.const (.slice none 0 0)), none⟩,
  ⟨some 3, .assign (.const (.int .i64 0)), none⟩,
  ⟨some 4, .assign (.const (.int .i64 0)), none⟩]
def f6_r1 : List LOp := [
  ⟨some 13, .buildSlice 23 0 #[], none⟩,
  ⟨some 5, .assign (.tmp 13), none⟩]
def f6_r2 : List LOp := [
  ⟨some 14, .move (.tmp 0), none⟩,
  ⟨some 15, .call { callee := .builtin .len, args := #[.tmp 14], argTypes := #[9] }, none⟩,
  ⟨some 16, .binOp .gtr 3 (.tmp 15) (.const (.int .i64 65536)) 3, none⟩]
def f6_r3 : List LOp := [
  ⟨some 17, .move (.tmp 5), none⟩,
  ⟨some 2, .assign (.tmp 17), none⟩,
  ⟨some 3, .assign (.const (.int .i64 0)), none⟩,
  ⟨some 4, .assign (.const (.int .i64 3)), none⟩]
def f6_r4 : List LOp := [
  ⟨some 18, .buildSlice 23 0 #[], none⟩,
  ⟨some 6, .assign (.tmp 18), none⟩]
def f6_r5 : List LOp := [
  ⟨some 7, .assign (.const (.int .i64 0)), none⟩]
def f6_r6 : List LOp := [
  ⟨some 19, .move (.tmp 7), none⟩,
  ⟨some 20, .move (.tmp 0), none⟩,
  ⟨some 21, .call { callee := .builtin .len, args := #[.tmp 20], argTypes := #[9] }, none⟩,
  ⟨some 22, .binOp .lss 3 (.tmp 19) (.tmp 21) 3, none⟩]
def f6_r7 : List LOp := [
  ⟨some 23, .move (.tmp 0), none⟩,
  ⟨some 24, .move (.tmp 7), none⟩,
  ⟨some 25, .move (.tmp 0), none⟩,
  ⟨some 26, .call { callee := .builtin .len, args := #[.tmp 25], argTypes := #[9] }, none⟩,
  ⟨some 27, .call { callee := .value (.func 13), args := #[.tmp 23, .const (.int .u8 10), .tmp 24, .tmp 26], argTypes := #[9, 5, 3, 3] }, none⟩,
  ⟨some 8, .assign (.tmp 27), none⟩]
def f6_r8 : List LOp := [
  ⟨some 28, .move (.tmp 8), none⟩,
  ⟨some 29, .move (.tmp 0), none⟩,
  ⟨some 30, .call { callee := .builtin .len, args := #[.tmp 29], argTypes := #[9] }, none⟩,
  ⟨some 31, .binOp .eql 3 (.tmp 28) (.tmp 30) 3, none⟩]
def f6_r9 : List LOp := [
  ⟨some 32, .move (.tmp 5), none⟩,
  ⟨some 33, .move (.tmp 8), none⟩,
  ⟨some 2, .assign (.tmp 32), none⟩,
  ⟨some 3, .assign (.tmp 33), none⟩,
  ⟨some 4, .assign (.const (.int .i64 2)), none⟩]
def f6_r10 : List LOp := [
  ⟨some 34, .move (.tmp 6), none⟩,
  ⟨some 35, .call { callee := .builtin .len, args := #[.tmp 34], argTypes := #[23] }, none⟩,
  ⟨some 36, .binOp .eql 3 (.tmp 35) (.const (.int .i64 100)) 3, none⟩]
def f6_r11 : List LOp := [
  ⟨some 37, .move (.tmp 5), none⟩,
  ⟨some 38, .move (.tmp 7), none⟩,
  ⟨some 2, .assign (.tmp 37), none⟩,
  ⟨some 3, .assign (.tmp 38), none⟩,
  ⟨some 4, .assign (.const (.int .i64 4)), none⟩]
def f6_r12 : List LOp := [
  ⟨some 39, .move (.tmp 0), none⟩,
  ⟨some 40, .move (.tmp 7), none⟩,
  ⟨some 41, .move (.tmp 8), none⟩,
  ⟨some 42, .call { callee := .value (.func 13), args := #[.tmp 39, .const (.int .u8 32), .tmp 40, .tmp 41], argTypes := #[9, 5, 3, 3] }, none⟩,
  ⟨some 9, .assign (.tmp 42), none⟩]
def f6_r13 : List LOp := [
  ⟨some 43, .move (.tmp 9), none⟩,
  ⟨some 44, .move (.tmp 8), none⟩,
  ⟨some 45, .binOp .eql 3 (.tmp 43) (.tmp 44) 3, none⟩,
  ⟨some 46, .move (.tmp 45), none⟩,
  ⟨some 47, .move (.tmp 0), some (3, false)⟩,
  ⟨some 48, .move (.tmp 7), some (3, false)⟩,
  ⟨some 49, .move (.tmp 9), some (3, false)⟩,
  ⟨some 50, .slice 9 (.tmp 47) (some (.tmp 48)) (some (.tmp 49)) none, some (3, false)⟩,
  ⟨some 51, .call { callee := .value (.func 14), args := #[.tmp 50], argTypes := #[9] }, some (3, false)⟩,
  ⟨some 52, .unOp .not 4 (.tmp 51), some (3, false)⟩,
  ⟨some 53, .pick (.tmp 46) (.const (.bool true)) (.tmp 52), none⟩,
  ⟨some 54, .move (.tmp 53), none⟩,
  ⟨some 55, .move (.tmp 6), some (11, false)⟩,
  ⟨some 56, .move (.tmp 0), some (11, false)⟩,
  ⟨some 57, .move (.tmp 7), some (11, false)⟩,
  ⟨some 58, .move (.tmp 9), some (11, false)⟩,
  ⟨some 59, .slice 9 (.tmp 56) (some (.tmp 57)) (some (.tmp 58)) none, some (11, false)⟩,
  ⟨some 60, .call { callee := .value (.func 15), args := #[.tmp 55, .tmp 59], argTypes := #[23, 9] }, some (11, false)⟩,
  ⟨some 61, .pick (.tmp 54) (.const (.bool true)) (.tmp 60), none⟩]
def f6_r14 : List LOp := [
  ⟨some 62, .move (.tmp 5), none⟩,
  ⟨some 63, .move (.tmp 7), none⟩,
  ⟨some 2, .assign (.tmp 62), none⟩,
  ⟨some 3, .assign (.tmp 63), none⟩,
  ⟨some 4, .assign (.const (.int .i64 2)), none⟩]
def f6_r15 : List LOp := [
  ⟨some 65, .move (.tmp 0), none⟩,
  ⟨some 66, .move (.tmp 9), none⟩,
  ⟨some 67, .binOp .add 3 (.tmp 66) (.const (.int .i64 1)) 3, none⟩,
  ⟨some 68, .move (.tmp 8), none⟩,
  ⟨some 69, .slice 9 (.tmp 65) (some (.tmp 67)) (some (.tmp 68)) none, none⟩,
  ⟨some 70, .call { callee := .value (.func 16), args := #[.tmp 69], argTypes := #[9] }, none⟩,
  ⟨some 64, .move (.tmp 70), none⟩,
  ⟨some 71, .extract (.tmp 64) 0, none⟩,
  ⟨some 72, .extract (.tmp 64) 1, none⟩,
  ⟨some 73, .extract (.tmp 64) 2, none⟩,
  ⟨some 10, .alloc 52, none⟩,
  ⟨none, .store 52 (.tmp 10) (.tmp 71), none⟩,
  ⟨some 11, .assign (.tmp 72), none⟩,
  ⟨some 12, .assign (.tmp 73), none⟩]
def f6_r16 : List LOp := [
  ⟨some 74, .move (.tmp 12), none⟩,
  ⟨some 75, .binOp .eql 3 (.tmp 74) (.const (.int .i64 2)) 3, none⟩]
def f6_r17 : List LOp := [
  ⟨some 76, .move (.tmp 5), none⟩,
  ⟨some 77, .move (.tmp 9), none⟩,
  ⟨some 78, .binOp .add 3 (.tmp 77) (.const (.int .i64 1)) 3, none⟩,
  ⟨some 79, .move (.tmp 11), none⟩,
  ⟨some 80, .binOp .add 3 (.tmp 78) (.tmp 79) 3, none⟩,
  ⟨some 2, .assign (.tmp 76), none⟩,
  ⟨some 3, .assign (.tmp 80), none⟩,
  ⟨some 4, .assign (.const (.int .i64 2)), none⟩]
def f6_r18 : List LOp := [
  ⟨some 81, .move (.tmp 12), none⟩,
  ⟨some 82, .binOp .neq 3 (.tmp 81) (.const (.int .i64 0)) 3, none⟩]
def f6_r19 : List LOp := [
  ⟨some 83, .move (.tmp 5), none⟩,
  ⟨some 84, .move (.tmp 7), none⟩,
  ⟨some 85, .move (.tmp 12), none⟩,
  ⟨some 2, .assign (.tmp 83), none⟩,
  ⟨some 3, .assign (.tmp 84), none⟩,
  ⟨some 4, .assign (.tmp 85), none⟩]
def f6_r20 : List LOp := [
  ⟨some 86, .move (.tmp 6), none⟩,
  ⟨some 87, .move (.tmp 0), none⟩,
  ⟨some 88, .move (.tmp 7), none⟩,
  ⟨some 89, .move (.tmp 9), none⟩,
  ⟨some 90, .slice 9 (.tmp 87) (some (.tmp 88)) (some (.tmp 89)) none, none⟩,
  ⟨some 91, .load 52 (.tmp 10), none⟩,
  ⟨some 92, .build 56 #[(0, .tmp 90), (1, .tmp 91)], none⟩,
  ⟨some 93, .buildSlice 23 1 #[(0, .tmp 92)], none⟩,
  ⟨some 94, .call { callee := .builtin .append, args := #[.tmp 86, .tmp 93], argTypes := #[23, 23] }, none⟩,
  ⟨some 6, .assign (.tmp 94), none⟩]
def f6_r21 : List LOp := [
  ⟨some 95, .move (.tmp 8), none⟩,
  ⟨some 96, .binOp .add 3 (.tmp 95) (.const (.int .i64 1)) 3, none⟩,
  ⟨some 7, .assign (.tmp 96), none⟩]
def f6_l22 : LC := (.seq (.seq (.reg f6_r6 [] none) (.cond (.tmp 22) .skip (.exit 0))) (.block 1 (.seq (.reg f6_r7 [] none) (.seq (.seq (.reg f6_r8 [] none) (.cond (.tmp 31) (.seq (.reg f6_r9 [] none) .ret) .skip)) (.seq (.seq (.reg f6_r10 [] none) (.cond (.tmp 36) (.seq (.reg f6_r11 [] none) .ret) .skip)) (.seq (.reg f6_r12 [] none) (.seq (.seq (.reg f6_r13 [] none) (.cond (.tmp 61) (.seq (.reg f6_r14 [] none) .ret) .skip)) (.seq (.reg f6_r15 [] none) (.seq (.seq (.reg f6_r16 [] none) (.cond (.tmp 75) (.seq (.reg f6_r17 [] none) .ret) .skip)) (.seq (.seq (.reg f6_r18 [] none) (.cond (.tmp 82) (.seq (.reg f6_r19 [] none) .ret) .skip)) (.seq (.reg f6_r20 [] (some 8)) (.reg f6_r21 [] none))))))))))))
def f6_i22 (t0 t5 t6 t7 : D) : List D := [t0, .any, .any, .any, .any, t5, t6, t7, .any, .any, .any, .any, .any, .any, .any, .any, .any, .any, .any, .any, .any, .any, .any, .any, .any, .any, .any, .any, .any, .any, .any, .any, .any, .any, .any, .any, .any, .any, .any, .any, .any, .any, .any, .any, .any, .any, .any, .any, .any, .any, .any, .any, .any, .any, .any, .any, .any, .any, .any, .any, .any, .any, .any, .any, .any, .any, .any, .any, .any, .any, .any, .any, .any, .any, .any, .any, .any, .any, .any, .any, .any, .any, .any, .any, .any, .any, .any, .any, .any, .any, .any, .any, .any, .any, .any, .any, .any, .any, .any, .any, .any, .any, .any, .any, .any, .any]
def f6_r23 : List LOp := [
  ⟨some 97, .move (.tmp 6), none⟩,
  ⟨some 98, .call { callee := .builtin .len, args := #[.tmp 97], argTypes := #[23] }, none⟩,
  ⟨some 99, .binOp .eql 3 (.tmp 98) (.const (.int .i64 0)) 3, none⟩]
def f6_r24 : List LOp := [
  ⟨some 100, .move (.tmp 5), none⟩,
  ⟨some 2, .assign (.tmp 100), none⟩,
  ⟨some 3, .assign (.const (.int .i64 0)), none⟩,
  ⟨some 4, .assign (.const (.int .i64 2)), none⟩]
def f6_r25 : List LOp := [
  ⟨some 101, .move (.tmp 6), none⟩,
  ⟨some 102, .call { callee := .value (.func 17), args := #[.tmp 101], argTypes := #[23] }, none⟩,
  ⟨some 103, .binOp .gtr 3 (.tmp 102) (.const (.int .i64 2000)) 3, none⟩]
def f6_r26 : List LOp := [
  ⟨some 104, .move (.tmp 5), none⟩,
  ⟨some 2, .assign (.tmp 104), none⟩,
  ⟨some 3, .assign (.const (.int .i64 0)), none⟩,
  ⟨some 4, .assign (.const (.int .i64 4)), none⟩]
def f6_r27 : List LOp := [
  ⟨some 105, .move (.tmp 6), none⟩,
  ⟨some 2, .assign (.tmp 105), none⟩,
  ⟨some 3, .assign (.const (.int .i64 0)), none⟩,
  ⟨some 4, .assign (.const (.int .i64 0)), none⟩]
def f6_c : LC := (.seq (.reg f6_r0 [] none) (.seq (.reg f6_r1 [0] none) (.seq (.seq (.reg f6_r2 [] none) (.cond (.tmp 16) (.seq (.reg f6_r3 [] none) .ret) .skip)) (.seq (.reg f6_r4 [0] none) (.seq (.reg f6_r5 [] none) (.seq (.block 0 (.loop f6_l22)) (.seq (.seq (.reg f6_r23 [] none) (.cond (.tmp 99) (.seq (.reg f6_r24 [] none) .ret) .skip)) (.seq (.seq (.reg f6_r25 [] none) (.cond (.tmp 103) (.seq (.reg f6_r26 [] none) .ret) .skip)) (.seq (.reg f6_r27 [] none) .ret)))))))))
theorem f6_lc : Tryz.f6.body.map lc = some f6_c.st := by kernel_rfl
theorem f6_res : Tryz.f6.results.toList = [.tmp 2, .tmp 3, .tmp 4] := by kernel_rfl
theorem f6_nt : Tryz.f6.ntmps = 106 := by kernel_rfl
theorem f6_nm : (Tryz.f6.name == "runtime.NumGoroutine") = false := by kernel_rfl
/-! quill/quillref19.Same -/
def f7_r0 : List LOp := [
  ⟨some 4, .assign (.const (.bool false)), none⟩]
def f7_r1 : List LOp := [
  ⟨some 6, .move (.tmp 0), none⟩,
  ⟨some 7, .call { callee := .builtin .len, args := #[.tmp 6], argTypes := #[23] }, none⟩,
  ⟨some 8, .move (.tmp 1), none⟩,
  ⟨some 9, .call { callee := .builtin .len, args := #[.tmp 8], argTypes := #[23] }, none⟩,
  ⟨some 10, .binOp .neq 3 (.tmp 7) (.tmp 9) 3, none⟩]
def f7_r2 : List LOp := [
  ⟨some 4, .assign (.const (.bool false)), none⟩]
def f7_r3 : List LOp := [
  ⟨some 11, .move (.tmp 0), none⟩,
  ⟨some 12, .call { callee := .builtin .len, args := #[.tmp 11], argTypes := #[23] }, none⟩,
  ⟨some 13, .move (.const (.int .i64 0)), none⟩]
def f7_r4 : List LOp := [
  ⟨some 14, .binOp .lss 3 (.tmp 13) (.tmp 12) 3, none⟩]
def f7_r5 : List LOp := [
  ⟨some 15, .move (.tmp 13), none⟩,
  ⟨some 5, .assign (.tmp 15), none⟩]
def f7_r6 : List LOp := [
  ⟨some 16, .move (.tmp 0), none⟩,
  ⟨some 17, .move (.tmp 5), none⟩,
  ⟨some 18, .indexAddr 23 (.tmp 16) (.tmp 17), none⟩,
  ⟨some 19, .fieldAddr 56 (.tmp 18) 0, none⟩,
  ⟨some 20, .load 9 (.tmp 19), none⟩,
  ⟨some 21, .move (.tmp 1), none⟩,
  ⟨some 22, .move (.tmp 5), none⟩,
  ⟨some 23, .indexAddr 23 (.tmp 21) (.tmp 22), none⟩,
  ⟨some 24, .fieldAddr 56 (.tmp 23) 0, none⟩,
  ⟨some 25, .load 9 (.tmp 24), none⟩,
  ⟨some 26, .binOp .neq 9 (.tmp 20) (.tmp 25) 9, none⟩,
  ⟨some 27, .move (.tmp 26), none⟩,
  ⟨some 28, .move (.tmp 0), some (11, false)⟩,
  ⟨some 29, .move (.tmp 5), some (11, false)⟩,
  ⟨some 30, .indexAddr 23 (.tmp 28) (.tmp 29), some (11, false)⟩,
  ⟨some 31, .fieldAddr 56 (.tmp 30) 1, some (11, false)⟩,
  ⟨some 32, .load 52 (.tmp 31), some (11, false)⟩,
  ⟨some 33, .move (.tmp 1), some (11, false)⟩,
  ⟨some 34, .move (.tmp 5), some (11, false)⟩,
  ⟨some 35, .indexAddr 23 (.tmp 33) (.tmp 34), some (11, false)⟩,
  ⟨some 36, .fieldAddr 56 (.tmp 35) 1, some (11, false)⟩,
  ⟨some 37, .load 52 (.tmp 36), some (11, false)⟩,
  ⟨some 38, .call { callee := .value (.func 18), args := #[.tmp 32, .tmp 37], argTypes := #[52, 52] }, some (11, false)⟩,
  ⟨some 39, .unOp .not 4 (.tmp 38), some (11, false)⟩,
  ⟨some 40, .pick (.tmp 27) (.const (.bool true)) (.tmp 39), none⟩]
def f7_r7 : List LOp := [
  ⟨some 4, .assign (.const (.bool false)), none⟩]
def f7_r8 : List LOp := [
  ⟨some 41, .binOp .add 3 (.tmp 13) (.const (.int .i64 1)) 3, none⟩,
  ⟨some 13, .move (.tmp 41), none⟩]
def f7_l9 : LC := (.seq (.reg f7_r4 [] none) (.seq (.cond (.tmp 14) .skip (.exit 0)) (.seq (.block 1 (.seq (.reg f7_r5 [] none) (.seq (.reg f7_r6 [] (some 22)) (.cond (.tmp 40) (.seq (.reg f7_r7 [] none) .ret) .skip)))) (.reg f7_r8 [] none))))
def f7_i9 (t0 t1 t12 t13 : D) : List D := [t0, t1, .any, .any, .any, .any, .any, .any, .any, .any, .any, .any, t12, t13, .any, .any, .any, .any, .any, .any, .any, .any, .any, .any, .any, .any, .any, .any, .any, .any, .any, .any, .any, .any, .any, .any, .any, .any, .any, .any, .any, .any]
def f7_r10 : List LOp := [
  ⟨some 4, .assign (.const (.bool true)), none⟩]
def f7_c : LC := (.seq (.reg f7_r0 [] none) (.seq (.seq (.reg f7_r1 [] none) (.cond (.tmp 10) (.seq (.reg f7_r2 [] none) .ret) .skip)) (.seq (.seq (.reg f7_r3 [] none) (.block 0 (.loop f7_l9))) (.seq (.reg f7_r10 [] none) .ret))))
theorem f7_lc : Tryz.f7.body.map lc = some f7_c.st := by kernel_rfl
theorem f7_res : Tryz.f7.results.toList = [.tmp 4] := by kernel_rfl
theorem f7_nt : Tryz.f7.ntmps = 42 := by kernel_rfl
theorem f7_nm : (Tryz.f7.name == "runtime.NumGoroutine") = false := by kernel_rfl
/-! quill/rules.Print -/
def f8_r0 : List LOp := [
  ⟨some 2, .assign (.const (.string { data := #[] })), none⟩,
  ⟨some 3, .assign (.const (.int .i64 0)), none⟩]
def f8_r1 : List LOp := [
  ⟨some 7, .move (.tmp 0), none⟩,
  ⟨some 8, .call { callee := .value (.func 19), args := #[.tmp 7], argTypes := #[23] }, none⟩,
  ⟨some 9, .unOp .not 4 (.tmp 8), none⟩]
def f8_r2 : List LOp := [
  ⟨some 2, .assign (.const (.string { data := #[] })), none⟩,
  ⟨some 3, .assign (.const (.int .i64 1)), none⟩]
def f8_r3 : List LOp := [
  ⟨some 4, .alloc 63, none⟩]
def f8_r4 : List LOp := [
  ⟨some 10, .move (.tmp 0), none⟩,
  ⟨some 11, .call { callee := .builtin .len, args := #[.tmp 10], argTypes := #[23] }, none⟩,
  ⟨some 12, .move (.const (.int .i64 0)), none⟩]
def f8_r5 : List LOp := [
  ⟨some 13, .binOp .lss 3 (.tmp 12) (.tmp 11) 3, none⟩]
def f8_r6 : List LOp := [
  ⟨some 14, .indexAddr 23 (.tmp 10) (.tmp 12), none⟩,
  ⟨some 15, .load 56 (.tmp 14), none⟩,
  ⟨some 6, .alloc 56, none⟩,
  ⟨none, .store 56 (.tmp 6) (.tmp 15), none⟩]
def f8_r7 : List LOp := [
  ⟨some 16, .fieldAddr 56 (.tmp 6) 0, none⟩,
  ⟨some 17, .load 9 (.tmp 16), none⟩,
  ⟨some 18, .binOp .add 9 (.tmp 17) (.const (.string { data := #[32] })) 9, none⟩,
  ⟨some 19, .fieldAddr 56 (.tmp 6) 1, none⟩,
  ⟨some 20, .load 52 (.tmp 19), none⟩,
  ⟨some 21, .call { callee := .value (.func 21), args := #[.tmp 20], argTypes := #[52] }, none⟩,
  ⟨some 22, .binOp .add 9 (.tmp 18) (.tmp 21) 9, none⟩,
  ⟨some 23, .binOp .add 9 (.tmp 22) (.const (.string { data := #[10] })) 9, none⟩,
  ⟨some 24, .call { callee := .value (.func 20), args := #[.tmp 4, .tmp 23], argTypes := #[63, 9] }, none⟩]
def f8_r8 : List LOp := [
  ⟨some 25, .binOp .add 3 (.tmp 12) (.const (.int .i64 1)) 3, none⟩,
  ⟨some 12, .move (.tmp 25), none⟩]
def f8_l9 : LC := (.seq (.reg f8_r5 [] none) (.seq (.cond (.tmp 13) .skip (.exit 0)) (.seq (.block 1 (.seq (.reg f8_r6 [] none) (.reg f8_r7 [] (some 6)))) (.reg f8_r8 [] none))))
def f8_i9 (t4 t10 t11 t12 : D) : List D := [.any, .any, .any, .any, t4, .any, .any, .any, .any, .any, t10, t11, t12, .any, .any, .any, .any, .any, .any, .any, .any, .any, .any, .any, .any, .any, .any, .any, .any]
def f8_r10 : List LOp := [
  ⟨some 26, .call { callee := .value (.func 22), args := #[.tmp 4], argTypes := #[63] }, none⟩,
  ⟨some 27, .binOp .gtr 3 (.tmp 26) (.const (.int .i64 65536)) 3, none⟩]
def f8_r11 : List LOp := [
  ⟨some 2, .assign (.const (.string { data := #[] })), none⟩,
  ⟨some 3, .assign (.const (.int .i64 3)), none⟩]
def f8_r12 : List LOp := [
  ⟨some 28, .call { callee := .value (.func 23), args := #[.tmp 4], argTypes := #[63] }, none⟩,
  ⟨some 2, .assign (.tmp 28), none⟩,
  ⟨some 3, .assign (.const (.int .i64 0)), none⟩]
def f8_c : LC := (.seq (.reg f8_r0 [] none) (.seq (.seq (.reg f8_r1 [] none) (.cond (.tmp 9) (.seq (.reg f8_r2 [] none) .ret) .skip)) (.seq (.reg f8_r3 [] none) (.seq (.seq (.reg f8_r4 [] none) (.block 0 (.loop f8_l9))) (.seq (.seq (.reg f8_r10 [] none) (.cond (.tmp 27) (.seq (.reg f8_r11 [] none) .ret) .skip)) (.seq (.reg f8_r12 [] none) .ret))))))
theorem f8_lc : Tryz.f8.body.map lc = some f8_c.st := by kernel_rfl
theorem f8_res : Tryz.f8.results.toList = [.tmp 2, .tmp 3] := by kernel_rfl
theorem f8_nt : Tryz.f8.ntmps = 29 := by kernel_rfl
theorem f8_nm : (Tryz.f8.name == "runtime.NumGoroutine") = false := by kernel_rfl
/-! strings.Lines -/
def f9_r0 : List LOp := [
  ⟨some 1, .box 9 (.tmp 0), none⟩,
  ⟨some 2, .assign (.const .nilFunc), none⟩]
def f9_r1 : List LOp := [
  ⟨some 3, .makeFunc (.func 24) #[] #[.tmp 1], none⟩,
  ⟨some 2, .assign (.tmp 3), none⟩]
def f9_c : LC := (.seq (.reg f9_r0 [0] none) (.seq (.reg f9_r1 [] none) .ret))
theorem f9_lc : Tryz.f9.body.map lc = some f9_c.st := by kernel_rfl
theorem f9_res : Tryz.f9.results.toList = [.tmp 2] := by kernel_rfl
theorem f9_nt : Tryz.f9.ntmps = 4 := by kernel_rfl
theorem f9_nm : (Tryz.f9.name == "runtime.NumGoroutine") = false := by kernel_rfl
/-! strings.CutSuffix -/
def f10_r0 : List LOp := [
  ⟨some 4, .assign (.const (.string { data := #[] })), none⟩,
  ⟨some 5, .assign (.const (.bool false)), none⟩]
def f10_r1 : List LOp := [
  ⟨some 6, .move (.tmp 0), none⟩,
  ⟨some 7, .move (.tmp 1), none⟩,
  ⟨some 8, .call { callee := .value (.func 26), args := #[.tmp 6, .tmp 7], argTypes := #[9, 9] }, none⟩,
  ⟨some 9, .extract (.tmp 8) 0, none⟩,
  ⟨some 10, .extract (.tmp 8) 1, none⟩,
  ⟨some 4, .assign (.tmp 9), none⟩,
  ⟨some 5, .assign (.tmp 10), none⟩]
def f10_c : LC := (.seq (.reg f10_r0 [] none) (.seq (.reg f10_r1 [] none) .ret))
theorem f10_lc : Tryz.f10.body.map lc = some f10_c.st := by kernel_rfl
theorem f10_res : Tryz.f10.results.toList = [.tmp 4, .tmp 5] := by kernel_rfl
theorem f10_nt : Tryz.f10.ntmps = 11 := by kernel_rfl
theorem f10_nm : (Tryz.f10.name == "runtime.NumGoroutine") = false := by kernel_rfl
/-! (*quill/rules.reader).line -/
def f11_r0 : List LOp := [
  ⟨some 4, .assign (.const (.int .i64 0)), none⟩,
  ⟨some 5, .assign (.const (.int .i64 0)), none⟩]
def f11_r1 : List LOp := [
  ⟨some 13, .move (.tmp 1), none⟩,
  ⟨some 14, .call { callee := .value (.func 27), args := #[.tmp 13, .const (.string { data := #[32] })], argTypes := #[9, 9] }, none⟩,
  ⟨some 12, .move (.tmp 14), none⟩,
  ⟨some 15, .extract (.tmp 12) 0, none⟩,
  ⟨some 16, .extract (.tmp 12) 1, none⟩,
  ⟨some 17, .extract (.tmp 12) 2, none⟩,
  ⟨some 6, .assign (.tmp 15), none⟩,
  ⟨some 7, .assign (.tmp 16), none⟩,
  ⟨some 8, .assign (.tmp 17), none⟩]
def f11_r2 : List LOp := [
  ⟨some 19, .move (.tmp 0), none⟩,
  ⟨some 20, .nilCheck (.tmp 19), none⟩,
  ⟨some 21, .fieldAddr 36 (.tmp 20) 0, none⟩,
  ⟨some 22, .load 23 (.tmp 21), none⟩,
  ⟨some 23, .call { callee := .builtin .len, args := #[.tmp 22], argTypes := #[23] }, none⟩,
  ⟨some 24, .binOp .geq 3 (.tmp 23) (.const (.int .i64 100)) 3, none⟩,
  ⟨some 18, .assign (.tmp 24), none⟩]
def f11_r3 : List LOp := [
  ⟨some 4, .assign (.const (.int .i64 0)), none⟩,
  ⟨some 5, .assign (.const (.int .i64 4)), none⟩]
def f11_r4 : List LOp := [
  ⟨some 26, .move (.tmp 8), none⟩,
  ⟨some 27, .unOp .not 4 (.tmp 26), none⟩,
  ⟨some 28, .move (.tmp 27), none⟩,
  ⟨some 29, .move (.tmp 6), some (2, false)⟩,
  ⟨some 30, .buildSlice 90 1 #[(0, .tmp 29)], some (2, false)⟩,
  ⟨some 31, .call { callee := .value (.func 28), args := #[.tmp 30], argTypes := #[90] }, some (2, false)⟩,
  ⟨some 32, .unOp .not 4 (.tmp 31), some (2, false)⟩,
  ⟨some 33, .pick (.tmp 28) (.const (.bool true)) (.tmp 32), none⟩,
  ⟨some 34, .move (.tmp 33), none⟩,
  ⟨some 35, .move (.tmp 0), some (8, false)⟩,
  ⟨some 36, .nilCheck (.tmp 35), some (8, false)⟩,
  ⟨some 37, .fieldAddr 36 (.tmp 36) 1, some (8, false)⟩,
  ⟨some 38, .load 34 (.tmp 37), some (8, false)⟩,
  ⟨some 39, .move (.tmp 6), some (8, false)⟩,
  ⟨some 40, .lookup 34 (.tmp 38) (.tmp 39) false, some (8, false)⟩,
  ⟨some 41, .pick (.tmp 34) (.const (.bool true)) (.tmp 40), none⟩,
  ⟨some 25, .assign (.tmp 41), none⟩]
def f11_r5 : List LOp := [
  ⟨some 4, .assign (.const (.int .i64 0)), none⟩,
  ⟨some 5, .assign (.const (.int .i64 2)), none⟩]
def f11_r6 : List LOp := [
  ⟨some 43, .move (.tmp 7), none⟩,
  ⟨some 44, .call { callee := .value (.func 29), args := #[.tmp 43], argTypes := #[9] }, none⟩,
  ⟨some 42, .move (.tmp 44), none⟩,
  ⟨some 45, .extract (.tmp 42) 0, none⟩,
  ⟨some 46, .extract (.tmp 42) 1, none⟩,
  ⟨some 47, .extract (.tmp 42) 2, none⟩,
  ⟨some 9, .alloc 52, none⟩,
  ⟨none, .store 52 (.tmp 9) (.tmp 45), none⟩,
  ⟨some 10, .assign (.tmp 46), none⟩,
  ⟨some 11, .assign (.tmp 47), none⟩]
def f11_r7 : List LOp := [
  ⟨some 48, .move (.tmp 11), none⟩,
  ⟨some 49, .binOp .eql 24 (.tmp 48) (.const (.int .i64 2)) 24, none⟩]
def f11_r8 : List LOp := [
  ⟨some 50, .move (.tmp 6), none⟩,
  ⟨some 51, .call { callee := .builtin .len, args := #[.tmp 50], argTypes := #[9] }, none⟩,
  ⟨some 52, .binOp .add 3 (.tmp 51) (.const (.int .i64 1)) 3, none⟩,
  ⟨some 53, .move (.tmp 10), none⟩,
  ⟨some 54, .binOp .add 3 (.tmp 52) (.tmp 53) 3, none⟩,
  ⟨some 55, .move (.tmp 11), none⟩,
  ⟨some 4, .assign (.tmp 54), none⟩,
  ⟨some 5, .assign (.tmp 55), none⟩]
def f11_r9 : List LOp := [
  ⟨some 56, .move (.tmp 0), none⟩,
  ⟨some 57, .nilCheck (.tmp 56), none⟩,
  ⟨some 58, .fieldAddr 36 (.tmp 57) 1, none⟩,
  ⟨some 59, .load 34 (.tmp 58), none⟩,
  ⟨some 60, .move (.tmp 6), none⟩,
  ⟨none, .mapUpdate 34 (.tmp 59) (.tmp 60) (.const (.bool true)), none⟩]
def f11_r10 : List LOp := [
  ⟨some 61, .move (.tmp 0), none⟩,
  ⟨some 62, .move (.tmp 0), none⟩,
  ⟨some 63, .nilCheck (.tmp 62), none⟩,
  ⟨some 64, .fieldAddr 36 (.tmp 63) 0, none⟩,
  ⟨some 65, .load 23 (.tmp 64), none⟩,
  ⟨some 66, .move (.tmp 6), none⟩,
  ⟨some 67, .load 52 (.tmp 9), none⟩,
  ⟨some 68, .build 56 #[(0, .tmp 66), (1, .tmp 67)], none⟩,
  ⟨some 69, .buildSlice 23 1 #[(0, .tmp 68)], none⟩,
  ⟨some 70, .call { callee := .builtin .append, args := #[.tmp 65, .tmp 69], argTypes := #[23, 23] }, none⟩,
  ⟨some 71, .nilCheck (.tmp 61), none⟩,
  ⟨some 72, .fieldAddr 36 (.tmp 71) 0, none⟩,
  ⟨none, .store 23 (.tmp 72) (.tmp 70), none⟩]
def f11_r11 : List LOp := [
  ⟨some 73, .move (.tmp 11), none⟩,
  ⟨some 4, .assign (.const (.int .i64 0)), none⟩,
  ⟨some 5, .assign (.tmp 73), none⟩]
def f11_c : LC := (.seq (.reg f11_r0 [] none) (.seq (.reg f11_r1 [] none) (.seq (.block 0 (.seq (.reg f11_r2 [] none) (.cond (.tmp 18) (.seq (.reg f11_r3 [] none) .ret) (.seq (.reg f11_r4 [] none) (.cond (.tmp 25) (.seq (.reg f11_r5 [] none) .ret) .skip))))) (.seq (.reg f11_r6 [] none) (.seq (.seq (.reg f11_r7 [] none) (.cond (.tmp 49) (.seq (.reg f11_r8 [] none) .ret) .skip)) (.seq (.reg f11_r9 [] none) (.seq (.regp f11_r10 [] [0, 1, 5] 9) (.seq (.reg f11_r11 [] none) .ret))))))))
theorem f11_lc : Tryz.f11.body.map lc = some f11_c.st := by kernel_rfl
theorem f11_res : Tryz.f11.results.toList = [.tmp 4, .tmp 5] := by kernel_rfl
theorem f11_nt : Tryz.f11.ntmps = 74 := by kernel_rfl
theorem f11_nm : (Tryz.f11.name == "runtime.NumGoroutine") = false := by kernel_rfl
/-! quill/rules.few -/
def f12_r0 : List LOp := [
  ⟨some 2, .assign (.const (.bool false)), none⟩]
def f12_r1 : List LOp := [
  ⟨some 6, .move (.tmp 0), none⟩,
  ⟨some 7, .call { callee := .builtin .len, args := #[.tmp 6], argTypes := #[23] }, none⟩,
  ⟨some 8, .binOp .sub 3 (.tmp 7) (.const (.int .i64 1)) 3, none⟩,
  ⟨some 3, .assign (.tmp 8), none⟩]
def f12_r2 : List LOp := [
  ⟨some 9, .move (.tmp 0), none⟩,
  ⟨some 10, .call { callee := .builtin .len, args := #[.tmp 9], argTypes := #[23] }, none⟩,
  ⟨some 11, .move (.const (.int .i64 0)), none⟩]
def f12_r3 : List LOp := [
  ⟨some 12, .binOp .lss 3 (.tmp 11) (.tmp 10) 3, none⟩]
def f12_r4 : List LOp := [
  ⟨some 13, .indexAddr 23 (.tmp 9) (.tmp 11), none⟩,
  ⟨some 14, .load 56 (.tmp 13), none⟩,
  ⟨some 5, .alloc 56, none⟩,
  ⟨none, .store 56 (.tmp 5) (.tmp 14), none⟩]
def f12_r5 : List LOp := [
  ⟨some 15, .move (.tmp 3), none⟩,
  ⟨some 16, .fieldAddr 56 (.tmp 5) 1, none⟩,
  ⟨some 17, .load 52 (.tmp 16), none⟩,
  ⟨some 18, .buildSlice 50 1 #[(0, .tmp 17)], none⟩,
  ⟨some 19, .call { callee := .value (.func 30), args := #[.tmp 18], argTypes := #[50] }, none⟩,
  ⟨some 20, .binOp .add 3 (.tmp 15) (.tmp 19) 3, none⟩,
  ⟨some 3, .assign (.tmp 20), none⟩]
def f12_r6 : List LOp := [
  ⟨some 21, .binOp .add 3 (.tmp 11) (.const (.int .i64 1)) 3, none⟩,
  ⟨some 11, .move (.tmp 21), none⟩]
def f12_l7 : LC := (.seq (.reg f12_r3 [] none) (.seq (.cond (.tmp 12) .skip (.exit 0)) (.seq (.block 1 (.seq (.reg f12_r4 [] none) (.reg f12_r5 [] none))) (.reg f12_r6 [] none))))
def f12_i7 (t3 t9 t10 t11 : D) : List D := [.any, .any, .any, t3, .any, .any, .any, .any, .any, t9, t10, t11, .any, .any, .any, .any, .any, .any, .any, .any, .any, .any, .any, .any]
def f12_r8 : List LOp := [
  ⟨some 22, .move (.tmp 3), none⟩,
  ⟨some 23, .binOp .leq 3 (.tmp 22) (.const (.int .i64 2000)) 3, none⟩,
  ⟨some 2, .assign (.tmp 23), none⟩]
def f12_c : LC := (.seq (.reg f12_r0 [] none) (.seq (.reg f12_r1 [] none) (.seq (.seq (.reg f12_r2 [] none) (.block 0 (.loop f12_l7))) (.seq (.reg f12_r8 [] none) .ret))))
theorem f12_lc : Tryz.f12.body.map lc = some f12_c.st := by kernel_rfl
theorem f12_res : Tryz.f12.results.toList = [.tmp 2] := by kernel_rfl
theorem f12_nt : Tryz.f12.ntmps = 24 := by kernel_rfl
theorem f12_nm : (Tryz.f12.name == "runtime.NumGoroutine") = false := by kernel_rfl
/-! quill/quillref19.find -/
def f13_r0 : List LOp := [
  ⟨some 8, .assign (.const (.int .i64 0)), none⟩]
def f13_r1 : List LOp := [
  ⟨some 10, .move (.tmp 2), none⟩,
  ⟨some 9, .assign (.tmp 10), none⟩]
def f13_r2 : List LOp := [
  ⟨some 11, .move (.tmp 9), none⟩,
  ⟨some 12, .move (.tmp 3), none⟩,
  ⟨some 13, .binOp .lss 3 (.tmp 11) (.tmp 12) 3, none⟩]
def f13_r3 : List LOp := [
  ⟨some 16, .move (.tmp 0), none⟩,
  ⟨some 17, .move (.tmp 9), none⟩,
  ⟨some 18, .index 9 (.tmp 16) (.tmp 17), none⟩,
  ⟨some 19, .move (.tmp 1), none⟩,
  ⟨some 20, .binOp .eql 5 (.tmp 18) (.tmp 19) 5, none⟩]
def f13_r4 : List LOp := [
  ⟨some 21, .move (.tmp 9), none⟩,
  ⟨some 8, .assign (.tmp 21), none⟩]
def f13_r5 : List LOp := [
  ⟨some 14, .move (.tmp 9), none⟩,
  ⟨some 15, .binOp .add 3 (.tmp 14) (.const (.int .i64 1)) 3, none⟩,
  ⟨some 9, .assign (.tmp 15), none⟩]
def f13_l6 : LC := (.seq (.seq (.reg f13_r2 [] none) (.cond (.tmp 13) .skip (.exit 0))) (.seq (.block 1 (.seq (.reg f13_r3 [] none) (.cond (.tmp 20) (.seq (.reg f13_r4 [] none) .ret) .skip))) (.reg f13_r5 [] none)))
def f13_i6 (t0 t1 t3 t9 : D) : List D := [t0, t1, .any, t3, .any, .any, .any, .any, .any, t9, .any, .any, .any, .any, .any, .any, .any, .any, .any, .any, .any, .any, .any]
def f13_r7 : List LOp := [
  ⟨some 22, .move (.tmp 3), none⟩,
  ⟨some 8, .assign (.tmp 22), none⟩]
def f13_c : LC := (.seq (.reg f13_r0 [] none) (.seq (.seq (.reg f13_r1 [] none) (.block 0 (.loop f13_l6))) (.seq (.reg f13_r7 [] none) .ret)))
theorem f13_lc : Tryz.f13.body.map lc = some f13_c.st := by kernel_rfl
theorem f13_res : Tryz.f13.results.toList = [.tmp 8] := by kernel_rfl
theorem f13_nt : Tryz.f13.ntmps = 23 := by kernel_rfl
theorem f13_nm : (Tryz.f13.name == "runtime.NumGoroutine") = false := by kernel_rfl
/-! quill/quillref01.Name -/
def f14_r0 : List LOp := [
  ⟨some 2, .assign (.const (.bool false)), none⟩]
def f14_r1 : List LOp := [
  ⟨some 5, .move (.tmp 0), none⟩,
  ⟨some 6, .call { callee := .builtin .len, args := #[.tmp 5], argTypes := #[9] }, none⟩,
  ⟨some 7, .binOp .lss 3 (.tmp 6) (.const (.int .i64 1)) 3, none⟩,
  ⟨some 8, .move (.tmp 7), none⟩,
  ⟨some 9, .move (.tmp 0), some (3, false)⟩,
  ⟨some 10, .call { callee := .builtin .len, args := #[.tmp 9], argTypes := #[9] }, some (3, false)⟩,
  ⟨some 11, .binOp .gtr 3 (.tmp 10) (.const (.int .i64 30)) 3, some (3, false)⟩,
  ⟨some 12, .pick (.tmp 8) (.const (.bool true)) (.tmp 11), none⟩,
  ⟨some 13, .move (.tmp 12), none⟩,
  ⟨some 14, .move (.tmp 0), some (8, false)⟩,
  ⟨some 15, .index 9 (.tmp 14) (.const (.int .i64 0)), some (8, false)⟩,
  ⟨some 16, .binOp .lss 5 (.tmp 15) (.const (.int .u8 97)) 5, some (8, false)⟩,
  ⟨some 17, .pick (.tmp 13) (.const (.bool true)) (.tmp 16), none⟩,
  ⟨some 18, .move (.tmp 17), none⟩,
  ⟨some 19, .move (.tmp 0), some (13, false)⟩,
  ⟨some 20, .index 9 (.tmp 19) (.const (.int .i64 0)), some (13, false)⟩,
  ⟨some 21, .binOp .gtr 5 (.tmp 20) (.const (.int .u8 122)) 5, some (13, false)⟩,
  ⟨some 22, .pick (.tmp 18) (.const (.bool true)) (.tmp 21), none⟩]
def f14_r2 : List LOp := [
  ⟨some 2, .assign (.const (.bool false)), none⟩]
def f14_r3 : List LOp := [
  ⟨some 3, .assign (.const (.int .i64 0)), none⟩]
def f14_r4 : List LOp := [
  ⟨some 23, .move (.tmp 3), none⟩,
  ⟨some 24, .move (.tmp 0), none⟩,
  ⟨some 25, .call { callee := .builtin .len, args := #[.tmp 24], argTypes := #[9] }, none⟩,
  ⟨some 26, .binOp .lss 3 (.tmp 23) (.tmp 25) 3, none⟩]
def f14_r5 : List LOp := [
  ⟨some 29, .move (.tmp 0), none⟩,
  ⟨some 30, .move (.tmp 3), none⟩,
  ⟨some 31, .index 9 (.tmp 29) (.tmp 30), none⟩,
  ⟨some 4, .assign (.tmp 31), none⟩]
def f14_r6 : List LOp := [
  ⟨some 32, .move (.tmp 4), none⟩,
  ⟨some 33, .binOp .geq 5 (.tmp 32) (.const (.int .u8 97)) 5, none⟩,
  ⟨some 34, .move (.tmp 33), none⟩,
  ⟨some 35, .move (.tmp 4), some (2, true)⟩,
  ⟨some 36, .binOp .leq 5 (.tmp 35) (.const (.int .u8 122)) 5, some (2, true)⟩,
  ⟨some 37, .pick (.tmp 34) (.tmp 36) (.const (.bool false)), none⟩,
  ⟨some 38, .move (.tmp 37), none⟩,
  ⟨some 39, .move (.tmp 4), some (6, false)⟩,
  ⟨some 40, .binOp .geq 5 (.tmp 39) (.const (.int .u8 48)) 5, some (6, false)⟩,
  ⟨some 41, .move (.tmp 40), some (6, false)⟩,
  ⟨some 42, .move (.tmp 4), some (9, true)⟩,
  ⟨some 43, .binOp .leq 5 (.tmp 42) (.const (.int .u8 57)) 5, some (9, true)⟩,
  ⟨some 44, .pick (.tmp 41) (.tmp 43) (.const (.bool false)), some (6, false)⟩,
  ⟨some 45, .pick (.tmp 38) (.const (.bool true)) (.tmp 44), none⟩,
  ⟨some 46, .move (.tmp 45), none⟩,
  ⟨some 47, .move (.tmp 4), some (14, false)⟩,
  ⟨some 48, .binOp .eql 5 (.tmp 47) (.const (.int .u8 95)) 5, some (14, false)⟩,
  ⟨some 49, .pick (.tmp 46) (.const (.bool true)) (.tmp 48), none⟩,
  ⟨some 50, .unOp .not 4 (.tmp 49), none⟩]
def f14_r7 : List LOp := [
  ⟨some 2, .assign (.const (.bool false)), none⟩]
def f14_r8 : List LOp := [
  ⟨some 27, .move (.tmp 3), none⟩,
  ⟨some 28, .binOp .add 3 (.tmp 27) (.const (.int .i64 1)) 3, none⟩,
  ⟨some 3, .assign (.tmp 28), none⟩]
def f14_l9 : LC := (.seq (.seq (.reg f14_r4 [] none) (.cond (.tmp 26) .skip (.exit 0))) (.seq (.block 1 (.seq (.reg f14_r5 [] none) (.seq (.reg f14_r6 [] none) (.cond (.tmp 50) (.seq (.reg f14_r7 [] none) .ret) .skip)))) (.reg f14_r8 [] none)))
def f14_i9 (t0 t3 : D) : List D := [t0, .any, .any, t3, .any, .any, .any, .any, .any, .any, .any, .any, .any, .any, .any, .any, .any, .any, .any, .any, .any, .any, .any, .any, .any, .any, .any, .any, .any, .any, .any, .any, .any, .any, .any, .any, .any, .any, .any, .any, .any, .any, .any, .any, .any, .any, .any, .any, .any, .any, .any]
def f14_r10 : List LOp := [
  ⟨some 2, .assign (.const (.bool true)), none⟩]
def f14_c : LC := (.seq (.reg f14_r0 [] none) (.seq (.seq (.reg f14_r1 [] none) (.cond (.tmp 22) (.seq (.reg f14_r2 [] none) .ret) .skip)) (.seq (.seq (.reg f14_r3 [] none) (.block 0 (.loop f14_l9))) (.seq (.reg f14_r10 [] none) .ret))))
theorem f14_lc : Tryz.f14.body.map lc = some f14_c.st := by kernel_rfl
theorem f14_res : Tryz.f14.results.toList = [.tmp 2] := by kernel_rfl
theorem f14_nt : Tryz.f14.ntmps = 51 := by kernel_rfl
theorem f14_nm : (Tryz.f14.name == "runtime.NumGoroutine") = false := by kernel_rfl
/-! quill/quillref19.met -/
def f15_r0 : List LOp := [
  ⟨some 4, .assign (.const (.bool false)), none⟩]
def f15_r1 : List LOp := [
  ⟨some 6, .move (.tmp 0), none⟩,
  ⟨some 7, .call { callee := .builtin .len, args := #[.tmp 6], argTypes := #[23] }, none⟩,
  ⟨some 8, .move (.const (.int .i64 0)), none⟩]
def f15_r2 : List LOp := [
  ⟨some 9, .binOp .lss 3 (.tmp 8) (.tmp 7) 3, none⟩]
def f15_r3 : List LOp := [
  ⟨some 10, .move (.tmp 8), none⟩,
  ⟨some 5, .assign (.tmp 10), none⟩]
def f15_r4 : List LOp := [
  ⟨some 11, .move (.tmp 0), none⟩,
  ⟨some 12, .move (.tmp 5), none⟩,
  ⟨some 13, .indexAddr 23 (.tmp 11) (.tmp 12), none⟩,
  ⟨some 14, .fieldAddr 56 (.tmp 13) 0, none⟩,
  ⟨some 15, .load 9 (.tmp 14), none⟩,
  ⟨some 16, .move (.tmp 1), none⟩,
  ⟨some 17, .binOp .eql 9 (.tmp 15) (.tmp 16) 9, none⟩]
def f15_r5 : List LOp := [
  ⟨some 4, .assign (.const (.bool true)), none⟩]
def f15_r6 : List LOp := [
  ⟨some 18, .binOp .add 3 (.tmp 8) (.const (.int .i64 1)) 3, none⟩,
  ⟨some 8, .move (.tmp 18), none⟩]
def f15_l7 : LC := (.seq (.reg f15_r2 [] none) (.seq (.cond (.tmp 9) .skip (.exit 0)) (.seq (.block 1 (.seq (.reg f15_r3 [] none) (.seq (.reg f15_r4 [] none) (.cond (.tmp 17) (.seq (.reg f15_r5 [] none) .ret) .skip)))) (.reg f15_r6 [] none))))
def f15_i7 (t0 t1 t7 t8 : D) : List D := [t0, t1, .any, .any, .any, .any, .any, t7, t8, .any, .any, .any, .any, .any, .any, .any, .any, .any, .any]
def f15_r8 : List LOp := [
  ⟨some 4, .assign (.const (.bool false)), none⟩]
def f15_c : LC := (.seq (.reg f15_r0 [] none) (.seq (.seq (.reg f15_r1 [] none) (.block 0 (.loop f15_l7))) (.seq (.reg f15_r8 [] none) .ret)))
theorem f15_lc : Tryz.f15.body.map lc = some f15_c.st := by kernel_rfl
theorem f15_res : Tryz.f15.results.toList = [.tmp 4] := by kernel_rfl
theorem f15_nt : Tryz.f15.ntmps = 19 := by kernel_rfl
theorem f15_nm : (Tryz.f15.name == "runtime.NumGoroutine") = false := by kernel_rfl
/-! quill/quillref06.Read -/
def f16_r0 : List LOp := [
  ⟨some 2, .alloc 52, none⟩,
  ⟨some 3, .assign (.const (.int .i64 0)), none⟩,
  ⟨some 4, .assign (.const (.int .i64 0)), none⟩]
def f16_r1 : List LOp := [
  ⟨some 7, .build 52 #[], none⟩,
  ⟨some 5, .alloc 52, none⟩,
  ⟨none, .store 52 (.tmp 5) (.tmp 7), none⟩]
def f16_r2 : List LOp := [
  ⟨some 8, .move (.tmp 0), none⟩,
  ⟨some 9, .call { callee := .builtin .len, args := #[.tmp 8], argTypes := #[9] }, none⟩,
  ⟨some 10, .binOp .gtr 3 (.tmp 9) (.const (.int .i64 65536)) 3, none⟩]
def f16_r3 : List LOp := [
  ⟨some 11, .load 52 (.tmp 5), none⟩,
  ⟨none, .store 52 (.tmp 2) (.tmp 11), none⟩,
  ⟨some 3, .assign (.const (.int .i64 0)), none⟩,
  ⟨some 4, .assign (.const (.int .i64 3)), none⟩]
def f16_r4 : List LOp := [
  ⟨some 12, .move (.tmp 0), none⟩,
  ⟨some 13, .call { callee := .value (.func 31), args := #[.tmp 12, .const (.int .i64 0)], argTypes := #[9, 3] }, none⟩,
  ⟨some 6, .alloc 79, none⟩,
  ⟨none, .store 79 (.tmp 6) (.tmp 13), none⟩]
def f16_r5 : List LOp := [
  ⟨some 14, .fieldAddr 79 (.tmp 6) 2, none⟩,
  ⟨some 15, .load 4 (.tmp 14), none⟩]
def f16_r6 : List LOp := [
  ⟨some 16, .load 52 (.tmp 5), none⟩,
  ⟨some 17, .fieldAddr 79 (.tmp 6) 1, none⟩,
  ⟨some 18, .load 3 (.tmp 17), none⟩,
  ⟨none, .store 52 (.tmp 2) (.tmp 16), none⟩,
  ⟨some 3, .assign (.tmp 18), none⟩,
  ⟨some 4, .assign (.const (.int .i64 2)), none⟩]
def f16_r7 : List LOp := [
  ⟨some 19, .fieldAddr 79 (.tmp 6) 1, none⟩,
  ⟨some 20, .load 3 (.tmp 19), none⟩,
  ⟨some 21, .move (.tmp 0), none⟩,
  ⟨some 22, .call { callee := .builtin .len, args := #[.tmp 21], argTypes := #[9] }, none⟩,
  ⟨some 23, .binOp .lss 3 (.tmp 20) (.tmp 22) 3, none⟩]
def f16_r8 : List LOp := [
  ⟨some 24, .load 52 (.tmp 5), none⟩,
  ⟨some 25, .fieldAddr 79 (.tmp 6) 1, none⟩,
  ⟨some 26, .load 3 (.tmp 25), none⟩,
  ⟨none, .store 52 (.tmp 2) (.tmp 24), none⟩,
  ⟨some 3, .assign (.tmp 26), none⟩,
  ⟨some 4, .assign (.const (.int .i64 2)), none⟩]
def f16_r9 : List LOp := [
  ⟨some 27, .fieldAddr 79 (.tmp 6) 0, none⟩,
  ⟨some 28, .load 52 (.tmp 27), none⟩,
  ⟨some 29, .call { callee := .value (.func 32), args := #[.tmp 28], argTypes := #[52] }, none⟩,
  ⟨some 30, .unOp .not 4 (.tmp 29), none⟩]
def f16_r10 : List LOp := [
  ⟨some 31, .load 52 (.tmp 5), none⟩,
  ⟨none, .store 52 (.tmp 2) (.tmp 31), none⟩,
  ⟨some 3, .assign (.const (.int .i64 0)), none⟩,
  ⟨some 4, .assign (.const (.int .i64 4)), none⟩]
def f16_r11 : List LOp := [
  ⟨some 32, .fieldAddr 79 (.tmp 6) 0, none⟩,
  ⟨some 33, .load 52 (.tmp 32), none⟩,
  ⟨none, .store 52 (.tmp 2) (.tmp 33), none⟩,
  ⟨some 3, .assign (.const (.int .i64 0)), none⟩,
  ⟨some 4, .assign (.const (.int .i64 0)), none⟩]
def f16_c : LC := (.seq (.reg f16_r0 [] none) (.seq (.reg f16_r1 [] none) (.seq (.seq (.reg f16_r2 [] none) (.cond (.tmp 10) (.seq (.reg f16_r3 [] none) .ret) .skip)) (.seq (.reg f16_r4 [] none) (.seq (.seq (.reg f16_r5 [] none) (.cond (.tmp 15) (.seq (.regq f16_r6 [] 0 (.both (.op 0 (.both (.op 1 (.both (.op 2 (.op 3 (.op 4 (.op 5 .done)))) (.op 3 (.op 2 (.op 4 (.op 5 .done)))))) (.op 3 (.op 1 (.op 2 (.op 4 (.op 5 .done))))))) (.op 1 (.both (.op 0 (.both (.op 2 (.op 3 (.op 4 (.op 5 .done)))) (.op 3 (.op 2 (.op 4 (.op 5 .done)))))) (.op 2 (.op 0 (.op 3 (.op 4 (.op 5 .done))))))))) .ret) .skip)) (.seq (.seq (.reg f16_r7 [] none) (.cond (.tmp 23) (.seq (.regq f16_r8 [] 0 (.both (.op 0 (.both (.op 1 (.both (.op 2 (.op 3 (.op 4 (.op 5 .done)))) (.op 3 (.op 2 (.op 4 (.op 5 .done)))))) (.op 3 (.op 1 (.op 2 (.op 4 (.op 5 .done))))))) (.op 1 (.both (.op 0 (.both (.op 2 (.op 3 (.op 4 (.op 5 .done)))) (.op 3 (.op 2 (.op 4 (.op 5 .done)))))) (.op 2 (.op 0 (.op 3 (.op 4 (.op 5 .done))))))))) .ret) .skip)) (.seq (.seq (.reg f16_r9 [] none) (.cond (.tmp 30) (.seq (.reg f16_r10 [] none) .ret) .skip)) (.seq (.reg f16_r11 [] none) .ret))))))))
theorem f16_lc : Tryz.f16.body.map lc = some f16_c.st := by kernel_rfl
theorem f16_res : Tryz.f16.results.toList = [.cell 2 52, .tmp 3, .tmp 4] := by kernel_rfl
theorem f16_nt : Tryz.f16.ntmps = 34 := by kernel_rfl
theorem f16_nm : (Tryz.f16.name == "runtime.NumGoroutine") = false := by kernel_rfl
/-! quill/quillref19.nodes -/
def f17_r0 : List LOp := [
  ⟨some 2, .assign (.const (.int .i64 0)), none⟩]
def f17_r1 : List LOp := [
  ⟨some 5, .move (.tmp 0), none⟩,
  ⟨some 6, .call { callee := .builtin .len, args := #[.tmp 5], argTypes := #[23] }, none⟩,
  ⟨some 7, .binOp .sub 3 (.tmp 6) (.const (.int .i64 1)) 3, none⟩,
  ⟨some 3, .assign (.tmp 7), none⟩]
def f17_r2 : List LOp := [
  ⟨some 8, .move (.tmp 0), none⟩,
  ⟨some 9, .call { callee := .builtin .len, args := #[.tmp 8], argTypes := #[23] }, none⟩,
  ⟨some 10, .move (.const (.int .i64 0)), none⟩]
def f17_r3 : List LOp := [
  ⟨some 11, .binOp .lss 3 (.tmp 10) (.tmp 9) 3, none⟩]
def f17_r4 : List LOp := [
  ⟨some 12, .move (.tmp 10), none⟩,
  ⟨some 4, .assign (.tmp 12), none⟩]
def f17_r5 : List LOp := [
  ⟨some 13, .move (.tmp 3), none⟩,
  ⟨some 14, .move (.tmp 0), none⟩,
  ⟨some 15, .move (.tmp 4), none⟩,
  ⟨some 16, .indexAddr 23 (.tmp 14) (.tmp 15), none⟩,
  ⟨some 17, .fieldAddr 56 (.tmp 16) 1, none⟩,
  ⟨some 18, .load 52 (.tmp 17), none⟩,
  ⟨some 19, .call { callee := .value (.func 33), args := #[.tmp 18], argTypes := #[52] }, none⟩,
  ⟨some 20, .call { callee := .builtin .len, args := #[.tmp 19], argTypes := #[50] }, none⟩,
  ⟨some 21, .binOp .add 3 (.tmp 13) (.tmp 20) 3, none⟩,
  ⟨some 3, .assign (.tmp 21), none⟩]
def f17_r6 : List LOp := [
  ⟨some 22, .binOp .add 3 (.tmp 10) (.const (.int .i64 1)) 3, none⟩,
  ⟨some 10, .move (.tmp 22), none⟩]
def f17_l7 : LC := (.seq (.reg f17_r3 [] none) (.seq (.cond (.tmp 11) .skip (.exit 0)) (.seq (.block 1 (.seq (.reg f17_r4 [] none) (.reg f17_r5 [] none))) (.reg f17_r6 [] none))))
def f17_i7 (t0 t3 t9 t10 : D) : List D := [t0, .any, .any, t3, .any, .any, .any, .any, .any, t9, t10, .any, .any, .any, .any, .any, .any, .any, .any, .any, .any, .any, .any, .any]
def f17_r8 : List LOp := [
  ⟨some 23, .move (.tmp 3), none⟩,
  ⟨some 2, .assign (.tmp 23), none⟩]
def f17_c : LC := (.seq (.reg f17_r0 [] none) (.seq (.reg f17_r1 [] none) (.seq (.seq (.reg f17_r2 [] none) (.block 0 (.loop f17_l7))) (.seq (.reg f17_r8 [] none) .ret))))
theorem f17_lc : Tryz.f17.body.map lc = some f17_c.st := by kernel_rfl
theorem f17_res : Tryz.f17.results.toList = [.tmp 2] := by kernel_rfl
theorem f17_nt : Tryz.f17.ntmps = 24 := by kernel_rfl
theorem f17_nm : (Tryz.f17.name == "runtime.NumGoroutine") = false := by kernel_rfl
/-! quill/quillref03.Same -/
def f18_r0 : List LOp := [
  ⟨some 2, .box 52 (.tmp 0), none⟩,
  ⟨some 3, .box 52 (.tmp 1), none⟩,
  ⟨some 4, .assign (.const (.bool false)), none⟩]
def f18_r1 : List LOp := [
  ⟨some 6, .fieldAddr 52 (.tmp 2) 0, none⟩,
  ⟨some 7, .load 5 (.tmp 6), none⟩,
  ⟨some 8, .fieldAddr 52 (.tmp 3) 0, none⟩,
  ⟨some 9, .load 5 (.tmp 8), none⟩,
  ⟨some 10, .binOp .neq 5 (.tmp 7) (.tmp 9) 5, none⟩,
  ⟨some 11, .move (.tmp 10), none⟩,
  ⟨some 12, .fieldAddr 52 (.tmp 2) 1, some (5, false)⟩,
  ⟨some 13, .load 49 (.tmp 12), some (5, false)⟩,
  ⟨some 14, .fieldAddr 52 (.tmp 3) 1, some (5, false)⟩,
  ⟨some 15, .load 49 (.tmp 14), some (5, false)⟩,
  ⟨some 16, .binOp .neq 49 (.tmp 13) (.tmp 15) 49, some (5, false)⟩,
  ⟨some 17, .pick (.tmp 11) (.const (.bool true)) (.tmp 16), none⟩,
  ⟨some 18, .move (.tmp 17), none⟩,
  ⟨some 19, .fieldAddr 52 (.tmp 2) 2, some (12, false)⟩,
  ⟨some 20, .load 50 (.tmp 19), some (12, false)⟩,
  ⟨some 21, .call { callee := .builtin .len, args := #[.tmp 20], argTypes := #[50] }, some (12, false)⟩,
  ⟨some 22, .fieldAddr 52 (.tmp 3) 2, some (12, false)⟩,
  ⟨some 23, .load 50 (.tmp 22), some (12, false)⟩,
  ⟨some 24, .call { callee := .builtin .len, args := #[.tmp 23], argTypes := #[50] }, some (12, false)⟩,
  ⟨some 25, .binOp .neq 3 (.tmp 21) (.tmp 24) 3, some (12, false)⟩,
  ⟨some 26, .pick (.tmp 18) (.const (.bool true)) (.tmp 25), none⟩]
def f18_r2 : List LOp := [
  ⟨some 4, .assign (.const (.bool false)), none⟩]
def f18_r3 : List LOp := [
  ⟨some 27, .fieldAddr 52 (.tmp 2) 2, none⟩,
  ⟨some 28, .load 50 (.tmp 27), none⟩,
  ⟨some 29, .call { callee := .builtin .len, args := #[.tmp 28], argTypes := #[50] }, none⟩,
  ⟨some 30, .move (.const (.int .i64 0)), none⟩]
def f18_r4 : List LOp := [
  ⟨some 31, .binOp .lss 3 (.tmp 30) (.tmp 29) 3, none⟩]
def f18_r5 : List LOp := [
  ⟨some 32, .move (.tmp 30), none⟩,
  ⟨some 5, .assign (.tmp 32), none⟩]
def f18_r6 : List LOp := [
  ⟨some 33, .fieldAddr 52 (.tmp 2) 2, none⟩,
  ⟨some 34, .load 50 (.tmp 33), none⟩,
  ⟨some 35, .move (.tmp 5), none⟩,
  ⟨some 36, .indexAddr 50 (.tmp 34) (.tmp 35), none⟩,
  ⟨some 37, .load 52 (.tmp 36), none⟩,
  ⟨some 38, .fieldAddr 52 (.tmp 3) 2, none⟩,
  ⟨some 39, .load 50 (.tmp 38), none⟩,
  ⟨some 40, .move (.tmp 5), none⟩,
  ⟨some 41, .indexAddr 50 (.tmp 39) (.tmp 40), none⟩,
  ⟨some 42, .load 52 (.tmp 41), none⟩,
  ⟨some 43, .call { callee := .value (.func 18), args := #[.tmp 37, .tmp 42], argTypes := #[52, 52] }, none⟩,
  ⟨some 44, .unOp .not 4 (.tmp 43), none⟩]
def f18_r7 : List LOp := [
  ⟨some 4, .assign (.const (.bool false)), none⟩]
def f18_r8 : List LOp := [
  ⟨some 45, .binOp .add 3 (.tmp 30) (.const (.int .i64 1)) 3, none⟩,
  ⟨some 30, .move (.tmp 45), none⟩]
def f18_l9 : LC := (.seq (.reg f18_r4 [] none) (.seq (.cond (.tmp 31) .skip (.exit 0)) (.seq (.block 1 (.seq (.reg f18_r5 [] none) (.seq (.reg f18_r6 [] (some 10)) (.cond (.tmp 44) (.seq (.reg f18_r7 [] none) .ret) .skip)))) (.reg f18_r8 [] none))))
def f18_i9 (t2 t3 t29 t30 : D) : List D := [.any, .any, t2, t3, .any, .any, .any, .any, .any, .any, .any, .any, .any, .any, .any, .any, .any, .any, .any, .any, .any, .any, .any, .any, .any, .any, .any, .any, .any, t29, t30, .any, .any, .any, .any, .any, .any, .any, .any, .any, .any, .any, .any, .any, .any, .any]
def f18_r10 : List LOp := [
  ⟨some 4, .assign (.const (.bool true)), none⟩]
def f18_c : LC := (.seq (.reg f18_r0 [] none) (.seq (.seq (.reg f18_r1 [] none) (.cond (.tmp 26) (.seq (.reg f18_r2 [] none) .ret) .skip)) (.seq (.seq (.reg f18_r3 [] none) (.block 0 (.loop f18_l9))) (.seq (.reg f18_r10 [] none) .ret))))
theorem f18_lc : Tryz.f18.body.map lc = some f18_c.st := by kernel_rfl
theorem f18_res : Tryz.f18.results.toList = [.tmp 4] := by kernel_rfl
theorem f18_nt : Tryz.f18.ntmps = 46 := by kernel_rfl
theorem f18_nm : (Tryz.f18.name == "runtime.NumGoroutine") = false := by kernel_rfl
/-! quill/rules.May -/
def f19_r0 : List LOp := [
  ⟨some 2, .assign (.const (.bool false)), none⟩]
def f19_r1 : List LOp := [
  ⟨some 6, .makeMap 34 none, none⟩,
  ⟨some 3, .assign (.tmp 6), none⟩]
def f19_r2 : List LOp := [
  ⟨some 7, .move (.tmp 0), none⟩,
  ⟨some 8, .call { callee := .builtin .len, args := #[.tmp 7], argTypes := #[23] }, none⟩,
  ⟨some 9, .move (.const (.int .i64 0)), none⟩]
def f19_r3 : List LOp := [
  ⟨some 10, .binOp .lss 3 (.tmp 9) (.tmp 8) 3, none⟩]
def f19_r4 : List LOp := [
  ⟨some 11, .indexAddr 23 (.tmp 7) (.tmp 9), none⟩,
  ⟨some 12, .load 56 (.tmp 11), none⟩,
  ⟨some 5, .alloc 56, none⟩,
  ⟨none, .store 56 (.tmp 5) (.tmp 12), none⟩]
def f19_r5 : List LOp := [
  ⟨some 13, .move (.tmp 3), none⟩,
  ⟨some 14, .fieldAddr 56 (.tmp 5) 0, none⟩,
  ⟨some 15, .load 9 (.tmp 14), none⟩,
  ⟨some 16, .lookup 34 (.tmp 13) (.tmp 15) false, none⟩,
  ⟨some 17, .move (.tmp 16), none⟩,
  ⟨some 18, .fieldAddr 56 (.tmp 5) 0, some (4, false)⟩,
  ⟨some 19, .load 9 (.tmp 18), some (4, false)⟩,
  ⟨some 20, .buildSlice 90 1 #[(0, .tmp 19)], some (4, false)⟩,
  ⟨some 21, .call { callee := .value (.func 28), args := #[.tmp 20], argTypes := #[90] }, some (4, false)⟩,
  ⟨some 22, .unOp .not 4 (.tmp 21), some (4, false)⟩,
  ⟨some 23, .pick (.tmp 17) (.const (.bool true)) (.tmp 22), none⟩,
  ⟨some 24, .move (.tmp 23), none⟩,
  ⟨some 25, .fieldAddr 56 (.tmp 5) 1, some (11, false)⟩,
  ⟨some 26, .load 52 (.tmp 25), some (11, false)⟩,
  ⟨some 27, .buildSlice 50 1 #[(0, .tmp 26)], some (11, false)⟩,
  ⟨some 28, .call { callee := .value (.func 34), args := #[.tmp 27], argTypes := #[50] }, some (11, false)⟩,
  ⟨some 29, .unOp .not 4 (.tmp 28), some (11, false)⟩,
  ⟨some 30, .pick (.tmp 24) (.const (.bool true)) (.tmp 29), none⟩]
def f19_r6 : List LOp := [
  ⟨some 2, .assign (.const (.bool false)), none⟩]
def f19_r7 : List LOp := [
  ⟨some 31, .move (.tmp 3), none⟩,
  ⟨some 32, .fieldAddr 56 (.tmp 5) 0, none⟩,
  ⟨some 33, .load 9 (.tmp 32), none⟩,
  ⟨none, .mapUpdate 34 (.tmp 31) (.tmp 33) (.const (.bool true)), none⟩]
def f19_r8 : List LOp := [
  ⟨some 34, .binOp .add 3 (.tmp 9) (.const (.int .i64 1)) 3, none⟩,
  ⟨some 9, .move (.tmp 34), none⟩]
def f19_l9 : LC := (.seq (.reg f19_r3 [] none) (.seq (.cond (.tmp 10) .skip (.exit 0)) (.seq (.block 1 (.seq (.reg f19_r4 [] none) (.seq (.seq (.reg f19_r5 [] none) (.cond (.tmp 30) (.seq (.reg f19_r6 [] none) .ret) .skip)) (.reg f19_r7 [] none)))) (.reg f19_r8 [] none))))
def f19_i9 (t0 t3 t7 t8 t9 : D) : List D := [t0, .any, .any, t3, .any, .any, .any, t7, t8, t9, .any, .any, .any, .any, .any, .any, .any, .any, .any, .any, .any, .any, .any, .any, .any, .any, .any, .any, .any, .any, .any, .any, .any, .any, .any, .any, .any, .any, .any, .any, .any, .any, .any, .any, .any, .any, .any]
def f19_r10 : List LOp := [
  ⟨some 35, .move (.tmp 0), none⟩,
  ⟨some 36, .call { callee := .builtin .len, args := #[.tmp 35], argTypes := #[23] }, none⟩,
  ⟨some 37, .binOp .geq 3 (.tmp 36) (.const (.int .i64 1)) 3, none⟩,
  ⟨some 38, .move (.tmp 37), none⟩,
  ⟨some 39, .move (.tmp 0), some (3, true)⟩,
  ⟨some 40, .call { callee := .builtin .len, args := #[.tmp 39], argTypes := #[23] }, some (3, true)⟩,
  ⟨some 41, .binOp .leq 3 (.tmp 40) (.const (.int .i64 100)) 3, some (3, true)⟩,
  ⟨some 42, .pick (.tmp 38) (.tmp 41) (.const (.bool false)), none⟩,
  ⟨some 43, .move (.tmp 42), none⟩,
  ⟨some 44, .move (.tmp 0), some (8, true)⟩,
  ⟨some 45, .call { callee := .value (.func 12), args := #[.tmp 44], argTypes := #[23] }, some (8, true)⟩,
  ⟨some 46, .pick (.tmp 43) (.tmp 45) (.const (.bool false)), none⟩,
  ⟨some 2, .assign (.tmp 46), none⟩]
def f19_c : LC := (.seq (.reg f19_r0 [] none) (.seq (.reg f19_r1 [] none) (.seq (.seq (.reg f19_r2 [] none) (.block 0 (.loop f19_l9))) (.seq (.reg f19_r10 [] none) .ret))))
theorem f19_lc : Tryz.f19.body.map lc = some f19_c.st := by kernel_rfl
theorem f19_res : Tryz.f19.results.toList = [.tmp 2] := by kernel_rfl
theorem f19_nt : Tryz.f19.ntmps = 47 := by kernel_rfl
theorem f19_nm : (Tryz.f19.name == "runtime.NumGoroutine") = false := by kernel_rfl
/-! (*strings.Builder).WriteString -/
def f20_r0 : List LOp := [
  ⟨some 4, .assign (.const (.int .i64 0)), none⟩,
  ⟨some 5, .assign (.const .nilIface), none⟩]
def f20_r1 : List LOp := [
  ⟨some 6, .move (.tmp 0), none⟩,
  ⟨some 7, .call { callee := .value (.func 35), args := #[.tmp 6], argTypes := #[60] }, none⟩]
def f20_r2 : List LOp := [
  ⟨some 8, .move (.tmp 0), none⟩,
  ⟨some 9, .move (.tmp 0), none⟩,
  ⟨some 10, .nilCheck (.tmp 9), none⟩,
  ⟨some 11, .fieldAddr 63 (.tmp 10) 1, none⟩,
  ⟨some 12, .load 61 (.tmp 11), none⟩,
  ⟨some 13, .move (.tmp 1), none⟩,
  ⟨some 14, .call { callee := .builtin .append, args := #[.tmp 12, .tmp 13], argTypes := #[61, 9] }, none⟩,
  ⟨some 15, .nilCheck (.tmp 8), none⟩,
  ⟨some 16, .fieldAddr 63 (.tmp 15) 1, none⟩,
  ⟨none, .store 61 (.tmp 16) (.tmp 14), none⟩]
def f20_r3 : List LOp := [
  ⟨some 17, .move (.tmp 1), none⟩,
  ⟨some 18, .call { callee := .builtin .len, args := #[.tmp 17], argTypes := #[9] }, none⟩,
  ⟨some 4, .assign (.tmp 18), none⟩,
  ⟨some 5, .assign (.const .nilIface), none⟩]
def f20_c : LC := (.seq (.reg f20_r0 [] none) (.seq (.reg f20_r1 [] none) (.seq (.reg f20_r2 [] none) (.seq (.reg f20_r3 [] none) .ret))))
theorem f20_lc : Tryz.f20.body.map lc = some f20_c.st := by kernel_rfl
theorem f20_res : Tryz.f20.results.toList = [.tmp 4, .tmp 5] := by kernel_rfl
theorem f20_nt : Tryz.f20.ntmps = 19 := by kernel_rfl
theorem f20_nm : (Tryz.f20.name == "runtime.NumGoroutine") = false := by kernel_rfl
/-! quill/show.Text -/
def f21_r0 : List LOp := [
  ⟨some 1, .box 52 (.tmp 0), none⟩,
  ⟨some 2, .assign (.const (.string { data := #[] })), none⟩]
def f21_r1 : List LOp := [
  ⟨some 4, .load 52 (.tmp 1), none⟩,
  ⟨some 5, .buildSlice 50 1 #[(0, .tmp 4)], none⟩,
  ⟨some 6, .call { callee := .value (.func 34), args := #[.tmp 5], argTypes := #[50] }, none⟩,
  ⟨some 7, .unOp .not 4 (.tmp 6), none⟩]
def f21_r2 : List LOp := [
  ⟨some 2, .assign (.const (.string { data := #[] })), none⟩]
def f21_r3 : List LOp := [
  ⟨some 8, .build 86 #[], none⟩,
  ⟨some 9, .box 86 (.tmp 8), none⟩,
  ⟨some 3, .assign (.tmp 9), none⟩]
def f21_r4 : List LOp := [
  ⟨some 10, .move (.tmp 3), none⟩,
  ⟨some 11, .load 52 (.tmp 1), none⟩,
  ⟨some 12, .call { callee := .value (.func 36), args := #[.tmp 10, .tmp 11, .const (.slice none 0 0)], argTypes := #[84, 52, 61] }, none⟩]
def f21_r5 : List LOp := [
  ⟨some 13, .move (.tmp 3), none⟩,
  ⟨some 14, .nilCheck (.tmp 13), none⟩,
  ⟨some 15, .fieldAddr 86 (.tmp 14) 0, none⟩,
  ⟨some 16, .call { callee := .value (.func 23), args := #[.tmp 15], argTypes := #[63] }, none⟩,
  ⟨some 2, .assign (.tmp 16), none⟩]
def f21_c : LC := (.seq (.reg f21_r0 [] none) (.seq (.seq (.reg f21_r1 [] none) (.cond (.tmp 7) (.seq (.reg f21_r2 [] none) .ret) .skip)) (.seq (.reg f21_r3 [1] none) (.seq (.reg f21_r4 [] none) (.seq (.reg f21_r5 [] none) .ret)))))
theorem f21_lc : Tryz.f21.body.map lc = some f21_c.st := by kernel_rfl
theorem f21_res : Tryz.f21.results.toList = [.tmp 2] := by kernel_rfl
theorem f21_nt : Tryz.f21.ntmps = 17 := by kernel_rfl
theorem f21_nm : (Tryz.f21.name == "runtime.NumGoroutine") = false := by kernel_rfl
/-! (*strings.Builder).Len -/
def f22_r0 : List LOp := [
  ⟨some 2, .assign (.const (.int .i64 0)), none⟩]
def f22_r1 : List LOp := [
  ⟨some 3, .move (.tmp 0), none⟩,
  ⟨some 4, .nilCheck (.tmp 3), none⟩,
  ⟨some 5, .fieldAddr 63 (.tmp 4) 1, none⟩,
  ⟨some 6, .load 61 (.tmp 5), none⟩,
  ⟨some 7, .call { callee := .builtin .len, args := #[.tmp 6], argTypes := #[61] }, none⟩,
  ⟨some 2, .assign (.tmp 7), none⟩]
def f22_c : LC := (.seq (.reg f22_r0 [] none) (.seq (.reg f22_r1 [] none) .ret))
theorem f22_lc : Tryz.f22.body.map lc = some f22_c.st := by kernel_rfl
theorem f22_res : Tryz.f22.results.toList = [.tmp 2] := by kernel_rfl
theorem f22_nt : Tryz.f22.ntmps = 8 := by kernel_rfl
theorem f22_nm : (Tryz.f22.name == "runtime.NumGoroutine") = false := by kernel_rfl
/-! (*strings.Builder).String -/
/-! strings.Lines$1 -/
def f24_r0 : List LOp := [
  ⟨some 5, .load 9 (.tmp 1), none⟩,
  ⟨some 6, .call { callee := .builtin .len, args := #[.tmp 5], argTypes := #[9] }, none⟩,
  ⟨some 7, .binOp .gtr 3 (.tmp 6) (.const (.int .i64 0)) 3, none⟩]
def f24_r1 : List LOp := [
  ⟨some 3, .assign (.const (.string { data := #[] })), none⟩]
def f24_r2 : List LOp := [
  ⟨some 8, .load 9 (.tmp 1), none⟩,
  ⟨some 9, .call { callee := .value (.func 25), args := #[.tmp 8, .const (.int .u8 10)], argTypes := #[9, 5] }, none⟩,
  ⟨some 4, .assign (.tmp 9), none⟩]
def f24_r3 : List LOp := [
  ⟨some 10, .move (.tmp 4), none⟩,
  ⟨some 11, .binOp .geq 3 (.tmp 10) (.const (.int .i64 0)) 3, none⟩]
def f24_r4 : List LOp := [
  ⟨some 12, .load 9 (.tmp 1), none⟩,
  ⟨some 13, .move (.tmp 4), none⟩,
  ⟨some 14, .binOp .add 3 (.tmp 13) (.const (.int .i64 1)) 3, none⟩,
  ⟨some 15, .slice 9 (.tmp 12) none (some (.tmp 14)) none, none⟩,
  ⟨some 16, .load 9 (.tmp 1), none⟩,
  ⟨some 17, .move (.tmp 4), none⟩,
  ⟨some 18, .binOp .add 3 (.tmp 17) (.const (.int .i64 1)) 3, none⟩,
  ⟨some 19, .slice 9 (.tmp 16) (some (.tmp 18)) none none, none⟩,
  ⟨some 3, .assign (.tmp 15), none⟩,
  ⟨none, .store 9 (.tmp 1) (.tmp 19), none⟩]
def f24_r5 : List LOp := [
  ⟨some 20, .load 9 (.tmp 1), none⟩,
  ⟨some 3, .assign (.tmp 20), none⟩,
  ⟨none, .store 9 (.tmp 1) (.const (.string { data := #[] })), none⟩]
def f24_r6 : List LOp := [
  ⟨some 21, .move (.tmp 0), none⟩,
  ⟨some 22, .move (.tmp 3), none⟩,
  ⟨some 23, .call { callee := .value (.tmp 21), args := #[.tmp 22], argTypes := #[9] }, none⟩,
  ⟨some 24, .unOp .not 4 (.tmp 23), none⟩]
def f24_l7 : LC := (.seq (.seq (.reg f24_r0 [] none) (.cond (.tmp 7) .skip (.exit 0))) (.block 1 (.seq (.reg f24_r1 [] none) (.seq (.seq (.reg f24_r2 [] none) (.seq (.reg f24_r3 [] none) (.cond (.tmp 11) (.regp f24_r4 [] [1, 2, 5, 6] 9) (.reg f24_r5 [] none)))) (.seq (.reg f24_r6 [] none) (.cond (.tmp 24) .ret .skip))))))
def f24_i7 (t0 t1 : D) : List D := [t0, t1, .any, .any, .any, .any, .any, .any, .any, .any, .any, .any, .any, .any, .any, .any, .any, .any, .any, .any, .any, .any, .any, .any, .any]
def f24_c : LC := (.block 0 (.loop f24_l7))
theorem f24_lc : Tryz.f24.body.map lc = some f24_c.st := by kernel_rfl
theorem f24_res : Tryz.f24.results.toList = [] := by kernel_rfl
theorem f24_nt : Tryz.f24.ntmps = 25 := by kernel_rfl
theorem f24_nm : (Tryz.f24.name == "runtime.NumGoroutine") = false := by kernel_rfl
/-! strings.IndexByte -/
def f25_r0 : List LOp := [
  ⟨some 4, .assign (.const (.int .i64 0)), none⟩]
def f25_r1 : List LOp := [
  ⟨some 5, .move (.tmp 0), none⟩,
  ⟨some 6, .move (.tmp 1), none⟩,
  ⟨some 7, .call { callee := .value (.func 37), args := #[.tmp 5, .tmp 6], argTypes := #[9, 5] }, none⟩,
  ⟨some 4, .assign (.tmp 7), none⟩]
def f25_c : LC := (.seq (.reg f25_r0 [] none) (.seq (.reg f25_r1 [] none) .ret))
theorem f25_lc : Tryz.f25.body.map lc = some f25_c.st := by kernel_rfl
theorem f25_res : Tryz.f25.results.toList = [.tmp 4] := by kernel_rfl
theorem f25_nt : Tryz.f25.ntmps = 8 := by kernel_rfl
theorem f25_nm : (Tryz.f25.name == "runtime.NumGoroutine") = false := by kernel_rfl
/-! internal/stringslite.CutSuffix -/
def f26_r0 : List LOp := [
  ⟨some 4, .assign (.const (.string { data := #[] })), none⟩,
  ⟨some 5, .assign (.const (.bool false)), none⟩]
def f26_r1 : List LOp := [
  ⟨some 6, .move (.tmp 0), none⟩,
  ⟨some 7, .move (.tmp 1), none⟩,
  ⟨some 8, .call { callee := .value (.func 38), args := #[.tmp 6, .tmp 7], argTypes := #[9, 9] }, none⟩,
  ⟨some 9, .unOp .not 4 (.tmp 8), none⟩]
def f26_r2 : List LOp := [
  ⟨some 10, .move (.tmp 0), none⟩,
  ⟨some 4, .assign (.tmp 10), none⟩,
  ⟨some 5, .assign (.const (.bool false)), none⟩]
def f26_r3 : List LOp := [
  ⟨some 11, .move (.tmp 0), none⟩,
  ⟨some 12, .move (.tmp 0), none⟩,
  ⟨some 13, .call { callee := .builtin .len, args := #[.tmp 12], argTypes := #[9] }, none⟩,
  ⟨some 14, .move (.tmp 1), none⟩,
  ⟨some 15, .call { callee := .builtin .len, args := #[.tmp 14], argTypes := #[9] }, none⟩,
  ⟨some 16, .binOp .sub 3 (.tmp 13) (.tmp 15) 3, none⟩,
  ⟨some 17, .slice 9 (.tmp 11) none (some (.tmp 16)) none, none⟩,
  ⟨some 4, .assign (.tmp 17), none⟩,
  ⟨some 5, .assign (.const (.bool true)), none⟩]
def f26_c : LC := (.seq (.reg f26_r0 [] none) (.seq (.seq (.reg f26_r1 [] none) (.cond (.tmp 9) (.seq (.reg f26_r2 [] none) .ret) .skip)) (.seq (.reg f26_r3 [] none) .ret)))
theorem f26_lc : Tryz.f26.body.map lc = some f26_c.st := by kernel_rfl
theorem f26_res : Tryz.f26.results.toList = [.tmp 4, .tmp 5] := by kernel_rfl
theorem f26_nt : Tryz.f26.ntmps = 18 := by kernel_rfl
theorem f26_nm : (Tryz.f26.name == "runtime.NumGoroutine") = false := by kernel_rfl
/-! strings.Cut -/
def f27_r0 : List LOp := [
  ⟨some 4, .assign (.const (.string { data := #[] })), none⟩,
  ⟨some 5, .assign (.const (.string { data := #[] })), none⟩,
  ⟨some 6, .assign (.const (.bool false)), none⟩]
def f27_r1 : List LOp := [
  ⟨some 7, .move (.tmp 0), none⟩,
  ⟨some 8, .move (.tmp 1), none⟩,
  ⟨some 9, .call { callee := .value (.func 39), args := #[.tmp 7, .tmp 8], argTypes := #[9, 9] }, none⟩,
  ⟨some 10, .extract (.tmp 9) 0, none⟩,
  ⟨some 11, .extract (.tmp 9) 1, none⟩,
  ⟨some 12, .extract (.tmp 9) 2, none⟩,
  ⟨some 4, .assign (.tmp 10), none⟩,
  ⟨some 5, .assign (.tmp 11), none⟩,
  ⟨some 6, .assign (.tmp 12), none⟩]
def f27_c : LC := (.seq (.reg f27_r0 [] none) (.seq (.reg f27_r1 [] none) .ret))
theorem f27_lc : Tryz.f27.body.map lc = some f27_c.st := by kernel_rfl
theorem f27_res : Tryz.f27.results.toList = [.tmp 4, .tmp 5, .tmp 6] := by kernel_rfl
theorem f27_nt : Tryz.f27.ntmps = 13 := by kernel_rfl
theorem f27_nm : (Tryz.f27.name == "runtime.NumGoroutine") = false := by kernel_rfl
/-! quill/num.Name -/
def f28_r0 : List LOp := [
  ⟨some 2, .assign (.const (.bool false)), none⟩]
def f28_r1 : List LOp := [
  ⟨some 3, .move (.tmp 0), none⟩,
  ⟨some 4, .call { callee := .value (.func 40), args := #[.tmp 3, .func 41], argTypes := #[90, 32] }, none⟩,
  ⟨some 5, .unOp .not 4 (.tmp 4), none⟩,
  ⟨some 2, .assign (.tmp 5), none⟩]
def f28_c : LC := (.seq (.reg f28_r0 [] none) (.seq (.reg f28_r1 [] none) .ret))
theorem f28_lc : Tryz.f28.body.map lc = some f28_c.st := by kernel_rfl
theorem f28_res : Tryz.f28.results.toList = [.tmp 2] := by kernel_rfl
theorem f28_nt : Tryz.f28.ntmps = 6 := by kernel_rfl
theorem f28_nm : (Tryz.f28.name == "runtime.NumGoroutine") = false := by kernel_rfl
/-! quill/read.Read -/
def f29_r0 : List LOp := [
  ⟨some 2, .alloc 52, none⟩,
  ⟨some 3, .assign (.const (.int .i64 0)), none⟩,
  ⟨some 4, .assign (.const (.int .i64 0)), none⟩]
def f29_r1 : List LOp := [
  ⟨some 8, .move (.tmp 0), none⟩,
  ⟨some 9, .call { callee := .builtin .len, args := #[.tmp 8], argTypes := #[9] }, none⟩,
  ⟨some 10, .binOp .gtr 3 (.tmp 9) (.const (.int .i64 65536)) 3, none⟩]
def f29_r2 : List LOp := [
  ⟨some 11, .build 52 #[], none⟩,
  ⟨none, .store 52 (.tmp 2) (.tmp 11), none⟩,
  ⟨some 3, .assign (.const (.int .i64 0)), none⟩,
  ⟨some 4, .assign (.const (.int .i64 3)), none⟩]
def f29_r3 : List LOp := [
  ⟨some 13, .move (.tmp 0), none⟩,
  ⟨some 14, .build 94 #[(0, .tmp 13)], none⟩,
  ⟨some 15, .box 94 (.tmp 14), none⟩,
  ⟨some 16, .call { callee := .value (.func 43), args := #[.tmp 15], argTypes := #[92] }, none⟩,
  ⟨some 12, .move (.tmp 16), none⟩,
  ⟨some 17, .extract (.tmp 12) 0, none⟩,
  ⟨some 18, .extract (.tmp 12) 1, none⟩,
  ⟨some 19, .extract (.tmp 12) 2, none⟩,
  ⟨some 5, .alloc 52, none⟩,
  ⟨none, .store 52 (.tmp 5) (.tmp 17), none⟩,
  ⟨some 6, .assign (.tmp 18), none⟩,
  ⟨some 7, .assign (.tmp 19), none⟩]
def f29_r4 : List LOp := [
  ⟨some 20, .move (.tmp 7), none⟩,
  ⟨some 21, .binOp .eql 24 (.tmp 20) (.const (.int .i64 0)) 24, none⟩,
  ⟨some 22, .move (.tmp 21), none⟩,
  ⟨some 23, .load 52 (.tmp 5), some (2, true)⟩,
  ⟨some 24, .buildSlice 50 1 #[(0, .tmp 23)], some (2, true)⟩,
  ⟨some 25, .call { callee := .value (.func 34), args := #[.tmp 24], argTypes := #[50] }, some (2, true)⟩,
  ⟨some 26, .unOp .not 4 (.tmp 25), some (2, true)⟩,
  ⟨some 27, .pick (.tmp 22) (.tmp 26) (.const (.bool false)), none⟩]
def f29_r5 : List LOp := [
  ⟨some 28, .build 52 #[], none⟩,
  ⟨none, .store 52 (.tmp 2) (.tmp 28), none⟩,
  ⟨some 3, .assign (.const (.int .i64 0)), none⟩,
  ⟨some 4, .assign (.const (.int .i64 4)), none⟩]
def f29_r6 : List LOp := [
  ⟨some 29, .load 52 (.tmp 5), none⟩,
  ⟨some 30, .move (.tmp 6), none⟩,
  ⟨some 31, .move (.tmp 7), none⟩,
  ⟨none, .store 52 (.tmp 2) (.tmp 29), none⟩,
  ⟨some 3, .assign (.tmp 30), none⟩,
  ⟨some 4, .assign (.tmp 31), none⟩]
def f29_c : LC := (.seq (.reg f29_r0 [] none) (.seq (.seq (.reg f29_r1 [] none) (.cond (.tmp 10) (.seq (.reg f29_r2 [] none) .ret) .skip)) (.seq (.reg f29_r3 [2] none) (.seq (.seq (.reg f29_r4 [] none) (.cond (.tmp 27) (.seq (.reg f29_r5 [] none) .ret) .skip)) (.seq (.reg f29_r6 [] none) .ret)))))
theorem f29_lc : Tryz.f29.body.map lc = some f29_c.st := by kernel_rfl
theorem f29_res : Tryz.f29.results.toList = [.cell 2 52, .tmp 3, .tmp 4] := by kernel_rfl
theorem f29_nt : Tryz.f29.ntmps = 32 := by kernel_rfl
theorem f29_nm : (Tryz.f29.name == "runtime.NumGoroutine") = false := by kernel_rfl
/-! quill/rex.Size -/
def f30_r0 : List LOp := [
  ⟨some 2, .assign (.const (.int .i64 0)), none⟩]
def f30_r1 : List LOp := [
  ⟨some 6, .move (.tmp 0), none⟩,
  ⟨some 7, .call { callee := .builtin .len, args := #[.tmp 6], argTypes := #[50] }, none⟩,
  ⟨some 3, .assign (.tmp 7), none⟩]
def f30_r2 : List LOp := [
  ⟨some 8, .move (.tmp 0), none⟩,
  ⟨some 9, .call { callee := .builtin .len, args := #[.tmp 8], argTypes := #[50] }, none⟩,
  ⟨some 10, .move (.const (.int .i64 0)), none⟩]
def f30_r3 : List LOp := [
  ⟨some 11, .binOp .lss 3 (.tmp 10) (.tmp 9) 3, none⟩]
def f30_r4 : List LOp := [
  ⟨some 12, .indexAddr 50 (.tmp 8) (.tmp 10), none⟩,
  ⟨some 13, .load 52 (.tmp 12), none⟩,
  ⟨some 5, .alloc 52, none⟩,
  ⟨none, .store 52 (.tmp 5) (.tmp 13), none⟩]
def f30_r5 : List LOp := [
  ⟨some 14, .move (.tmp 3), none⟩,
  ⟨some 15, .fieldAddr 52 (.tmp 5) 2, none⟩,
  ⟨some 16, .load 50 (.tmp 15), none⟩,
  ⟨some 17, .call { callee := .value (.func 30), args := #[.tmp 16], argTypes := #[50] }, none⟩,
  ⟨some 18, .binOp .add 3 (.tmp 14) (.tmp 17) 3, none⟩,
  ⟨some 3, .assign (.tmp 18), none⟩]
def f30_r6 : List LOp := [
  ⟨some 19, .binOp .add 3 (.tmp 10) (.const (.int .i64 1)) 3, none⟩,
  ⟨some 10, .move (.tmp 19), none⟩]
def f30_l7 : LC := (.seq (.reg f30_r3 [] none) (.seq (.cond (.tmp 11) .skip (.exit 0)) (.seq (.block 1 (.seq (.reg f30_r4 [] none) (.reg f30_r5 [] none))) (.reg f30_r6 [] none))))
def f30_i7 (t3 t8 t9 t10 : D) : List D := [.any, .any, .any, t3, .any, .any, .any, .any, t8, t9, t10, .any, .any, .any, .any, .any, .any, .any, .any, .any, .any]
def f30_r8 : List LOp := [
  ⟨some 20, .move (.tmp 3), none⟩,
  ⟨some 2, .assign (.tmp 20), none⟩]
def f30_c : LC := (.seq (.reg f30_r0 [] none) (.seq (.reg f30_r1 [] none) (.seq (.seq (.reg f30_r2 [] none) (.block 0 (.loop f30_l7))) (.seq (.reg f30_r8 [] none) .ret))))
theorem f30_lc : Tryz.f30.body.map lc = some f30_c.st := by kernel_rfl
theorem f30_res : Tryz.f30.results.toList = [.tmp 2] := by kernel_rfl
theorem f30_nt : Tryz.f30.ntmps = 21 := by kernel_rfl
theorem f30_nm : (Tryz.f30.name == "runtime.NumGoroutine") = false := by kernel_rfl
/-! quill/quillref06.alt -/
def f31_r0 : List LOp := [
  ⟨some 4, .alloc 79, none⟩]
def f31_r1 : List LOp := [
  ⟨some 7, .buildSlice 50 0 #[], none⟩,
  ⟨some 5, .assign (.tmp 7), none⟩]
def f31_r2 : List LOp := [
  ⟨some 8, .move (.tmp 0), none⟩,
  ⟨some 9, .move (.tmp 1), none⟩,
  ⟨some 10, .call { callee := .value (.func 44), args := #[.tmp 8, .tmp 9], argTypes := #[9, 3] }, none⟩,
  ⟨some 6, .alloc 79, none⟩,
  ⟨none, .store 79 (.tmp 6) (.tmp 10), none⟩]
def f31_r3 : List LOp := [
  ⟨some 11, .fieldAddr 79 (.tmp 6) 2, none⟩,
  ⟨some 12, .load 4 (.tmp 11), none⟩]
def f31_r4 : List LOp := [
  ⟨some 13, .load 79 (.tmp 6), none⟩,
  ⟨none, .store 79 (.tmp 4) (.tmp 13), none⟩]
def f31_r5 : List LOp := [
  ⟨some 14, .move (.tmp 5), none⟩,
  ⟨some 15, .fieldAddr 79 (.tmp 6) 0, none⟩,
  ⟨some 16, .load 52 (.tmp 15), none⟩,
  ⟨some 17, .buildSlice 50 1 #[(0, .tmp 16)], none⟩,
  ⟨some 18, .call { callee := .builtin .append, args := #[.tmp 14, .tmp 17], argTypes := #[50, 50] }, none⟩,
  ⟨some 5, .assign (.tmp 18), none⟩]
def f31_r6 : List LOp := [
  ⟨some 19, .fieldAddr 79 (.tmp 6) 1, none⟩,
  ⟨some 20, .load 3 (.tmp 19), none⟩,
  ⟨some 1, .assign (.tmp 20), none⟩]
def f31_r7 : List LOp := [
  ⟨some 21, .move (.tmp 0), none⟩,
  ⟨some 22, .move (.tmp 1), none⟩,
  ⟨some 23, .call { callee := .value (.func 45), args := #[.tmp 21, .tmp 22, .const (.int .u8 124)], argTypes := #[9, 3, 5] }, none⟩,
  ⟨some 24, .unOp .not 4 (.tmp 23), none⟩]
def f31_r8 : List LOp := [
  ⟨some 25, .move (.tmp 5), none⟩,
  ⟨some 26, .call { callee := .value (.func 46), args := #[.const (.int .u8 5), .tmp 25], argTypes := #[5, 50] }, none⟩,
  ⟨some 27, .move (.tmp 1), none⟩,
  ⟨some 28, .build 79 #[(0, .tmp 26), (1, .tmp 27)], none⟩,
  ⟨none, .store 79 (.tmp 4) (.tmp 28), none⟩]
def f31_r9 : List LOp := [
  ⟨some 29, .move (.tmp 1), none⟩,
  ⟨some 30, .binOp .add 3 (.tmp 29) (.const (.int .i64 1)) 3, none⟩,
  ⟨some 1, .assign (.tmp 30), none⟩]
def f31_l10 : LC := (.block 1 (.seq (.reg f31_r2 [] none) (.seq (.seq (.reg f31_r3 [] none) (.cond (.tmp 12) (.seq (.reg f31_r4 [] none) .ret) .skip)) (.seq (.reg f31_r5 [] none) (.seq (.reg f31_r6 [] none) (.seq (.seq (.reg f31_r7 [] none) (.cond (.tmp 24) (.seq (.reg f31_r8 [] none) .ret) .skip)) (.reg f31_r9 [] none)))))))
def f31_i10 (t0 t1 t4 t5 : D) : List D := [t0, t1, .any, .any, t4, t5, .any, .any, .any, .any, .any, .any, .any, .any, .any, .any, .any, .any, .any, .any, .any, .any, .any, .any, .any, .any, .any, .any, .any, .any, .any]
def f31_c : LC := (.seq (.reg f31_r0 [] none) (.seq (.reg f31_r1 [0] none) (.block 0 (.loop f31_l10))))
theorem f31_lc : Tryz.f31.body.map lc = some f31_c.st := by kernel_rfl
theorem f31_res : Tryz.f31.results.toList = [.cell 4 79] := by kernel_rfl
theorem f31_nt : Tryz.f31.ntmps = 31 := by kernel_rfl
theorem f31_nm : (Tryz.f31.name == "runtime.NumGoroutine") = false := by kernel_rfl
/-! quill/quillref03.May -/
def f32_r0 : List LOp := [
  ⟨some 1, .box 52 (.tmp 0), none⟩,
  ⟨some 2, .assign (.const (.bool false)), none⟩]
def f32_r1 : List LOp := [
  ⟨some 6, .load 52 (.tmp 1), none⟩,
  ⟨some 7, .call { callee := .value (.func 33), args := #[.tmp 6], argTypes := #[52] }, none⟩,
  ⟨some 3, .assign (.tmp 7), none⟩]
def f32_r2 : List LOp := [
  ⟨some 8, .move (.tmp 3), none⟩,
  ⟨some 9, .call { callee := .builtin .len, args := #[.tmp 8], argTypes := #[50] }, none⟩,
  ⟨some 10, .move (.const (.int .i64 0)), none⟩]
def f32_r3 : List LOp := [
  ⟨some 11, .binOp .lss 3 (.tmp 10) (.tmp 9) 3, none⟩]
def f32_r4 : List LOp := [
  ⟨some 12, .move (.tmp 10), none⟩,
  ⟨some 4, .assign (.tmp 12), none⟩]
def f32_r5 : List LOp := [
  ⟨some 13, .move (.tmp 3), none⟩,
  ⟨some 14, .move (.tmp 4), none⟩,
  ⟨some 15, .indexAddr 50 (.tmp 13) (.tmp 14), none⟩,
  ⟨some 16, .fieldAddr 52 (.tmp 15) 1, none⟩,
  ⟨some 17, .load 49 (.tmp 16), none⟩,
  ⟨some 18, .build 49 #[], none⟩,
  ⟨some 19, .binOp .eql 49 (.tmp 17) (.tmp 18) 49, none⟩,
  ⟨some 5, .assign (.tmp 19), none⟩]
def f32_r6 : List LOp := [
  ⟨some 20, .move (.tmp 3), none⟩,
  ⟨some 21, .move (.tmp 4), none⟩,
  ⟨some 22, .indexAddr 50 (.tmp 20) (.tmp 21), none⟩,
  ⟨some 23, .fieldAddr 52 (.tmp 22) 0, none⟩,
  ⟨some 24, .load 5 (.tmp 23), none⟩,
  ⟨some 25, .binOp .lss 5 (.tmp 24) (.const (.int .u8 1)) 5, none⟩,
  ⟨some 26, .move (.tmp 25), none⟩,
  ⟨some 27, .move (.tmp 3), some (6, false)⟩,
  ⟨some 28, .move (.tmp 4), some (6, false)⟩,
  ⟨some 29, .indexAddr 50 (.tmp 27) (.tmp 28), some (6, false)⟩,
  ⟨some 30, .fieldAddr 52 (.tmp 29) 0, some (6, false)⟩,
  ⟨some 31, .load 5 (.tmp 30), some (6, false)⟩,
  ⟨some 32, .binOp .gtr 5 (.tmp 31) (.const (.int .u8 6)) 5, some (6, false)⟩,
  ⟨some 33, .pick (.tmp 26) (.const (.bool true)) (.tmp 32), none⟩,
  ⟨some 34, .move (.tmp 33), none⟩,
  ⟨some 35, .move (.tmp 3), some (14, false)⟩,
  ⟨some 36, .move (.tmp 4), some (14, false)⟩,
  ⟨some 37, .indexAddr 50 (.tmp 35) (.tmp 36), some (14, false)⟩,
  ⟨some 38, .fieldAddr 52 (.tmp 37) 0, some (14, false)⟩,
  ⟨some 39, .load 5 (.tmp 38), some (14, false)⟩,
  ⟨some 40, .binOp .eql 5 (.tmp 39) (.const (.int .u8 3)) 5, some (14, false)⟩,
  ⟨some 41, .move (.tmp 5), some (14, false)⟩,
  ⟨some 42, .binOp .eql 4 (.tmp 40) (.tmp 41) 4, some (14, false)⟩,
  ⟨some 43, .pick (.tmp 34) (.const (.bool true)) (.tmp 42), none⟩]
def f32_r7 : List LOp := [
  ⟨some 2, .assign (.const (.bool false)), none⟩]
def f32_r8 : List LOp := [
  ⟨some 44, .move (.tmp 3), none⟩,
  ⟨some 45, .move (.tmp 4), none⟩,
  ⟨some 46, .indexAddr 50 (.tmp 44) (.tmp 45), none⟩,
  ⟨some 47, .fieldAddr 52 (.tmp 46) 2, none⟩,
  ⟨some 48, .load 50 (.tmp 47), none⟩,
  ⟨some 49, .call { callee := .builtin .len, args := #[.tmp 48], argTypes := #[50] }, none⟩,
  ⟨some 50, .buildSlice 98 6 #[(0, .const (.int .i64 0)), (1, .const (.int .i64 0)), (2, .const (.int .i64 0)), (3, .const (.int .i64 2)), (4, .const (.int .i64 2)), (5, .const (.int .i64 1))], none⟩,
  ⟨some 51, .move (.tmp 3), none⟩,
  ⟨some 52, .move (.tmp 4), none⟩,
  ⟨some 53, .indexAddr 50 (.tmp 51) (.tmp 52), none⟩,
  ⟨some 54, .fieldAddr 52 (.tmp 53) 0, none⟩,
  ⟨some 55, .load 5 (.tmp 54), none⟩,
  ⟨some 56, .binOp .sub 5 (.tmp 55) (.const (.int .u8 1)) 5, none⟩,
  ⟨some 57, .indexAddr 98 (.tmp 50) (.tmp 56), none⟩,
  ⟨some 58, .load 3 (.tmp 57), none⟩,
  ⟨some 59, .binOp .neq 3 (.tmp 49) (.tmp 58) 3, none⟩]
def f32_r9 : List LOp := [
  ⟨some 2, .assign (.const (.bool false)), none⟩]
def f32_r10 : List LOp := [
  ⟨some 60, .binOp .add 3 (.tmp 10) (.const (.int .i64 1)) 3, none⟩,
  ⟨some 10, .move (.tmp 60), none⟩]
def f32_l11 : LC := (.seq (.reg f32_r3 [] none) (.seq (.cond (.tmp 11) .skip (.exit 0)) (.seq (.block 1 (.seq (.reg f32_r4 [] none) (.seq (.reg f32_r5 [] none) (.seq (.seq (.reg f32_r6 [] none) (.cond (.tmp 43) (.seq (.reg f32_r7 [] none) .ret) .skip)) (.seq (.reg f32_r8 [] (some 16)) (.cond (.tmp 59) (.seq (.reg f32_r9 [] none) .ret) .skip)))))) (.reg f32_r10 [] none))))
def f32_i11 (t3 t9 t10 : D) : List D := [.any, .any, .any, t3, .any, .any, .any, .any, .any, t9, t10, .any, .any, .any, .any, .any, .any, .any, .any, .any, .any, .any, .any, .any, .any, .any, .any, .any, .any, .any, .any, .any, .any, .any, .any, .any, .any, .any, .any, .any, .any, .any, .any, .any, .any, .any, .any, .any, .any, .any, .any, .any, .any, .any, .any, .any, .any, .any, .any, .any, .any, .any, .any, .any]
def f32_r12 : List LOp := [
  ⟨some 61, .move (.tmp 3), none⟩,
  ⟨some 62, .call { callee := .builtin .len, args := #[.tmp 61], argTypes := #[50] }, none⟩,
  ⟨some 63, .binOp .leq 3 (.tmp 62) (.const (.int .i64 2000)) 3, none⟩,
  ⟨some 2, .assign (.tmp 63), none⟩]
def f32_c : LC := (.seq (.reg f32_r0 [] none) (.seq (.reg f32_r1 [] none) (.seq (.seq (.reg f32_r2 [] none) (.block 0 (.loop f32_l11))) (.seq (.reg f32_r12 [] none) .ret))))
theorem f32_lc : Tryz.f32.body.map lc = some f32_c.st := by kernel_rfl
theorem f32_res : Tryz.f32.results.toList = [.tmp 2] := by kernel_rfl
theorem f32_nt : Tryz.f32.ntmps = 64 := by kernel_rfl
theorem f32_nm : (Tryz.f32.name == "runtime.NumGoroutine") = false := by kernel_rfl
/-! quill/quillref03.All -/
def f33_r0 : List LOp := [
  ⟨some 1, .box 52 (.tmp 0), none⟩,
  ⟨some 2, .assign (.const (.slice none 0 0)), none⟩]
def f33_r1 : List LOp := [
  ⟨some 5, .load 52 (.tmp 1), none⟩,
  ⟨some 6, .buildSlice 50 1 #[(0, .tmp 5)], none⟩,
  ⟨some 3, .assign (.tmp 6), none⟩]
def f33_r2 : List LOp := [
  ⟨some 7, .fieldAddr 52 (.tmp 1) 2, none⟩,
  ⟨some 8, .load 50 (.tmp 7), none⟩,
  ⟨some 9, .call { callee := .builtin .len, args := #[.tmp 8], argTypes := #[50] }, none⟩,
  ⟨some 10, .move (.const (.int .i64 0)), none⟩]
def f33_r3 : List LOp := [
  ⟨some 11, .binOp .lss 3 (.tmp 10) (.tmp 9) 3, none⟩]
def f33_r4 : List LOp := [
  ⟨some 12, .move (.tmp 10), none⟩,
  ⟨some 4, .assign (.tmp 12), none⟩]
def f33_r5 : List LOp := [
  ⟨some 13, .move (.tmp 3), none⟩,
  ⟨some 14, .fieldAddr 52 (.tmp 1) 2, none⟩,
  ⟨some 15, .load 50 (.tmp 14), none⟩,
  ⟨some 16, .move (.tmp 4), none⟩,
  ⟨some 17, .indexAddr 50 (.tmp 15) (.tmp 16), none⟩,
  ⟨some 18, .load 52 (.tmp 17), none⟩,
  ⟨some 19, .call { callee := .value (.func 33), args := #[.tmp 18], argTypes := #[52] }, none⟩,
  ⟨some 20, .call { callee := .builtin .append, args := #[.tmp 13, .tmp 19], argTypes := #[50, 50] }, none⟩,
  ⟨some 3, .assign (.tmp 20), none⟩]
def f33_r6 : List LOp := [
  ⟨some 21, .binOp .add 3 (.tmp 10) (.const (.int .i64 1)) 3, none⟩,
  ⟨some 10, .move (.tmp 21), none⟩]
def f33_l7 : LC := (.seq (.reg f33_r3 [] none) (.seq (.cond (.tmp 11) .skip (.exit 0)) (.seq (.block 1 (.seq (.reg f33_r4 [] none) (.reg f33_r5 [] none))) (.reg f33_r6 [] none))))
def f33_i7 (t1 t3 t9 t10 : D) : List D := [.any, t1, .any, t3, .any, .any, .any, .any, .any, t9, t10, .any, .any, .any, .any, .any, .any, .any, .any, .any, .any, .any, .any]
def f33_r8 : List LOp := [
  ⟨some 22, .move (.tmp 3), none⟩,
  ⟨some 2, .assign (.tmp 22), none⟩]
def f33_c : LC := (.seq (.reg f33_r0 [] none) (.seq (.reg f33_r1 [1] none) (.seq (.seq (.reg f33_r2 [] none) (.block 0 (.loop f33_l7))) (.seq (.reg f33_r8 [] none) .ret))))
theorem f33_lc : Tryz.f33.body.map lc = some f33_c.st := by kernel_rfl
theorem f33_res : Tryz.f33.results.toList = [.tmp 2] := by kernel_rfl
theorem f33_nt : Tryz.f33.ntmps = 23 := by kernel_rfl
theorem f33_nm : (Tryz.f33.name == "runtime.NumGoroutine") = false := by kernel_rfl
/-! quill/rex.May -/
def f34_r0 : List LOp := [
  ⟨some 2, .assign (.const (.bool false)), none⟩]
def f34_r1 : List LOp := [
  ⟨some 3, .move (.tmp 0), none⟩,
  ⟨some 4, .call { callee := .value (.func 47), args := #[.tmp 3, .func 48], argTypes := #[50, 81] }, none⟩,
  ⟨some 5, .unOp .not 4 (.tmp 4), none⟩,
  ⟨some 2, .assign (.tmp 5), none⟩]
def f34_c : LC := (.seq (.reg f34_r0 [] none) (.seq (.reg f34_r1 [] none) .ret))
theorem f34_lc : Tryz.f34.body.map lc = some f34_c.st := by kernel_rfl
theorem f34_res : Tryz.f34.results.toList = [.tmp 2] := by kernel_rfl
theorem f34_nt : Tryz.f34.ntmps = 6 := by kernel_rfl
theorem f34_nm : (Tryz.f34.name == "runtime.NumGoroutine") = false := by kernel_rfl
/-! (*quill/show.page).put -/
def f36_r0 : List LOp := [
  ⟨some 4, .box 52 (.tmp 1), none⟩]
def f36_r1 : List LOp := [
  ⟨some 7, .move (.tmp 2), none⟩,
  ⟨some 8, .fieldAddr 52 (.tmp 4) 0, none⟩,
  ⟨some 9, .load 5 (.tmp 8), none⟩,
  ⟨some 10, .call { callee := .value (.func 51), args := #[.tmp 7, .tmp 9], argTypes := #[61, 5] }, none⟩,
  ⟨some 6, .assign (.tmp 10), none⟩]
def f36_r2 : List LOp := [
  ⟨some 11, .move (.tmp 6), none⟩]
def f36_r3 : List LOp := [
  ⟨some 12, .move (.tmp 0), none⟩,
  ⟨some 13, .nilCheck (.tmp 12), none⟩,
  ⟨some 14, .fieldAddr 86 (.tmp 13) 0, none⟩,
  ⟨some 15, .call { callee := .value (.func 52), args := #[.tmp 14, .const (.int .u8 40)], argTypes := #[63, 5] }, none⟩]
def f36_r4 : List LOp := [
  ⟨some 16, .fieldAddr 52 (.tmp 4) 0, none⟩,
  ⟨some 17, .load 5 (.tmp 16), none⟩]
def f36_r5 : List LOp := [
  ⟨some 19, .binOp .eql 5 (.tmp 17) (.const (.int .u8 1)) 5, none⟩,
  ⟨some 18, .assign (.tmp 19), none⟩]
def f36_r6 : List LOp := [
  ⟨some 20, .move (.tmp 0), none⟩,
  ⟨some 21, .nilCheck (.tmp 20), none⟩,
  ⟨some 22, .fieldAddr 86 (.tmp 21) 0, none⟩,
  ⟨some 23, .call { callee := .value (.func 20), args := #[.tmp 22, .const (.string { data := #[91, 93] })], argTypes := #[63, 9] }, none⟩]
def f36_r7 : List LOp := [
  ⟨some 25, .binOp .eql 5 (.tmp 17) (.const (.int .u8 2)) 5, none⟩,
  ⟨some 24, .assign (.tmp 25), none⟩]
def f36_r8 : List LOp := [
  ⟨some 26, .move (.tmp 0), none⟩,
  ⟨some 27, .nilCheck (.tmp 26), none⟩,
  ⟨some 28, .fieldAddr 86 (.tmp 27) 0, none⟩,
  ⟨some 29, .call { callee := .value (.func 20), args := #[.tmp 28, .const (.string { data := #[40, 41] })], argTypes := #[63, 9] }, none⟩]
def f36_r9 : List LOp := [
  ⟨some 31, .binOp .eql 5 (.tmp 17) (.const (.int .u8 3)) 5, none⟩,
  ⟨some 30, .assign (.tmp 31), none⟩]
def f36_r10 : List LOp := [
  ⟨some 32, .move (.tmp 0), none⟩,
  ⟨some 33, .nilCheck (.tmp 32), none⟩,
  ⟨some 34, .fieldAddr 86 (.tmp 33) 0, none⟩,
  ⟨some 35, .fieldAddr 52 (.tmp 4) 1, none⟩,
  ⟨some 36, .load 49 (.tmp 35), none⟩,
  ⟨some 37, .call { callee := .value (.func 53), args := #[.tmp 36], argTypes := #[49] }, none⟩,
  ⟨some 38, .call { callee := .value (.func 20), args := #[.tmp 34, .tmp 37], argTypes := #[63, 9] }, none⟩]
def f36_r11 : List LOp := [
  ⟨some 40, .binOp .eql 5 (.tmp 17) (.const (.int .u8 4)) 5, none⟩,
  ⟨some 39, .assign (.tmp 40), none⟩]
def f36_r12 : List LOp := [
  ⟨some 41, .move (.tmp 0), none⟩,
  ⟨some 42, .fieldAddr 52 (.tmp 4) 2, none⟩,
  ⟨some 43, .load 50 (.tmp 42), none⟩,
  ⟨some 44, .indexAddr 50 (.tmp 43) (.const (.int .i64 0)), none⟩,
  ⟨some 45, .load 52 (.tmp 44), none⟩,
  ⟨some 46, .buildSlice 61 2 #[(0, .const (.int .u8 4)), (1, .const (.int .u8 5))], none⟩,
  ⟨some 47, .call { callee := .value (.func 36), args := #[.tmp 41, .tmp 45, .tmp 46], argTypes := #[84, 52, 61] }, none⟩]
def f36_r13 : List LOp := [
  ⟨some 48, .move (.tmp 0), none⟩,
  ⟨some 49, .fieldAddr 52 (.tmp 4) 2, none⟩,
  ⟨some 50, .load 50 (.tmp 49), none⟩,
  ⟨some 51, .indexAddr 50 (.tmp 50) (.const (.int .i64 1)), none⟩,
  ⟨some 52, .load 52 (.tmp 51), none⟩,
  ⟨some 53, .buildSlice 61 1 #[(0, .const (.int .u8 5))], none⟩,
  ⟨some 54, .call { callee := .value (.func 36), args := #[.tmp 48, .tmp 52, .tmp 53], argTypes := #[84, 52, 61] }, none⟩]
def f36_r14 : List LOp := [
  ⟨some 56, .binOp .eql 5 (.tmp 17) (.const (.int .u8 5)) 5, none⟩,
  ⟨some 55, .assign (.tmp 56), none⟩]
def f36_r15 : List LOp := [
  ⟨some 57, .move (.tmp 0), none⟩,
  ⟨some 58, .fieldAddr 52 (.tmp 4) 2, none⟩,
  ⟨some 59, .load 50 (.tmp 58), none⟩,
  ⟨some 60, .indexAddr 50 (.tmp 59) (.const (.int .i64 0)), none⟩,
  ⟨some 61, .load 52 (.tmp 60), none⟩,
  ⟨some 62, .buildSlice 61 1 #[(0, .const (.int .u8 5))], none⟩,
  ⟨some 63, .call { callee := .value (.func 36), args := #[.tmp 57, .tmp 61, .tmp 62], argTypes := #[84, 52, 61] }, none⟩]
def f36_r16 : List LOp := [
  ⟨some 64, .move (.tmp 0), none⟩,
  ⟨some 65, .nilCheck (.tmp 64), none⟩,
  ⟨some 66, .fieldAddr 86 (.tmp 65) 0, none⟩,
  ⟨some 67, .call { callee := .value (.func 52), args := #[.tmp 66, .const (.int .u8 124)], argTypes := #[63, 5] }, none⟩]
def f36_r17 : List LOp := [
  ⟨some 68, .move (.tmp 0), none⟩,
  ⟨some 69, .fieldAddr 52 (.tmp 4) 2, none⟩,
  ⟨some 70, .load 50 (.tmp 69), none⟩,
  ⟨some 71, .indexAddr 50 (.tmp 70) (.const (.int .i64 1)), none⟩,
  ⟨some 72, .load 52 (.tmp 71), none⟩,
  ⟨some 73, .call { callee := .value (.func 36), args := #[.tmp 68, .tmp 72, .const (.slice none 0 0)], argTypes := #[84, 52, 61] }, none⟩]
def f36_r18 : List LOp := [
  ⟨some 75, .binOp .eql 5 (.tmp 17) (.const (.int .u8 6)) 5, none⟩,
  ⟨some 74, .assign (.tmp 75), none⟩]
def f36_r19 : List LOp := [
  ⟨some 76, .move (.tmp 0), none⟩,
  ⟨some 77, .fieldAddr 52 (.tmp 4) 2, none⟩,
  ⟨some 78, .load 50 (.tmp 77), none⟩,
  ⟨some 79, .indexAddr 50 (.tmp 78) (.const (.int .i64 0)), none⟩,
  ⟨some 80, .load 52 (.tmp 79), none⟩,
  ⟨some 81, .buildSlice 61 2 #[(0, .const (.int .u8 4)), (1, .const (.int .u8 5))], none⟩,
  ⟨some 82, .call { callee := .value (.func 36), args := #[.tmp 76, .tmp 80, .tmp 81], argTypes := #[84, 52, 61] }, none⟩]
def f36_r20 : List LOp := [
  ⟨some 83, .move (.tmp 0), none⟩,
  ⟨some 84, .nilCheck (.tmp 83), none⟩,
  ⟨some 85, .fieldAddr 86 (.tmp 84) 0, none⟩,
  ⟨some 86, .call { callee := .value (.func 52), args := #[.tmp 85, .const (.int .u8 42)], argTypes := #[63, 5] }, none⟩]
def f36_r21 : List LOp := [
  ⟨some 87, .move (.tmp 6), none⟩]
def f36_r22 : List LOp := [
  ⟨some 88, .move (.tmp 0), none⟩,
  ⟨some 89, .nilCheck (.tmp 88), none⟩,
  ⟨some 90, .fieldAddr 86 (.tmp 89) 0, none⟩,
  ⟨some 91, .call { callee := .value (.func 52), args := #[.tmp 90, .const (.int .u8 41)], argTypes := #[63, 5] }, none⟩]
def f36_c : LC := (.seq (.reg f36_r0 [] none) (.seq (.reg f36_r1 [] none) (.seq (.seq (.reg f36_r2 [] none) (.cond (.tmp 11) (.reg f36_r3 [] none) .skip)) (.seq (.seq (.reg f36_r4 [] none) (.block 0 (.seq (.reg f36_r5 [] none) (.cond (.tmp 18) (.reg f36_r6 [] none) (.seq (.reg f36_r7 [] none) (.cond (.tmp 24) (.reg f36_r8 [] none) (.seq (.reg f36_r9 [] none) (.cond (.tmp 30) (.reg f36_r10 [] (some 6)) (.seq (.reg f36_r11 [] none) (.cond (.tmp 39) (.seq (.reg f36_r12 [] none) (.reg f36_r13 [] none)) (.seq (.reg f36_r14 [] none) (.cond (.tmp 55) (.seq (.reg f36_r15 [] none) (.seq (.reg f36_r16 [] none) (.reg f36_r17 [] none))) (.seq (.reg f36_r18 [] none) (.cond (.tmp 74) (.seq (.reg f36_r19 [] none) (.reg f36_r20 [] none)) .skip)))))))))))))) (.seq (.reg f36_r21 [] none) (.cond (.tmp 87) (.reg f36_r22 [] none) .skip))))))
theorem f36_lc : Tryz.f36.body.map lc = some f36_c.st := by kernel_rfl
theorem f36_res : Tryz.f36.results.toList = [] := by kernel_rfl
theorem f36_nt : Tryz.f36.ntmps = 92 := by kernel_rfl
theorem f36_nm : (Tryz.f36.name == "runtime.NumGoroutine") = false := by kernel_rfl
/-! internal/stringslite.IndexByte -/
/-! internal/stringslite.HasSuffix -/
def f38_r0 : List LOp := [
  ⟨some 4, .assign (.const (.bool false)), none⟩]
def f38_r1 : List LOp := [
  ⟨some 5, .move (.tmp 0), none⟩,
  ⟨some 6, .call { callee := .builtin .len, args := #[.tmp 5], argTypes := #[9] }, none⟩,
  ⟨some 7, .move (.tmp 1), none⟩,
  ⟨some 8, .call { callee := .builtin .len, args := #[.tmp 7], argTypes := #[9] }, none⟩,
  ⟨some 9, .binOp .geq 3 (.tmp 6) (.tmp 8) 3, none⟩,
  ⟨some 10, .move (.tmp 9), none⟩,
  ⟨some 11, .move (.tmp 0), some (5, true)⟩,
  ⟨some 12, .move (.tmp 0), some (5, true)⟩,
  ⟨some 13, .call { callee := .builtin .len, args := #[.tmp 12], argTypes := #[9] }, some (5, true)⟩,
  ⟨some 14, .move (.tmp 1), some (5, true)⟩,
  ⟨some 15, .call { callee := .builtin .len, args := #[.tmp 14], argTypes := #[9] }, some (5, true)⟩,
  ⟨some 16, .binOp .sub 3 (.tmp 13) (.tmp 15) 3, some (5, true)⟩,
  ⟨some 17, .slice 9 (.tmp 11) (some (.tmp 16)) none none, some (5, true)⟩,
  ⟨some 18, .move (.tmp 1), some (5, true)⟩,
  ⟨some 19, .binOp .eql 9 (.tmp 17) (.tmp 18) 9, some (5, true)⟩,
  ⟨some 20, .pick (.tmp 10) (.tmp 19) (.const (.bool false)), none⟩,
  ⟨some 4, .assign (.tmp 20), none⟩]
def f38_c : LC := (.seq (.reg f38_r0 [] none) (.seq (.reg f38_r1 [] none) .ret))
theorem f38_lc : Tryz.f38.body.map lc = some f38_c.st := by kernel_rfl
theorem f38_res : Tryz.f38.results.toList = [.tmp 4] := by kernel_rfl
theorem f38_nt : Tryz.f38.ntmps = 21 := by kernel_rfl
theorem f38_nm : (Tryz.f38.name == "runtime.NumGoroutine") = false := by kernel_rfl
/-! internal/stringslite.Cut -/
def f39_r0 : List LOp := [
  ⟨some 4, .assign (.const (.string { data := #[] })), none⟩,
  ⟨some 5, .assign (.const (.string { data := #[] })), none⟩,
  ⟨some 6, .assign (.const (.bool false)), none⟩]
def f39_r1 : List LOp := [
  ⟨some 8, .move (.tmp 0), none⟩,
  ⟨some 9, .move (.tmp 1), none⟩,
  ⟨some 10, .call { callee := .value (.func 55), args := #[.tmp 8, .tmp 9], argTypes := #[9, 9] }, none⟩,
  ⟨some 7, .assign (.tmp 10), none⟩]
def f39_r2 : List LOp := [
  ⟨some 11, .move (.tmp 7), none⟩,
  ⟨some 12, .binOp .geq 3 (.tmp 11) (.const (.int .i64 0)) 3, none⟩]
def f39_r3 : List LOp := [
  ⟨some 13, .move (.tmp 0), none⟩,
  ⟨some 14, .move (.tmp 7), none⟩,
  ⟨some 15, .slice 9 (.tmp 13) none (some (.tmp 14)) none, none⟩,
  ⟨some 16, .move (.tmp 0), none⟩,
  ⟨some 17, .move (.tmp 7), none⟩,
  ⟨some 18, .move (.tmp 1), none⟩,
  ⟨some 19, .call { callee := .builtin .len, args := #[.tmp 18], argTypes := #[9] }, none⟩,
  ⟨some 20, .binOp .add 3 (.tmp 17) (.tmp 19) 3, none⟩,
  ⟨some 21, .slice 9 (.tmp 16) (some (.tmp 20)) none none, none⟩,
  ⟨some 4, .assign (.tmp 15), none⟩,
  ⟨some 5, .assign (.tmp 21), none⟩,
  ⟨some 6, .assign (.const (.bool true)), none⟩]
def f39_r4 : List LOp := [
  ⟨some 22, .move (.tmp 0), none⟩,
  ⟨some 4, .assign (.tmp 22), none⟩,
  ⟨some 5, .assign (.const (.string { data := #[] })), none⟩,
  ⟨some 6, .assign (.const (.bool false)), none⟩]
def f39_c : LC := (.seq (.reg f39_r0 [] none) (.seq (.seq (.reg f39_r1 [] none) (.seq (.reg f39_r2 [] none) (.cond (.tmp 12) (.seq (.regp f39_r3 [] [0, 1, 3, 4, 5] 10) .ret) .skip))) (.seq (.reg f39_r4 [] none) .ret)))
theorem f39_lc : Tryz.f39.body.map lc = some f39_c.st := by kernel_rfl
theorem f39_res : Tryz.f39.results.toList = [.tmp 4, .tmp 5, .tmp 6] := by kernel_rfl
theorem f39_nt : Tryz.f39.ntmps = 23 := by kernel_rfl
theorem f39_nm : (Tryz.f39.name == "runtime.NumGoroutine") = false := by kernel_rfl
/-! slices.ContainsFunc[[]string,string] -/
def f40_r0 : List LOp := [
  ⟨some 4, .assign (.const (.bool false)), none⟩]
def f40_r1 : List LOp := [
  ⟨some 5, .move (.tmp 0), none⟩,
  ⟨some 6, .move (.tmp 1), none⟩,
  ⟨some 7, .call { callee := .value (.func 56), args := #[.tmp 5, .tmp 6], argTypes := #[90, 32] }, none⟩,
  ⟨some 8, .binOp .geq 3 (.tmp 7) (.const (.int .i64 0)) 3, none⟩,
  ⟨some 4, .assign (.tmp 8), none⟩]
def f40_c : LC := (.seq (.reg f40_r0 [] none) (.seq (.reg f40_r1 [] none) .ret))
theorem f40_lc : Tryz.f40.body.map lc = some f40_c.st := by kernel_rfl
theorem f40_res : Tryz.f40.results.toList = [.tmp 4] := by kernel_rfl
theorem f40_nt : Tryz.f40.ntmps = 9 := by kernel_rfl
theorem f40_nm : (Tryz.f40.name == "runtime.NumGoroutine") = false := by kernel_rfl
/-! quill/num.Name$1 -/
def f41_r0 : List LOp := [
  ⟨some 2, .assign (.const (.bool false)), none⟩]
def f41_r1 : List LOp := [
  ⟨some 3, .move (.tmp 0), none⟩,
  ⟨some 4, .call { callee := .value (.func 42), args := #[.tmp 3], argTypes := #[9] }, none⟩,
  ⟨some 5, .unOp .not 4 (.tmp 4), none⟩,
  ⟨some 2, .assign (.tmp 5), none⟩]
def f41_c : LC := (.seq (.reg f41_r0 [] none) (.seq (.reg f41_r1 [] none) .ret))
theorem f41_lc : Tryz.f41.body.map lc = some f41_c.st := by kernel_rfl
theorem f41_res : Tryz.f41.results.toList = [.tmp 2] := by kernel_rfl
theorem f41_nt : Tryz.f41.ntmps = 6 := by kernel_rfl
theorem f41_nm : (Tryz.f41.name == "runtime.NumGoroutine") = false := by kernel_rfl
/-! quill/num.name -/
def f42_r0 : List LOp := [
  ⟨some 2, .assign (.const (.bool false)), none⟩]
def f42_r1 : List LOp := [
  ⟨some 6, .move (.tmp 0), none⟩,
  ⟨some 7, .range 9 (.tmp 6), none⟩]
def f42_r2 : List LOp := [
  ⟨some 8, .next (.tmp 7) true, none⟩,
  ⟨some 9, .extract (.tmp 8) 0, none⟩]
def f42_r3 : List LOp := [
  ⟨some 10, .extract (.tmp 8) 1, none⟩,
  ⟨some 11, .extract (.tmp 8) 2, none⟩,
  ⟨some 3, .assign (.tmp 10), none⟩,
  ⟨some 4, .assign (.tmp 11), none⟩]
def f42_r4 : List LOp := [
  ⟨some 12, .move (.tmp 4), none⟩,
  ⟨some 13, .binOp .geq 21 (.tmp 12) (.const (.int .i32 97)) 21, none⟩,
  ⟨some 14, .move (.tmp 13), none⟩,
  ⟨some 15, .move (.tmp 4), some (2, true)⟩,
  ⟨some 16, .binOp .leq 21 (.tmp 15) (.const (.int .i32 122)) 21, some (2, true)⟩,
  ⟨some 17, .pick (.tmp 14) (.tmp 16) (.const (.bool false)), none⟩,
  ⟨some 5, .assign (.tmp 17), none⟩]
def f42_r5 : List LOp := [
  ⟨some 18, .move (.tmp 5), none⟩,
  ⟨some 19, .unOp .not 4 (.tmp 18), none⟩,
  ⟨some 20, .move (.tmp 19), none⟩,
  ⟨some 21, .move (.tmp 3), some (2, true)⟩,
  ⟨some 22, .binOp .eql 3 (.tmp 21) (.const (.int .i64 0)) 3, some (2, true)⟩,
  ⟨some 23, .move (.tmp 22), some (2, true)⟩,
  ⟨some 24, .move (.tmp 4), some (5, false)⟩,
  ⟨some 25, .binOp .neq 21 (.tmp 24) (.const (.int .i32 95)) 21, some (5, false)⟩,
  ⟨some 26, .move (.tmp 25), some (5, false)⟩,
  ⟨some 27, .move (.tmp 4), some (8, true)⟩,
  ⟨some 28, .binOp .lss 21 (.tmp 27) (.const (.int .i32 48)) 21, some (8, true)⟩,
  ⟨some 29, .move (.tmp 28), some (8, true)⟩,
  ⟨some 30, .move (.tmp 4), some (11, false)⟩,
  ⟨some 31, .binOp .gtr 21 (.tmp 30) (.const (.int .i32 57)) 21, some (11, false)⟩,
  ⟨some 32, .pick (.tmp 29) (.const (.bool true)) (.tmp 31), some (8, true)⟩,
  ⟨some 33, .pick (.tmp 26) (.tmp 32) (.const (.bool false)), some (5, false)⟩,
  ⟨some 34, .pick (.tmp 23) (.const (.bool true)) (.tmp 33), some (2, true)⟩,
  ⟨some 35, .pick (.tmp 20) (.tmp 34) (.const (.bool false)), none⟩]
def f42_r6 : List LOp := [
  ⟨some 2, .assign (.const (.bool false)), none⟩]
def f42_l7 : LC := (.seq (.reg f42_r2 [] none) (.seq (.cond (.tmp 9) .skip (.exit 0)) (.block 1 (.seq (.reg f42_r3 [] none) (.seq (.reg f42_r4 [] none) (.seq (.reg f42_r5 [] none) (.cond (.tmp 35) (.seq (.reg f42_r6 [] none) .ret) .skip)))))))
def f42_i7 (t0 t7 : D) : List D := [t0, .any, .any, .any, .any, .any, .any, t7, .any, .any, .any, .any, .any, .any, .any, .any, .any, .any, .any, .any, .any, .any, .any, .any, .any, .any, .any, .any, .any, .any, .any, .any, .any, .any, .any, .any, .any, .any, .any, .any, .any, .any, .any, .any]
def f42_r8 : List LOp := [
  ⟨some 36, .move (.tmp 0), none⟩,
  ⟨some 37, .call { callee := .builtin .len, args := #[.tmp 36], argTypes := #[9] }, none⟩,
  ⟨some 38, .binOp .geq 3 (.tmp 37) (.const (.int .i64 1)) 3, none⟩,
  ⟨some 39, .move (.tmp 38), none⟩,
  ⟨some 40, .move (.tmp 0), some (3, true)⟩,
  ⟨some 41, .call { callee := .builtin .len, args := #[.tmp 40], argTypes := #[9] }, some (3, true)⟩,
  ⟨some 42, .binOp .leq 3 (.tmp 41) (.const (.int .i64 30)) 3, some (3, true)⟩,
  ⟨some 43, .pick (.tmp 39) (.tmp 42) (.const (.bool false)), none⟩,
  ⟨some 2, .assign (.tmp 43), none⟩]
def f42_c : LC := (.seq (.reg f42_r0 [] none) (.seq (.seq (.reg f42_r1 [] none) (.block 0 (.loop f42_l7))) (.seq (.reg f42_r8 [] none) .ret)))
theorem f42_lc : Tryz.f42.body.map lc = some f42_c.st := by kernel_rfl
theorem f42_res : Tryz.f42.results.toList = [.tmp 2] := by kernel_rfl
theorem f42_nt : Tryz.f42.ntmps = 44 := by kernel_rfl
theorem f42_nm : (Tryz.f42.name == "runtime.NumGoroutine") = false := by kernel_rfl
/-! (*quill/read.reader).whole -/
def f43_r0 : List LOp := [
  ⟨some 2, .alloc 52, none⟩,
  ⟨some 3, .alloc 3, none⟩,
  ⟨some 4, .alloc 24, none⟩]
def f43_r1 : List LOp := [
  ⟨some 5, .makeFunc (.func 57) #[] #[.tmp 2, .tmp 3, .tmp 4], none⟩,
  ⟨none, .defer { callee := .value (.tmp 5), args := #[], argTypes := #[] }, none⟩]
def f43_r2 : List LOp := [
  ⟨some 6, .move (.tmp 0), none⟩,
  ⟨some 7, .call { callee := .value (.func 58), args := #[.tmp 6], argTypes := #[92] }, none⟩,
  ⟨none, .store 52 (.tmp 2) (.tmp 7), none⟩]
def f43_r3 : List LOp := [
  ⟨some 8, .move (.tmp 0), none⟩,
  ⟨some 9, .nilCheck (.tmp 8), none⟩,
  ⟨some 10, .fieldAddr 94 (.tmp 9) 1, none⟩,
  ⟨some 11, .load 3 (.tmp 10), none⟩,
  ⟨some 12, .move (.tmp 0), none⟩,
  ⟨some 13, .nilCheck (.tmp 12), none⟩,
  ⟨some 14, .fieldAddr 94 (.tmp 13) 0, none⟩,
  ⟨some 15, .load 9 (.tmp 14), none⟩,
  ⟨some 16, .call { callee := .builtin .len, args := #[.tmp 15], argTypes := #[9] }, none⟩,
  ⟨some 17, .binOp .lss 3 (.tmp 11) (.tmp 16) 3, none⟩]
def f43_r4 : List LOp := [
  ⟨some 18, .move (.tmp 0), none⟩,
  ⟨some 19, .nilCheck (.tmp 18), none⟩,
  ⟨some 20, .fieldAddr 94 (.tmp 19) 1, none⟩,
  ⟨some 21, .load 3 (.tmp 20), none⟩,
  ⟨some 22, .build 108 #[(0, .tmp 21)], none⟩,
  ⟨some 23, .makeInterface 108 (.tmp 22), none⟩,
  ⟨none, .panic (.tmp 23), none⟩]
def f43_r5 : List LOp := [
  ⟨some 24, .load 52 (.tmp 2), none⟩,
  ⟨none, .store 52 (.tmp 2) (.tmp 24), none⟩,
  ⟨none, .store 3 (.tmp 3) (.const (.int .i64 0)), none⟩,
  ⟨none, .store 24 (.tmp 4) (.const (.int .i64 0)), none⟩]
def f43_c : LC := (.seq (.reg f43_r0 [] none) (.seq (.reg f43_r1 [] none) (.seq (.reg f43_r2 [] none) (.seq (.seq (.reg f43_r3 [] (some 9)) (.cond (.tmp 17) (.reg f43_r4 [] none) .skip)) (.seq (.reg f43_r5 [] none) .ret)))))
theorem f43_lc : Tryz.f43.body.map lc = some f43_c.st := by kernel_rfl
theorem f43_res : Tryz.f43.results.toList = [.cell 2 52, .cell 3 3, .cell 4 24] := by kernel_rfl
theorem f43_nt : Tryz.f43.ntmps = 25 := by kernel_rfl
theorem f43_nm : (Tryz.f43.name == "runtime.NumGoroutine") = false := by kernel_rfl
/-! quill/quillref06.row -/
def f44_r0 : List LOp := [
  ⟨some 4, .alloc 79, none⟩]
def f44_r1 : List LOp := [
  ⟨some 7, .buildSlice 50 0 #[], none⟩,
  ⟨some 5, .assign (.tmp 7), none⟩]
def f44_r2 : List LOp := [
  ⟨some 8, .move (.tmp 5), none⟩,
  ⟨some 9, .call { callee := .builtin .len, args := #[.tmp 8], argTypes := #[50] }, none⟩,
  ⟨some 10, .binOp .eql 3 (.tmp 9) (.const (.int .i64 0)) 3, none⟩,
  ⟨some 11, .move (.tmp 10), none⟩,
  ⟨some 12, .move (.tmp 0), some (3, false)⟩,
  ⟨some 13, .move (.tmp 1), some (3, false)⟩,
  ⟨some 14, .call { callee := .value (.func 45), args := #[.tmp 12, .tmp 13, .const (.int .u8 46)], argTypes := #[9, 3, 5] }, some (3, false)⟩,
  ⟨some 15, .pick (.tmp 11) (.const (.bool true)) (.tmp 14), none⟩,
  ⟨some 16, .move (.tmp 15), none⟩,
  ⟨some 17, .move (.tmp 0), some (8, false)⟩,
  ⟨some 18, .move (.tmp 1), some (8, false)⟩,
  ⟨some 19, .call { callee := .value (.func 45), args := #[.tmp 17, .tmp 18, .const (.int .u8 91)], argTypes := #[9, 3, 5] }, some (8, false)⟩,
  ⟨some 20, .pick (.tmp 16) (.const (.bool true)) (.tmp 19), none⟩,
  ⟨some 21, .move (.tmp 20), none⟩,
  ⟨some 22, .move (.tmp 0), some (13, false)⟩,
  ⟨some 23, .move (.tmp 1), some (13, false)⟩,
  ⟨some 24, .call { callee := .value (.func 45), args := #[.tmp 22, .tmp 23, .const (.int .u8 40)], argTypes := #[9, 3, 5] }, some (13, false)⟩,
  ⟨some 25, .pick (.tmp 21) (.const (.bool true)) (.tmp 24), none⟩,
  ⟨some 26, .move (.tmp 25), none⟩,
  ⟨some 27, .move (.tmp 0), some (18, false)⟩,
  ⟨some 28, .move (.tmp 1), some (18, false)⟩,
  ⟨some 29, .call { callee := .value (.func 59), args := #[.tmp 27, .tmp 28], argTypes := #[9, 3] }, some (18, false)⟩,
  ⟨some 30, .pick (.tmp 26) (.const (.bool true)) (.tmp 29), none⟩]
def f44_r3 : List LOp := [
  ⟨some 31, .move (.tmp 0), none⟩,
  ⟨some 32, .move (.tmp 1), none⟩,
  ⟨some 33, .call { callee := .value (.func 60), args := #[.tmp 31, .tmp 32], argTypes := #[9, 3] }, none⟩,
  ⟨some 6, .alloc 79, none⟩,
  ⟨none, .store 79 (.tmp 6) (.tmp 33), none⟩]
def f44_r4 : List LOp := [
  ⟨some 34, .fieldAddr 79 (.tmp 6) 2, none⟩,
  ⟨some 35, .load 4 (.tmp 34), none⟩]
def f44_r5 : List LOp := [
  ⟨some 36, .load 79 (.tmp 6), none⟩,
  ⟨none, .store 79 (.tmp 4) (.tmp 36), none⟩]
def f44_r6 : List LOp := [
  ⟨some 37, .fieldAddr 79 (.tmp 6) 1, none⟩,
  ⟨some 38, .load 3 (.tmp 37), none⟩,
  ⟨some 1, .assign (.tmp 38), none⟩]
def f44_r7 : List LOp := [
  ⟨some 39, .move (.tmp 0), none⟩,
  ⟨some 40, .move (.tmp 1), none⟩,
  ⟨some 41, .call { callee := .value (.func 45), args := #[.tmp 39, .tmp 40, .const (.int .u8 42)], argTypes := #[9, 3, 5] }, none⟩]
def f44_r8 : List LOp := [
  ⟨some 42, .fieldAddr 79 (.tmp 6) 0, none⟩,
  ⟨some 43, .load 52 (.tmp 42), none⟩,
  ⟨some 44, .call { callee := .value (.func 61), args := #[.tmp 43], argTypes := #[52] }, none⟩,
  ⟨some 45, .fieldAddr 79 (.tmp 6) 0, none⟩,
  ⟨none, .store 52 (.tmp 45) (.tmp 44), none⟩]
def f44_r9 : List LOp := [
  ⟨some 46, .move (.tmp 1), none⟩,
  ⟨some 47, .binOp .add 3 (.tmp 46) (.const (.int .i64 1)) 3, none⟩,
  ⟨some 1, .assign (.tmp 47), none⟩]
def f44_l10 : LC := (.seq (.seq (.reg f44_r7 [] none) (.cond (.tmp 41) .skip (.exit 2))) (.block 3 (.seq (.reg f44_r8 [] none) (.reg f44_r9 [] none))))
def f44_i10 (t0 t1 t4 t5 t6 : D) : List D := [t0, t1, .any, .any, t4, t5, t6, .any, .any, .any, .any, .any, .any, .any, .any, .any, .any, .any, .any, .any, .any, .any, .any, .any, .any, .any, .any, .any, .any, .any, .any, .any, .any, .any, .any, .any, .any, .any, .any, .any, .any, .any, .any, .any, .any, .any, .any, .any, .any, .any, .any, .any, .any, .any, .any, .any, .any]
def f44_r11 : List LOp := [
  ⟨some 48, .move (.tmp 5), none⟩,
  ⟨some 49, .fieldAddr 79 (.tmp 6) 0, none⟩,
  ⟨some 50, .load 52 (.tmp 49), none⟩,
  ⟨some 51, .buildSlice 50 1 #[(0, .tmp 50)], none⟩,
  ⟨some 52, .call { callee := .builtin .append, args := #[.tmp 48, .tmp 51], argTypes := #[50, 50] }, none⟩,
  ⟨some 5, .assign (.tmp 52), none⟩]
def f44_l12 : LC := (.seq (.seq (.reg f44_r2 [] none) (.cond (.tmp 30) .skip (.exit 0))) (.block 1 (.seq (.reg f44_r3 [] none) (.seq (.seq (.reg f44_r4 [] none) (.cond (.tmp 35) (.seq (.reg f44_r5 [] none) .ret) .skip)) (.seq (.reg f44_r6 [] none) (.seq (.block 2 (.loop f44_l10)) (.reg f44_r11 [] none)))))))
def f44_i12 (t0 t1 t4 t5 : D) : List D := [t0, t1, .any, .any, t4, t5, .any, .any, .any, .any, .any, .any, .any, .any, .any, .any, .any, .any, .any, .any, .any, .any, .any, .any, .any, .any, .any, .any, .any, .any, .any, .any, .any, .any, .any, .any, .any, .any, .any, .any, .any, .any, .any, .any, .any, .any, .any, .any, .any, .any, .any, .any, .any, .any, .any, .any, .any]
def f44_r13 : List LOp := [
  ⟨some 53, .move (.tmp 5), none⟩,
  ⟨some 54, .call { callee := .value (.func 46), args := #[.const (.int .u8 4), .tmp 53], argTypes := #[5, 50] }, none⟩,
  ⟨some 55, .move (.tmp 1), none⟩,
  ⟨some 56, .build 79 #[(0, .tmp 54), (1, .tmp 55)], none⟩,
  ⟨none, .store 79 (.tmp 4) (.tmp 56), none⟩]
def f44_c : LC := (.seq (.reg f44_r0 [] none) (.seq (.reg f44_r1 [0] none) (.seq (.block 0 (.loop f44_l12)) (.seq (.reg f44_r13 [] none) .ret))))
theorem f44_lc : Tryz.f44.body.map lc = some f44_c.st := by kernel_rfl
theorem f44_res : Tryz.f44.results.toList = [.cell 4 79] := by kernel_rfl
theorem f44_nt : Tryz.f44.ntmps = 57 := by kernel_rfl
theorem f44_nm : (Tryz.f44.name == "runtime.NumGoroutine") = false := by kernel_rfl
/-! quill/quillref06.is -/
def f45_r0 : List LOp := [
  ⟨some 6, .assign (.const (.bool false)), none⟩]
def f45_r1 : List LOp := [
  ⟨some 7, .move (.tmp 1), none⟩,
  ⟨some 8, .move (.tmp 0), none⟩,
  ⟨some 9, .call { callee := .builtin .len, args := #[.tmp 8], argTypes := #[9] }, none⟩,
  ⟨some 10, .binOp .lss 3 (.tmp 7) (.tmp 9) 3, none⟩,
  ⟨some 11, .move (.tmp 10), none⟩,
  ⟨some 12, .move (.tmp 0), some (4, true)⟩,
  ⟨some 13, .move (.tmp 1), some (4, true)⟩,
  ⟨some 14, .index 9 (.tmp 12) (.tmp 13), some (4, true)⟩,
  ⟨some 15, .move (.tmp 2), some (4, true)⟩,
  ⟨some 16, .binOp .eql 5 (.tmp 14) (.tmp 15) 5, some (4, true)⟩,
  ⟨some 17, .pick (.tmp 11) (.tmp 16) (.const (.bool false)), none⟩,
  ⟨some 6, .assign (.tmp 17), none⟩]
def f45_c : LC := (.seq (.reg f45_r0 [] none) (.seq (.reg f45_r1 [] none) .ret))
theorem f45_lc : Tryz.f45.body.map lc = some f45_c.st := by kernel_rfl
theorem f45_res : Tryz.f45.results.toList = [.tmp 6] := by kernel_rfl
theorem f45_nt : Tryz.f45.ntmps = 18 := by kernel_rfl
theorem f45_nm : (Tryz.f45.name == "runtime.NumGoroutine") = false := by kernel_rfl
/-! quill/quillref03.Fold -/
def f46_r0 : List LOp := [
  ⟨some 4, .alloc 52, none⟩]
def f46_r1 : List LOp := [
  ⟨some 5, .move (.tmp 1), none⟩,
  ⟨some 6, .call { callee := .builtin .len, args := #[.tmp 5], argTypes := #[50] }, none⟩,
  ⟨some 7, .binOp .eql 3 (.tmp 6) (.const (.int .i64 0)) 3, none⟩]
def f46_r2 : List LOp := [
  ⟨some 8, .move (.tmp 0), none⟩,
  ⟨some 9, .binOp .eql 5 (.tmp 8) (.const (.int .u8 4)) 5, none⟩]
def f46_r3 : List LOp := [
  ⟨some 10, .call { callee := .value (.func 62), args := #[.const (.int .u8 2)], argTypes := #[5] }, none⟩,
  ⟨none, .store 52 (.tmp 4) (.tmp 10), none⟩]
def f46_r4 : List LOp := [
  ⟨some 11, .call { callee := .value (.func 62), args := #[.const (.int .u8 1)], argTypes := #[5] }, none⟩,
  ⟨none, .store 52 (.tmp 4) (.tmp 11), none⟩]
def f46_r5 : List LOp := [
  ⟨some 12, .move (.tmp 1), none⟩,
  ⟨some 13, .call { callee := .builtin .len, args := #[.tmp 12], argTypes := #[50] }, none⟩,
  ⟨some 14, .binOp .eql 3 (.tmp 13) (.const (.int .i64 1)) 3, none⟩]
def f46_r6 : List LOp := [
  ⟨some 15, .move (.tmp 1), none⟩,
  ⟨some 16, .indexAddr 50 (.tmp 15) (.const (.int .i64 0)), none⟩,
  ⟨some 17, .load 52 (.tmp 16), none⟩,
  ⟨none, .store 52 (.tmp 4) (.tmp 17), none⟩]
def f46_r7 : List LOp := [
  ⟨some 18, .move (.tmp 0), none⟩,
  ⟨some 19, .move (.tmp 1), none⟩,
  ⟨some 20, .indexAddr 50 (.tmp 19) (.const (.int .i64 0)), none⟩,
  ⟨some 21, .load 52 (.tmp 20), none⟩,
  ⟨some 22, .move (.tmp 0), none⟩,
  ⟨some 23, .move (.tmp 1), none⟩,
  ⟨some 24, .slice 50 (.tmp 23) (some (.const (.int .i64 1))) none none, none⟩,
  ⟨some 25, .call { callee := .value (.func 46), args := #[.tmp 22, .tmp 24], argTypes := #[5, 50] }, none⟩,
  ⟨some 26, .call { callee := .value (.func 63), args := #[.tmp 18, .tmp 21, .tmp 25], argTypes := #[5, 52, 52] }, none⟩,
  ⟨none, .store 52 (.tmp 4) (.tmp 26), none⟩]
def f46_c : LC := (.seq (.reg f46_r0 [] none) (.seq (.seq (.reg f46_r1 [] none) (.cond (.tmp 7) (.seq (.seq (.reg f46_r2 [] none) (.cond (.tmp 9) (.seq (.reg f46_r3 [] none) .ret) .skip)) (.seq (.reg f46_r4 [] none) .ret)) .skip)) (.seq (.seq (.reg f46_r5 [] none) (.cond (.tmp 14) (.seq (.reg f46_r6 [] none) .ret) .skip)) (.seq (.reg f46_r7 [] (some 8)) .ret))))
theorem f46_lc : Tryz.f46.body.map lc = some f46_c.st := by kernel_rfl
theorem f46_res : Tryz.f46.results.toList = [.cell 4 52] := by kernel_rfl
theorem f46_nt : Tryz.f46.ntmps = 27 := by kernel_rfl
theorem f46_nm : (Tryz.f46.name == "runtime.NumGoroutine") = false := by kernel_rfl
/-! slices.ContainsFunc[[]quill/api.Re,quill/api.Re] -/
def f47_r0 : List LOp := [
  ⟨some 4, .assign (.const (.bool false)), none⟩]
def f47_r1 : List LOp := [
  ⟨some 5, .move (.tmp 0), none⟩,
  ⟨some 6, .move (.tmp 1), none⟩,
  ⟨some 7, .call { callee := .value (.func 64), args := #[.tmp 5, .tmp 6], argTypes := #[50, 81] }, none⟩,
  ⟨some 8, .binOp .geq 3 (.tmp 7) (.const (.int .i64 0)) 3, none⟩,
  ⟨some 4, .assign (.tmp 8), none⟩]
def f47_c : LC := (.seq (.reg f47_r0 [] none) (.seq (.reg f47_r1 [] none) .ret))
theorem f47_lc : Tryz.f47.body.map lc = some f47_c.st := by kernel_rfl
theorem f47_res : Tryz.f47.results.toList = [.tmp 4] := by kernel_rfl
theorem f47_nt : Tryz.f47.ntmps = 9 := by kernel_rfl
theorem f47_nm : (Tryz.f47.name == "runtime.NumGoroutine") = false := by kernel_rfl
/-! quill/rex.May$1 -/
def f48_r0 : List LOp := [
  ⟨some 1, .box 52 (.tmp 0), none⟩,
  ⟨some 2, .assign (.const (.bool false)), none⟩]
def f48_r1 : List LOp := [
  ⟨some 3, .load 52 (.tmp 1), none⟩,
  ⟨some 4, .call { callee := .value (.func 49), args := #[.tmp 3], argTypes := #[52] }, none⟩,
  ⟨some 5, .unOp .not 4 (.tmp 4), none⟩,
  ⟨some 6, .move (.tmp 5), none⟩,
  ⟨some 7, .load 52 (.tmp 1), some (3, false)⟩,
  ⟨some 8, .buildSlice 50 1 #[(0, .tmp 7)], some (3, false)⟩,
  ⟨some 9, .call { callee := .value (.func 30), args := #[.tmp 8], argTypes := #[50] }, some (3, false)⟩,
  ⟨some 10, .binOp .gtr 3 (.tmp 9) (.const (.int .i64 2000)) 3, some (3, false)⟩,
  ⟨some 11, .pick (.tmp 6) (.const (.bool true)) (.tmp 10), none⟩,
  ⟨some 2, .assign (.tmp 11), none⟩]
def f48_c : LC := (.seq (.reg f48_r0 [] none) (.seq (.reg f48_r1 [] none) .ret))
theorem f48_lc : Tryz.f48.body.map lc = some f48_c.st := by kernel_rfl
theorem f48_res : Tryz.f48.results.toList = [.tmp 2] := by kernel_rfl
theorem f48_nt : Tryz.f48.ntmps = 12 := by kernel_rfl
theorem f48_nm : (Tryz.f48.name == "runtime.NumGoroutine") = false := by kernel_rfl
/-! quill/rex.nodes -/
def f49_r0 : List LOp := [
  ⟨some 1, .box 52 (.tmp 0), none⟩,
  ⟨some 2, .assign (.const (.bool false)), none⟩]
def f49_r1 : List LOp := [
  ⟨some 3, .load 52 (.tmp 1), none⟩,
  ⟨some 4, .call { callee := .value (.func 65), args := #[.tmp 3], argTypes := #[52] }, none⟩,
  ⟨some 5, .move (.tmp 4), none⟩,
  ⟨some 6, .fieldAddr 52 (.tmp 1) 2, some (2, true)⟩,
  ⟨some 7, .load 50 (.tmp 6), some (2, true)⟩,
  ⟨some 8, .call { callee := .value (.func 47), args := #[.tmp 7, .func 66], argTypes := #[50, 81] }, some (2, true)⟩,
  ⟨some 9, .unOp .not 4 (.tmp 8), some (2, true)⟩,
  ⟨some 10, .pick (.tmp 5) (.tmp 9) (.const (.bool false)), none⟩,
  ⟨some 2, .assign (.tmp 10), none⟩]
def f49_c : LC := (.seq (.reg f49_r0 [] none) (.seq (.reg f49_r1 [] none) .ret))
theorem f49_lc : Tryz.f49.body.map lc = some f49_c.st := by kernel_rfl
theorem f49_res : Tryz.f49.results.toList = [.tmp 2] := by kernel_rfl
theorem f49_nt : Tryz.f49.ntmps = 11 := by kernel_rfl
theorem f49_nm : (Tryz.f49.name == "runtime.NumGoroutine") = false := by kernel_rfl
/-! slices.Contains[[]uint8,uint8] -/
def f51_r0 : List LOp := [
  ⟨some 4, .assign (.const (.bool false)), none⟩]
def f51_r1 : List LOp := [
  ⟨some 5, .move (.tmp 0), none⟩,
  ⟨some 6, .move (.tmp 1), none⟩,
  ⟨some 7, .call { callee := .value (.func 67), args := #[.tmp 5, .tmp 6], argTypes := #[61, 5] }, none⟩,
  ⟨some 8, .binOp .geq 3 (.tmp 7) (.const (.int .i64 0)) 3, none⟩,
  ⟨some 4, .assign (.tmp 8), none⟩]
def f51_c : LC := (.seq (.reg f51_r0 [] none) (.seq (.reg f51_r1 [] none) .ret))
theorem f51_lc : Tryz.f51.body.map lc = some f51_c.st := by kernel_rfl
theorem f51_res : Tryz.f51.results.toList = [.tmp 4] := by kernel_rfl
theorem f51_nt : Tryz.f51.ntmps = 9 := by kernel_rfl
theorem f51_nm : (Tryz.f51.name == "runtime.NumGoroutine") = false := by kernel_rfl
/-! (*strings.Builder).WriteByte -/
def f52_r0 : List LOp := [
  ⟨some 4, .assign (.const .nilIface), none⟩]
def f52_r1 : List LOp := [
  ⟨some 5, .move (.tmp 0), none⟩,
  ⟨some 6, .call { callee := .value (.func 35), args := #[.tmp 5], argTypes := #[60] }, none⟩]
def f52_r2 : List LOp := [
  ⟨some 7, .move (.tmp 0), none⟩,
  ⟨some 8, .move (.tmp 0), none⟩,
  ⟨some 9, .nilCheck (.tmp 8), none⟩,
  ⟨some 10, .fieldAddr 63 (.tmp 9) 1, none⟩,
  ⟨some 11, .load 61 (.tmp 10), none⟩,
  ⟨some 12, .move (.tmp 1), none⟩,
  ⟨some 13, .buildSlice 61 1 #[(0, .tmp 12)], none⟩,
  ⟨some 14, .call { callee := .builtin .append, args := #[.tmp 11, .tmp 13], argTypes := #[61, 61] }, none⟩,
  ⟨some 15, .nilCheck (.tmp 7), none⟩,
  ⟨some 16, .fieldAddr 63 (.tmp 15) 1, none⟩,
  ⟨none, .store 61 (.tmp 16) (.tmp 14), none⟩]
def f52_r3 : List LOp := [
  ⟨some 4, .assign (.const .nilIface), none⟩]
def f52_c : LC := (.seq (.reg f52_r0 [] none) (.seq (.reg f52_r1 [] none) (.seq (.reg f52_r2 [] none) (.seq (.reg f52_r3 [] none) .ret))))
theorem f52_lc : Tryz.f52.body.map lc = some f52_c.st := by kernel_rfl
theorem f52_res : Tryz.f52.results.toList = [.tmp 4] := by kernel_rfl
theorem f52_nt : Tryz.f52.ntmps = 17 := by kernel_rfl
theorem f52_nm : (Tryz.f52.name == "runtime.NumGoroutine") = false := by kernel_rfl
/-! quill/set.Text -/
def f53_r0 : List LOp := [
  ⟨some 1, .box 49 (.tmp 0), none⟩,
  ⟨some 2, .assign (.const (.string { data := #[] })), none⟩]
def f53_r1 : List LOp := [
  ⟨some 7, .load 49 (.tmp 1), none⟩,
  ⟨some 8, .call { callee := .value (.func 68), args := #[.tmp 7], argTypes := #[49] }, none⟩,
  ⟨some 3, .assign (.tmp 8), none⟩]
def f53_r2 : List LOp := [
  ⟨some 10, .load 49 (.tmp 1), none⟩,
  ⟨some 11, .call { callee := .value (.func 69), args := #[], argTypes := #[] }, none⟩,
  ⟨some 12, .binOp .eql 49 (.tmp 10) (.tmp 11) 49, none⟩,
  ⟨some 9, .assign (.tmp 12), none⟩]
def f53_r3 : List LOp := [
  ⟨some 2, .assign (.const (.string { data := #[46] })), none⟩]
def f53_r4 : List LOp := [
  ⟨some 14, .move (.tmp 3), none⟩,
  ⟨some 15, .call { callee := .builtin .len, args := #[.tmp 14], argTypes := #[61] }, none⟩,
  ⟨some 16, .binOp .eql 3 (.tmp 15) (.const (.int .i64 1)) 3, none⟩,
  ⟨some 13, .assign (.tmp 16), none⟩]
def f53_r5 : List LOp := [
  ⟨some 17, .move (.tmp 3), none⟩,
  ⟨some 18, .indexAddr 61 (.tmp 17) (.const (.int .i64 0)), none⟩,
  ⟨some 19, .load 5 (.tmp 18), none⟩,
  ⟨some 20, .call { callee := .value (.func 70), args := #[.tmp 19], argTypes := #[5] }, none⟩,
  ⟨some 2, .assign (.tmp 20), none⟩]
def f53_r6 : List LOp := [
  ⟨some 4, .alloc 63, none⟩]
def f53_r7 : List LOp := [
  ⟨some 21, .call { callee := .value (.func 52), args := #[.tmp 4, .const (.int .u8 91)], argTypes := #[63, 5] }, none⟩]
def f53_r8 : List LOp := [
  ⟨some 5, .assign (.const (.int .i64 0)), none⟩]
def f53_r9 : List LOp := [
  ⟨some 22, .move (.tmp 5), none⟩,
  ⟨some 23, .move (.tmp 3), none⟩,
  ⟨some 24, .call { callee := .builtin .len, args := #[.tmp 23], argTypes := #[61] }, none⟩,
  ⟨some 25, .binOp .lss 3 (.tmp 22) (.tmp 24) 3, none⟩]
def f53_r10 : List LOp := [
  ⟨some 26, .move (.tmp 5), none⟩,
  ⟨some 6, .assign (.tmp 26), none⟩]
def f53_r11 : List LOp := [
  ⟨some 27, .move (.tmp 6), none⟩,
  ⟨some 28, .binOp .add 3 (.tmp 27) (.const (.int .i64 1)) 3, none⟩,
  ⟨some 29, .move (.tmp 3), none⟩,
  ⟨some 30, .call { callee := .builtin .len, args := #[.tmp 29], argTypes := #[61] }, none⟩,
  ⟨some 31, .binOp .lss 3 (.tmp 28) (.tmp 30) 3, none⟩,
  ⟨some 32, .move (.tmp 31), none⟩,
  ⟨some 33, .move (.tmp 3), some (5, true)⟩,
  ⟨some 34, .move (.tmp 6), some (5, true)⟩,
  ⟨some 35, .binOp .add 3 (.tmp 34) (.const (.int .i64 1)) 3, some (5, true)⟩,
  ⟨some 36, .indexAddr 61 (.tmp 33) (.tmp 35), some (5, true)⟩,
  ⟨some 37, .load 5 (.tmp 36), some (5, true)⟩,
  ⟨some 38, .move (.tmp 3), some (5, true)⟩,
  ⟨some 39, .move (.tmp 6), some (5, true)⟩,
  ⟨some 40, .indexAddr 61 (.tmp 38) (.tmp 39), some (5, true)⟩,
  ⟨some 41, .load 5 (.tmp 40), some (5, true)⟩,
  ⟨some 42, .binOp .add 5 (.tmp 41) (.const (.int .u8 1)) 5, some (5, true)⟩,
  ⟨some 43, .binOp .eql 5 (.tmp 37) (.tmp 42) 5, some (5, true)⟩,
  ⟨some 44, .pick (.tmp 32) (.tmp 43) (.const (.bool false)), none⟩]
def f53_r12 : List LOp := [
  ⟨some 45, .move (.tmp 6), none⟩,
  ⟨some 46, .binOp .add 3 (.tmp 45) (.const (.int .i64 1)) 3, none⟩,
  ⟨some 6, .assign (.tmp 46), none⟩]
def f53_l13 : LC := (.seq (.seq (.reg f53_r11 [] (some 16)) (.cond (.tmp 44) .skip (.exit 3))) (.block 4 (.reg f53_r12 [] none)))
def f53_i13 (t3 t4 t5 t6 : D) : List D := [.any, .any, .any, t3, t4, t5, t6, .any, .any, .any, .any, .any, .any, .any, .any, .any, .any, .any, .any, .any, .any, .any, .any, .any, .any, .any, .any, .any, .any, .any, .any, .any, .any, .any, .any, .any, .any, .any, .any, .any, .any, .any, .any, .any, .any, .any, .any, .any, .any, .any, .any, .any, .any, .any, .any, .any, .any, .any, .any, .any, .any, .any, .any, .any, .any, .any, .any, .any, .any, .any, .any]
def f53_r14 : List LOp := [
  ⟨some 47, .move (.tmp 3), none⟩,
  ⟨some 48, .move (.tmp 5), none⟩,
  ⟨some 49, .indexAddr 61 (.tmp 47) (.tmp 48), none⟩,
  ⟨some 50, .load 5 (.tmp 49), none⟩,
  ⟨some 51, .call { callee := .value (.func 70), args := #[.tmp 50], argTypes := #[5] }, none⟩,
  ⟨some 52, .call { callee := .value (.func 20), args := #[.tmp 4, .tmp 51], argTypes := #[63, 9] }, none⟩]
def f53_r15 : List LOp := [
  ⟨some 53, .move (.tmp 6), none⟩,
  ⟨some 54, .move (.tmp 5), none⟩,
  ⟨some 55, .binOp .add 3 (.tmp 54) (.const (.int .i64 1)) 3, none⟩,
  ⟨some 56, .binOp .gtr 3 (.tmp 53) (.tmp 55) 3, none⟩]
def f53_r16 : List LOp := [
  ⟨some 57, .call { callee := .value (.func 52), args := #[.tmp 4, .const (.int .u8 45)], argTypes := #[63, 5] }, none⟩]
def f53_r17 : List LOp := [
  ⟨some 58, .move (.tmp 6), none⟩,
  ⟨some 59, .move (.tmp 5), none⟩,
  ⟨some 60, .binOp .gtr 3 (.tmp 58) (.tmp 59) 3, none⟩]
def f53_r18 : List LOp := [
  ⟨some 61, .move (.tmp 3), none⟩,
  ⟨some 62, .move (.tmp 6), none⟩,
  ⟨some 63, .indexAddr 61 (.tmp 61) (.tmp 62), none⟩,
  ⟨some 64, .load 5 (.tmp 63), none⟩,
  ⟨some 65, .call { callee := .value (.func 70), args := #[.tmp 64], argTypes := #[5] }, none⟩,
  ⟨some 66, .call { callee := .value (.func 20), args := #[.tmp 4, .tmp 65], argTypes := #[63, 9] }, none⟩]
def f53_r19 : List LOp := [
  ⟨some 67, .move (.tmp 6), none⟩,
  ⟨some 68, .binOp .add 3 (.tmp 67) (.const (.int .i64 1)) 3, none⟩,
  ⟨some 5, .assign (.tmp 68), none⟩]
def f53_l20 : LC := (.seq (.seq (.reg f53_r9 [] none) (.cond (.tmp 25) .skip (.exit 1))) (.block 2 (.seq (.reg f53_r10 [] none) (.seq (.block 3 (.loop f53_l13)) (.seq (.reg f53_r14 [] none) (.seq (.seq (.reg f53_r15 [] none) (.cond (.tmp 56) (.reg f53_r16 [] none) .skip)) (.seq (.seq (.reg f53_r17 [] none) (.cond (.tmp 60) (.reg f53_r18 [] none) .skip)) (.reg f53_r19 [] none))))))))
def f53_i20 (t3 t4 t5 : D) : List D := [.any, .any, .any, t3, t4, t5, .any, .any, .any, .any, .any, .any, .any, .any, .any, .any, .any, .any, .any, .any, .any, .any, .any, .any, .any, .any, .any, .any, .any, .any, .any, .any, .any, .any, .any, .any, .any, .any, .any, .any, .any, .any, .any, .any, .any, .any, .any, .any, .any, .any, .any, .any, .any, .any, .any, .any, .any, .any, .any, .any, .any, .any, .any, .any, .any, .any, .any, .any, .any, .any, .any]
def f53_r21 : List LOp := [
  ⟨some 69, .call { callee := .value (.func 52), args := #[.tmp 4, .const (.int .u8 93)], argTypes := #[63, 5] }, none⟩]
def f53_r22 : List LOp := [
  ⟨some 70, .call { callee := .value (.func 23), args := #[.tmp 4], argTypes := #[63] }, none⟩,
  ⟨some 2, .assign (.tmp 70), none⟩]
def f53_c : LC := (.seq (.reg f53_r0 [] none) (.seq (.reg f53_r1 [] none) (.seq (.block 0 (.seq (.reg f53_r2 [] (some 2)) (.cond (.tmp 9) (.seq (.reg f53_r3 [] none) .ret) (.seq (.reg f53_r4 [] none) (.cond (.tmp 13) (.seq (.reg f53_r5 [] none) .ret) .skip))))) (.seq (.reg f53_r6 [] none) (.seq (.reg f53_r7 [] none) (.seq (.seq (.reg f53_r8 [] none) (.block 1 (.loop f53_l20))) (.seq (.reg f53_r21 [] none) (.seq (.reg f53_r22 [] none) .ret))))))))
theorem f53_lc : Tryz.f53.body.map lc = some f53_c.st := by kernel_rfl
theorem f53_res : Tryz.f53.results.toList = [.tmp 2] := by kernel_rfl
theorem f53_nt : Tryz.f53.ntmps = 71 := by kernel_rfl
theorem f53_nm : (Tryz.f53.name == "runtime.NumGoroutine") = false := by kernel_rfl
attribute [go_sem] f3_r0 f3_r1 f3_r2 f3_r3 f3_r4 f3_r5 f3_r6 f3_r7 f3_r8 f3_r9 f3_r10 f3_r11 f3_c f4_r0 f4_r1 f4_r2 f4_r3 f4_c f5_r0 f5_r1 f5_r2 f5_r3 f5_r4 f5_r5 f5_r6 f5_r7 f5_r8 f5_r9 f5_r10 f5_r11 f5_r12 f5_r13 f5_a14 f5_b14 f5_r15 f5_r16 f5_r17 f5_r18 f5_r19 f5_c f6_r0 f6_r1 f6_r2 f6_r3 f6_r4 f6_r5 f6_r6 f6_r7 f6_r8 f6_r9 f6_r10 f6_r11 f6_r12 f6_r13 f6_r14 f6_r15 f6_r16 f6_r17 f6_r18 f6_r19 f6_r20 f6_r21 f6_l22 f6_i22 f6_r23 f6_r24 f6_r25 f6_r26 f6_r27 f6_c f7_r0 f7_r1 f7_r2 f7_r3 f7_r4 f7_r5 f7_r6 f7_r7 f7_r8 f7_l9 f7_i9 f7_r10 f7_c f8_r0 f8_r1 f8_r2 f8_r3 f8_r4 f8_r5 f8_r6 f8_r7 f8_r8 f8_l9 f8_i9 f8_r10 f8_r11 f8_r12 f8_c f9_r0 f9_r1 f9_c f10_r0 f10_r1 f10_c f11_r0 f11_r1 f11_r2 f11_r3 f11_r4 f11_r5 f11_r6 f11_r7 f11_r8 f11_r9 f11_r10 f11_r11 f11_c f12_r0 f12_r1 f12_r2 f12_r3 f12_r4 f12_r5 f12_r6 f12_l7 f12_i7 f12_r8 f12_c f13_r0 f13_r1 f13_r2 f13_r3 f13_r4 f13_r5 f13_l6 f13_i6 f13_r7 f13_c f14_r0 f14_r1 f14_r2 f14_r3 f14_r4 f14_r5 f14_r6 f14_r7 f14_r8 f14_l9 f14_i9 f14_r10 f14_c f15_r0 f15_r1 f15_r2 f15_r3 f15_r4 f15_r5 f15_r6 f15_l7 f15_i7 f15_r8 f15_c f16_r0 f16_r1 f16_r2 f16_r3 f16_r4 f16_r5 f16_r6 f16_r7 f16_r8 f16_r9 f16_r10 f16_r11 f16_c f17_r0 f17_r1 f17_r2 f17_r3 f17_r4 f17_r5 f17_r6 f17_l7 f17_i7 f17_r8 f17_c f18_r0 f18_r1 f18_r2 f18_r3 f18_r4 f18_r5 f18_r6 f18_r7 f18_r8 f18_l9 f18_i9 f18_r10 f18_c f19_r0 f19_r1 f19_r2 f19_r3 f19_r4 f19_r5 f19_r6 f19_r7 f19_r8 f19_l9 f19_i9 f19_r10 f19_c f20_r0 f20_r1 f20_r2 f20_r3 f20_c f21_r0 f21_r1 f21_r2 f21_r3 f21_r4 f21_r5 f21_c f22_r0 f22_r1 f22_c f24_r0 f24_r1 f24_r2 f24_r3 f24_r4 f24_r5 f24_r6 f24_l7 f24_i7 f24_c f25_r0 f25_r1 f25_c f26_r0 f26_r1 f26_r2 f26_r3 f26_c f27_r0 f27_r1 f27_c f28_r0 f28_r1 f28_c f29_r0 f29_r1 f29_r2 f29_r3 f29_r4 f29_r5 f29_r6 f29_c f30_r0 f30_r1 f30_r2 f30_r3 f30_r4 f30_r5 f30_r6 f30_l7 f30_i7 f30_r8 f30_c f31_r0 f31_r1 f31_r2 f31_r3 f31_r4 f31_r5 f31_r6 f31_r7 f31_r8 f31_r9 f31_l10 f31_i10 f31_c f32_r0 f32_r1 f32_r2 f32_r3 f32_r4 f32_r5 f32_r6 f32_r7 f32_r8 f32_r9 f32_r10 f32_l11 f32_i11 f32_r12 f32_c f33_r0 f33_r1 f33_r2 f33_r3 f33_r4 f33_r5 f33_r6 f33_l7 f33_i7 f33_r8 f33_c f34_r0 f34_r1 f34_c f36_r0 f36_r1 f36_r2 f36_r3 f36_r4 f36_r5 f36_r6 f36_r7 f36_r8 f36_r9 f36_r10 f36_r11 f36_r12 f36_r13 f36_r14 f36_r15 f36_r16 f36_r17 f36_r18 f36_r19 f36_r20 f36_r21 f36_r22 f36_c f38_r0 f38_r1 f38_c f39_r0 f39_r1 f39_r2 f39_r3 f39_r4 f39_c f40_r0 f40_r1 f40_c f41_r0 f41_r1 f41_c f42_r0 f42_r1 f42_r2 f42_r3 f42_r4 f42_r5 f42_r6 f42_l7 f42_i7 f42_r8 f42_c f43_r0 f43_r1 f43_r2 f43_r3 f43_r4 f43_r5 f43_c f44_r0 f44_r1 f44_r2 f44_r3 f44_r4 f44_r5 f44_r6 f44_r7 f44_r8 f44_r9 f44_l10 f44_i10 f44_r11 f44_l12 f44_i12 f44_r13 f44_c f45_r0 f45_r1 f45_c f46_r0 f46_r1 f46_r2 f46_r3 f46_r4 f46_r5 f46_r6 f46_r7 f46_c f47_r0 f47_r1 f47_c f48_r0 f48_r1 f48_c f49_r0 f49_r1 f49_c f51_r0 f51_r1 f51_c f52_r0 f52_r1 f52_r2 f52_r3 f52_c f53_r0 f53_r1 f53_r2 f53_r3 f53_r4 f53_r5 f53_r6 f53_r7 f53_r8 f53_r9 f53_r10 f53_r11 f53_r12 f53_l13 f53_i13 f53_r14 f53_r15 f53_r16 f53_r17 f53_r18 f53_r19 f53_l20 f53_i20 f53_r21 f53_r22 f53_c T3 T4 T5 T9 T20 T21 T23 T24 T32 T33 T34 T36 T47 T49 T50 T52 T56 T60 T61 T63 T79 T81 T84 T86 T88 T90 T92 T94 T98 T100 T108 T130 T139 T154 ti3 ti4 ti5 ti9 ti20 ti21 ti23 ti24 ti32 ti33 ti34 ti36 ti47 ti49 ti50 ti52 ti56 ti60 ti61 ti63 ti79 ti81 ti84 ti86 ti88 ti90 ti92 ti94 ti98 ti100 ti108 ti130 ti139 ti154
end Go.Proofs.YtdliolbjngcgcaaGreatDoor.W
