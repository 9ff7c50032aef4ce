/- Part of a program logic over data: rules of the walk, each proved. -/
import Derived.Test.YtdliolbjngcgcaaGreatChecked
import Derived.Test.YtdliolbjngcgcaaGreatLogicC
import Derived.KernelRfl
set_option linter.unusedVariables false
set_option linter.unusedSimpArgs false
set_option linter.unusedSectionVars false
set_option maxRecDepth 100000
namespace Go.Proofs.YtdliolbjngcgcaaGreat.W
open Go Go.Proofs Go.Proofs.YtdliolbjngcgcaaGreat.AWP
def ti3 : TI := ⟨.int .i64, 1, 8, [.int .i64 0]⟩
def ti4 : TI := ⟨.bool, 1, 1, [.bool false]⟩
def ti5 : TI := ⟨.int .u8, 1, 1, [.int .u8 0]⟩
def ti9 : TI := ⟨.str, 1, 16, [.string .empty]⟩
def ti20 : TI := ⟨.other, 1, 16, [.nilIface]⟩
def ti21 : TI := ⟨.int .i32, 1, 4, [.int .i32 0]⟩
def ti22 : TI := ⟨.slice 9, 1, 24, [.slice none 0 0]⟩
def ti24 : TI := ⟨.slice 66, 1, 24, [.slice none 0 0]⟩
def ti26 : TI := ⟨.struct [(0, 22), (1, 24)], 2, 48, [.slice none 0 0, .slice none 0 0]⟩
def ti27 : TI := ⟨.int .i64, 1, 8, [.int .i64 0]⟩
def ti34 : TI := ⟨.other, 1, 8, [.nilFunc]⟩
def ti37 : TI := ⟨.slice 26, 1, 24, [.slice none 0 0]⟩
def ti38 : TI := ⟨.slice 40, 1, 24, [.slice none 0 0]⟩
def ti40 : TI := ⟨.struct [(0, 5), (1, 3), (2, 38)], 3, 40, [.int .u8 0, .int .i64 0, .slice none 0 0]⟩
def ti41 : TI := ⟨.other, 1, 8, [.nilFunc]⟩
def ti55 : TI := ⟨.slice 60, 1, 24, [.slice none 0 0]⟩
def ti60 : TI := ⟨.struct [(0, 3), (1, 9), (2, 9)], 3, 40, [.int .i64 0, .string .empty, .string .empty]⟩
def ti61 : TI := ⟨.other, 1, 8, [.pointer none]⟩
def ti63 : TI := ⟨.struct [(0, 9), (1, 3), (2, 22), (3, 22)], 4, 72, [.string .empty, .int .i64 0, .slice none 0 0, .slice none 0 0]⟩
def ti66 : TI := ⟨.struct [(0, 9), (1, 40)], 4, 56, [.string .empty, .int .u8 0, .int .i64 0, .slice none 0 0]⟩
def ti67 : TI := ⟨.slice 3, 1, 24, [.slice none 0 0]⟩
def ti72 : TI := ⟨.struct [(0, 40), (3, 3), (4, 3)], 5, 56, [.int .u8 0, .int .i64 0, .slice none 0 0, .int .i64 0, .int .i64 0]⟩
def ti78 : TI := ⟨.other, 1, 8, [.pointer none]⟩
def ti79 : TI := ⟨.other, 1, 8, [.pointer none]⟩
def ti80 : TI := ⟨.slice 5, 1, 24, [.slice none 0 0]⟩
def ti82 : TI := ⟨.struct [(0, 79), (1, 80)], 2, 32, [.pointer none, .slice none 0 0]⟩
def ti84 : TI := ⟨.struct [(0, 82), (2, 26)], 4, 80, [.pointer none, .slice none 0 0, .slice none 0 0, .slice none 0 0]⟩
def ti100 : TI := ⟨.other, 1, 8, [.nilFunc]⟩
def ti109 : TI := ⟨.struct [(0, 3), (1, 27)], 2, 16, [.int .i64 0, .int .i64 0]⟩
def ti113 : TI := ⟨.other, 1, 8, [.nilFunc]⟩
def ti116 : TI := ⟨.other, 1, 8, [.pointer none]⟩
def ti125 : TI := ⟨.slice 22, 1, 24, [.slice none 0 0]⟩
def ti128 : TI := ⟨.other, 1, 8, [.pointer none]⟩
def ti134 : TI := ⟨.int .u64, 1, 8, [.int .u64 0]⟩
def ti143 : TI := ⟨.int .i64, 1, 8, [.int .i64 0]⟩
def ti151 : TI := ⟨.int .u32, 1, 4, [.int .u32 0]⟩
def ti153 : TI := ⟨.int .u64, 1, 8, [.int .u64 0]⟩
def ti157 : TI := ⟨.int .u64, 1, 8, [.int .u64 0]⟩
def ti161 : TI := ⟨.other, 1, 8, [.pointer none]⟩
def tab : List (Nat × TI) := [(3, ti3), (4, ti4), (5, ti5), (9, ti9), (20, ti20), (21, ti21), (22, ti22), (24, ti24), (26, ti26), (27, ti27), (34, ti34), (37, ti37), (38, ti38), (40, ti40), (41, ti41), (55, ti55), (60, ti60), (61, ti61), (63, ti63), (66, ti66), (67, ti67), (72, ti72), (78, ti78), (79, ti79), (80, ti80), (82, ti82), (84, ti84), (100, ti100), (109, ti109), (113, ti113), (116, ti116), (125, ti125), (128, ti128), (134, ti134), (143, ti143), (151, ti151), (153, ti153), (157, ti157), (161, ti161)]
def T : Tab := fun t => (tab.find? fun p => p.1 == t).map (·.2)
theorem T3 : T 3 = some ti3 := rfl
theorem T4 : T 4 = some ti4 := rfl
theorem T5 : T 5 = some ti5 := rfl
theorem T9 : T 9 = some ti9 := rfl
theorem T20 : T 20 = some ti20 := rfl
theorem T21 : T 21 = some ti21 := rfl
theorem T22 : T 22 = some ti22 := rfl
theorem T24 : T 24 = some ti24 := rfl
theorem T26 : T 26 = some ti26 := rfl
theorem T27 : T 27 = some ti27 := rfl
theorem T34 : T 34 = some ti34 := rfl
theorem T37 : T 37 = some ti37 := rfl
theorem T38 : T 38 = some ti38 := rfl
theorem T40 : T 40 = some ti40 := rfl
theorem T41 : T 41 = some ti41 := rfl
theorem T55 : T 55 = some ti55 := rfl
theorem T60 : T 60 = some ti60 := rfl
theorem T61 : T 61 = some ti61 := rfl
theorem T63 : T 63 = some ti63 := rfl
theorem T66 : T 66 = some ti66 := rfl
theorem T67 : T 67 = some ti67 := rfl
theorem T72 : T 72 = some ti72 := rfl
theorem T78 : T 78 = some ti78 := rfl
theorem T79 : T 79 = some ti79 := rfl
theorem T80 : T 80 = some ti80 := rfl
theorem T82 : T 82 = some ti82 := rfl
theorem T84 : T 84 = some ti84 := rfl
theorem T100 : T 100 = some ti100 := rfl
theorem T109 : T 109 = some ti109 := rfl
theorem T113 : T 113 = some ti113 := rfl
theorem T116 : T 116 = some ti116 := rfl
theorem T125 : T 125 = some ti125 := rfl
theorem T128 : T 128 = some ti128 := rfl
theorem T134 : T 134 = some ti134 := rfl
theorem T143 : T 143 = some ti143 := rfl
theorem T151 : T 151 = some ti151 := rfl
theorem T153 : T 153 = some ti153 := rfl
theorem T157 : T 157 = some ti157 := rfl
theorem T161 : T 161 = some ti161 := rfl
theorem tab_ok : tabB Tryz.prog tab = true := by kernel_rfl
theorem hT : TabOk Tryz.prog T := by
 intro t i h
 unfold T at h
 simp only [Option.map_eq_some_iff] at h
 obtain ⟨p, hp, rfl⟩ := h
 have h1 := List.find?_some hp
 have h2 := List.mem_of_find?_eq_some hp
 simp only [beq_iff_eq] at h1
 obtain ⟨t', i'⟩ := p
 subst h1
 exact tabB_ok tab_ok t' i' h2
theorem hm : Tryz.prog.follows .mixedOrders = true := by kernel_rfl
def f4_r0 : List LOp := [
 ⟨some 1, .box 26 (.tmp 0), none⟩,
 ⟨some 2, .assign (.const (.bool false)), none⟩]
def f4_r1 : List LOp := [
 ⟨some 8, .load 26 (.tmp 1), none⟩,
 ⟨some 9, .call { callee := .value (.func 11), args := #[.tmp 8], argTypes := #[26] }, none⟩,
 ⟨some 10, .move (.tmp 9), none⟩,
 ⟨some 11, .load 26 (.tmp 1), some (2, false)⟩,
 ⟨some 12, .call { callee := .value (.func 12), args := #[.tmp 11], argTypes := #[26] }, some (2, false)⟩,
 ⟨some 13, .unOp .not 4 (.tmp 12), some (2, false)⟩,
 ⟨some 14, .pick (.tmp 10) (.const (.bool true)) (.tmp 13), none⟩]
def f4_r2 : List LOp := [
 ⟨some 15, .call { callee := .value (.func 7), args := #[], argTypes := #[] }, none⟩,
 ⟨some 2, .assign (.tmp 15), none⟩]
def f4_r3 : List LOp := [
 ⟨some 17, .load 26 (.tmp 1), none⟩,
 ⟨some 18, .call { callee := .value (.func 13), args := #[.tmp 17], argTypes := #[26] }, none⟩,
 ⟨some 16, .move (.tmp 18), none⟩,
 ⟨some 19, .extract (.tmp 16) 0, none⟩,
 ⟨some 20, .extract (.tmp 16) 1, none⟩,
 ⟨some 3, .assign (.tmp 19), none⟩,
 ⟨some 4, .assign (.tmp 20), none⟩]
def f4_r4 : List LOp := [
 ⟨some 22, .move (.tmp 3), none⟩,
 ⟨some 23, .fieldAddr 26 (.tmp 1) 0, none⟩,
 ⟨some 24, .load 22 (.tmp 23), none⟩,
 ⟨some 25, .call { callee := .value (.func 8), args := #[.tmp 22, .tmp 24], argTypes := #[9, 22] }, none⟩,
 ⟨some 21, .move (.tmp 25), none⟩,
 ⟨some 26, .extract (.tmp 21) 0, none⟩,
 ⟨some 27, .extract (.tmp 21) 1, none⟩,
 ⟨some 28, .extract (.tmp 21) 2, none⟩,
 ⟨some 5, .alloc 26, none⟩,
 ⟨none, .store 26 (.tmp 5) (.tmp 26), none⟩,
 ⟨some 6, .assign (.tmp 27), none⟩,
 ⟨some 7, .assign (.tmp 28), none⟩]
def f4_r5 : List LOp := [
 ⟨some 29, .move (.tmp 4), none⟩,
 ⟨some 30, .binOp .eql 27 (.tmp 29) (.const (.int .i64 0)) 27, none⟩,
 ⟨some 31, .move (.tmp 30), none⟩,
 ⟨some 32, .move (.tmp 7), some (2, true)⟩,
 ⟨some 33, .binOp .eql 27 (.tmp 32) (.const (.int .i64 0)) 27, some (2, true)⟩,
 ⟨some 34, .pick (.tmp 31) (.tmp 33) (.const (.bool false)), none⟩,
 ⟨some 35, .move (.tmp 34), none⟩,
 ⟨some 36, .move (.tmp 6), some (6, true)⟩,
 ⟨some 37, .binOp .eql 3 (.tmp 36) (.const (.int .i64 0)) 3, some (6, true)⟩,
 ⟨some 38, .pick (.tmp 35) (.tmp 37) (.const (.bool false)), none⟩,
 ⟨some 39, .move (.tmp 38), none⟩,
 ⟨some 40, .load 26 (.tmp 5), some (10, true)⟩,
 ⟨some 41, .load 26 (.tmp 1), some (10, true)⟩,
 ⟨some 42, .call { callee := .value (.func 10), args := #[.tmp 40, .tmp 41], argTypes := #[26, 26] }, some (10, true)⟩,
 ⟨some 43, .pick (.tmp 39) (.tmp 42) (.const (.bool false)), none⟩,
 ⟨some 44, .move (.tmp 43), none⟩,
 ⟨some 45, .call { callee := .value (.func 7), args := #[], argTypes := #[] }, some (15, true)⟩,
 ⟨some 46, .pick (.tmp 44) (.tmp 45) (.const (.bool false)), none⟩,
 ⟨some 2, .assign (.tmp 46), none⟩]
def f4_c : LC := (.seq (.reg f4_r0 [] none) (.seq (.seq (.reg f4_r1 [] none) (.cond (.tmp 14) (.seq (.reg f4_r2 [] none) .ret) .skip)) (.seq (.reg f4_r3 [] none) (.seq (.reg f4_r4 [] none) (.seq (.reg f4_r5 [] none) .ret)))))
theorem f4_lc : Tryz.f4.body.map lc = some f4_c.st := by kernel_rfl
theorem f4_res : Tryz.f4.results.toList = [.tmp 2] := by kernel_rfl
theorem f4_nt : Tryz.f4.ntmps = 47 := by kernel_rfl
theorem f4_nm : (Tryz.f4.name == "runtime.NumGoroutine") = false := by kernel_rfl
def f5_r0 : List LOp := [
 ⟨some 3, .box 40 (.tmp 1), none⟩,
 ⟨some 4, .assign (.const (.bool false)), none⟩]
def f5_r1 : List LOp := [
 ⟨some 15, .move (.tmp 0), none⟩,
 ⟨some 16, .call { callee := .builtin .len, args := #[.tmp 15], argTypes := #[37] }, none⟩,
 ⟨some 17, .binOp .gtr 3 (.tmp 16) (.const (.int .i64 5)) 3, none⟩,
 ⟨some 18, .move (.tmp 17), none⟩,
 ⟨some 19, .load 40 (.tmp 3), some (3, false)⟩,
 ⟨some 20, .call { callee := .value (.func 14), args := #[.tmp 19], argTypes := #[40] }, some (3, false)⟩,
 ⟨some 21, .pick (.tmp 18) (.const (.bool true)) (.tmp 20), none⟩]
def f5_r2 : List LOp := [
 ⟨some 22, .call { callee := .value (.func 7), args := #[], argTypes := #[] }, none⟩,
 ⟨some 4, .assign (.tmp 22), none⟩]
def f5_r3 : List LOp := [
 ⟨some 5, .assign (.const (.bool true)), none⟩]
def f5_r4 : List LOp := [
 ⟨some 6, .assign (.const (.int .i64 0)), none⟩]
def f5_r5 : List LOp := [
 ⟨some 23, .move (.tmp 6), none⟩,
 ⟨some 24, .move (.tmp 0), none⟩,
 ⟨some 25, .call { callee := .builtin .len, args := #[.tmp 24], argTypes := #[37] }, none⟩,
 ⟨some 26, .binOp .lss 3 (.tmp 23) (.tmp 25) 3, none⟩]
def f5_r6 : List LOp := [
 ⟨some 29, .move (.tmp 0), none⟩,
 ⟨some 30, .move (.tmp 6), none⟩,
 ⟨some 31, .indexAddr 37 (.tmp 29) (.tmp 30), none⟩,
 ⟨some 32, .load 26 (.tmp 31), none⟩,
 ⟨some 7, .alloc 26, none⟩,
 ⟨none, .store 26 (.tmp 7) (.tmp 32), none⟩]
def f5_r7 : List LOp := [
 ⟨some 33, .load 26 (.tmp 7), none⟩,
 ⟨some 34, .call { callee := .value (.func 11), args := #[.tmp 33], argTypes := #[26] }, none⟩]
def f5_r8 : List LOp := [
 ⟨some 35, .call { callee := .value (.func 7), args := #[], argTypes := #[] }, none⟩,
 ⟨some 4, .assign (.tmp 35), none⟩]
def f5_r9 : List LOp := [
 ⟨some 36, .load 26 (.tmp 7), none⟩,
 ⟨some 37, .call { callee := .value (.func 12), args := #[.tmp 36], argTypes := #[26] }, none⟩,
 ⟨some 8, .assign (.tmp 37), none⟩]
def f5_r10 : List LOp := [
 ⟨some 38, .move (.tmp 5), none⟩,
 ⟨some 39, .move (.tmp 38), none⟩,
 ⟨some 40, .move (.tmp 8), some (1, true)⟩,
 ⟨some 41, .pick (.tmp 39) (.tmp 40) (.const (.bool false)), none⟩,
 ⟨some 5, .assign (.tmp 41), none⟩]
def f5_r11 : List LOp := [
 ⟨some 42, .load 26 (.tmp 7), none⟩,
 ⟨some 43, .load 40 (.tmp 3), none⟩,
 ⟨some 44, .call { callee := .value (.func 15), args := #[.tmp 42, .tmp 43], argTypes := #[26, 40] }, none⟩,
 ⟨some 9, .assign (.tmp 44), none⟩]
def f5_r12 : List LOp := [
 ⟨some 10, .assign (.const (.string { data := #[] })), none⟩,
 ⟨some 11, .assign (.const (.string { data := #[] })), none⟩]
def f5_r13 : List LOp := [
 ⟨some 12, .assign (.const (.int .i64 1)), none⟩]
def f5_r14 : List LOp := [
 ⟨some 45, .move (.tmp 9), none⟩]
def f5_r15 : List LOp := [
 ⟨some 46, .load 26 (.tmp 7), none⟩,
 ⟨some 47, .load 40 (.tmp 3), none⟩,
 ⟨some 48, .call { callee := .value (.func 16), args := #[.tmp 46, .tmp 47], argTypes := #[26, 40] }, none⟩,
 ⟨some 10, .assign (.tmp 48), none⟩]
def f5_r16 : List LOp := [
 ⟨some 49, .move (.tmp 8), none⟩]
def f5_r17 : List LOp := [
 ⟨some 50, .load 26 (.tmp 7), none⟩,
 ⟨some 51, .call { callee := .value (.func 17), args := #[.tmp 50], argTypes := #[26] }, none⟩,
 ⟨some 11, .assign (.tmp 51), none⟩]
def f5_r18 : List LOp := [
 ⟨some 12, .assign (.const (.int .i64 0)), none⟩]
def f5_r19 : List LOp := [
 ⟨some 53, .load 26 (.tmp 7), none⟩,
 ⟨some 54, .call { callee := .value (.func 13), args := #[.tmp 53], argTypes := #[26] }, none⟩,
 ⟨some 52, .move (.tmp 54), none⟩,
 ⟨some 55, .extract (.tmp 52) 0, none⟩,
 ⟨some 56, .extract (.tmp 52) 1, none⟩,
 ⟨some 13, .assign (.tmp 55), none⟩,
 ⟨some 14, .assign (.tmp 56), none⟩]
def f5_r20 : List LOp := [
 ⟨some 57, .load 26 (.tmp 7), none⟩,
 ⟨some 58, .load 40 (.tmp 3), none⟩,
 ⟨some 59, .buildSlice 38 1 #[(0, .tmp 58)], none⟩,
 ⟨some 60, .call { callee := .value (.func 18), args := #[.tmp 57, .tmp 59], argTypes := #[26, 38] }, none⟩,
 ⟨some 61, .move (.tmp 9), none⟩,
 ⟨some 62, .binOp .neq 4 (.tmp 60) (.tmp 61) 4, none⟩,
 ⟨some 63, .move (.tmp 62), none⟩,
 ⟨some 64, .load 26 (.tmp 7), some (6, false)⟩,
 ⟨some 65, .load 40 (.tmp 3), some (6, false)⟩,
 ⟨some 66, .call { callee := .value (.func 19), args := #[.tmp 64, .tmp 65], argTypes := #[26, 40] }, some (6, false)⟩,
 ⟨some 67, .move (.tmp 10), some (6, false)⟩,
 ⟨some 68, .binOp .neq 9 (.tmp 66) (.tmp 67) 9, some (6, false)⟩,
 ⟨some 69, .pick (.tmp 63) (.const (.bool true)) (.tmp 68), none⟩,
 ⟨some 70, .move (.tmp 69), none⟩,
 ⟨some 71, .move (.tmp 13), some (13, false)⟩,
 ⟨some 72, .move (.tmp 11), some (13, false)⟩,
 ⟨some 73, .binOp .neq 9 (.tmp 71) (.tmp 72) 9, some (13, false)⟩,
 ⟨some 74, .pick (.tmp 70) (.const (.bool true)) (.tmp 73), none⟩,
 ⟨some 75, .move (.tmp 74), none⟩,
 ⟨some 76, .move (.tmp 14), some (18, false)⟩,
 ⟨some 77, .move (.tmp 12), some (18, false)⟩,
 ⟨some 78, .binOp .neq 27 (.tmp 76) (.tmp 77) 27, some (18, false)⟩,
 ⟨some 79, .pick (.tmp 75) (.const (.bool true)) (.tmp 78), none⟩]
def f5_r21 : List LOp := [
 ⟨some 4, .assign (.const (.bool false)), none⟩]
def f5_r22 : List LOp := [
 ⟨some 27, .move (.tmp 6), none⟩,
 ⟨some 28, .binOp .add 3 (.tmp 27) (.const (.int .i64 1)) 3, none⟩,
 ⟨some 6, .assign (.tmp 28), none⟩]
def f5_l23 : LC := (.seq (.seq (.reg f5_r5 [] none) (.cond (.tmp 26) .skip (.exit 0))) (.seq (.block 1 (.seq (.reg f5_r6 [] none) (.seq (.seq (.reg f5_r7 [] none) (.cond (.tmp 34) (.seq (.reg f5_r8 [] none) .ret) .skip)) (.seq (.reg f5_r9 [] none) (.seq (.reg f5_r10 [] none) (.seq (.reg f5_r11 [] none) (.seq (.reg f5_r12 [] none) (.seq (.reg f5_r13 [] none) (.seq (.seq (.reg f5_r14 [] none) (.cond (.tmp 45) (.reg f5_r15 [] none) .skip)) (.seq (.seq (.reg f5_r16 [] none) (.cond (.tmp 49) (.seq (.reg f5_r17 [] none) (.reg f5_r18 [] none)) .skip)) (.seq (.reg f5_r19 [] none) (.seq (.reg f5_r20 [] none) (.cond (.tmp 79) (.seq (.reg f5_r21 [] none) .ret) .skip))))))))))))) (.reg f5_r22 [] none)))
def f5_i23 (t0 t3 t5 t6 : D) : List D := [t0, .any, .any, t3, .any, t5, t6, .any, .any, .any, .any, .any, .any, .any, .any, .any, .any, .any, .any, .any, .any, .any, .any, .any, .any, .any, .any, .any, .any, .any, .any, .any, .any, .any, .any, .any, .any, .any, .any, .any, .any, .any, .any, .any, .any, .any, .any, .any, .any, .any, .any, .any, .any, .any, .any, .any, .any, .any, .any, .any, .any, .any, .any, .any, .any, .any, .any, .any, .any, .any, .any, .any, .any, .any, .any, .any, .any, .any, .any, .any, .any, .any, .any, .any, .any, .any, .any]
def f5_r24 : List LOp := [
 ⟨some 80, .move (.tmp 0), none⟩,
 ⟨some 81, .call { callee := .value (.func 20), args := #[.tmp 80], argTypes := #[37] }, none⟩,
 ⟨some 82, .move (.tmp 5), none⟩,
 ⟨some 83, .binOp .eql 4 (.tmp 81) (.tmp 82) 4, none⟩,
 ⟨some 84, .move (.tmp 83), none⟩,
 ⟨some 85, .call { callee := .value (.func 7), args := #[], argTypes := #[] }, some (4, true)⟩,
 ⟨some 86, .pick (.tmp 84) (.tmp 85) (.const (.bool false)), none⟩,
 ⟨some 4, .assign (.tmp 86), none⟩]
def f5_c : LC := (.seq (.reg f5_r0 [] none) (.seq (.seq (.reg f5_r1 [] none) (.cond (.tmp 21) (.seq (.reg f5_r2 [] none) .ret) .skip)) (.seq (.reg f5_r3 [] none) (.seq (.seq (.reg f5_r4 [] none) (.block 0 (.loop f5_l23))) (.seq (.reg f5_r24 [] none) .ret)))))
theorem f5_lc : Tryz.f5.body.map lc = some f5_c.st := by kernel_rfl
theorem f5_res : Tryz.f5.results.toList = [.tmp 4] := by kernel_rfl
theorem f5_nt : Tryz.f5.ntmps = 87 := by kernel_rfl
theorem f5_nm : (Tryz.f5.name == "runtime.NumGoroutine") = false := by kernel_rfl
def f6_r0 : List LOp := [
 ⟨some 2, .box 26 (.tmp 0), none⟩,
 ⟨some 4, .assign (.const (.bool false)), none⟩]
def f6_r1 : List LOp := [
 ⟨some 14, .load 26 (.tmp 2), none⟩,
 ⟨some 15, .call { callee := .value (.func 11), args := #[.tmp 14], argTypes := #[26] }, none⟩,
 ⟨some 16, .move (.tmp 15), none⟩,
 ⟨some 17, .move (.tmp 1), some (2, false)⟩,
 ⟨some 18, .call { callee := .builtin .len, args := #[.tmp 17], argTypes := #[9] }, some (2, false)⟩,
 ⟨some 19, .binOp .gtr 3 (.tmp 18) (.const (.int .i64 500)) 3, some (2, false)⟩,
 ⟨some 20, .pick (.tmp 16) (.const (.bool true)) (.tmp 19), none⟩]
def f6_r2 : List LOp := [
 ⟨some 21, .call { callee := .value (.func 7), args := #[], argTypes := #[] }, none⟩,
 ⟨some 4, .assign (.tmp 21), none⟩]
def f6_r3 : List LOp := [
 ⟨some 23, .load 26 (.tmp 2), none⟩,
 ⟨some 24, .move (.tmp 1), none⟩,
 ⟨some 25, .call { callee := .value (.func 21), args := #[.tmp 23, .tmp 24], argTypes := #[26, 9] }, none⟩,
 ⟨some 22, .move (.tmp 25), none⟩,
 ⟨some 26, .extract (.tmp 22) 0, none⟩,
 ⟨some 27, .extract (.tmp 22) 1, none⟩,
 ⟨some 28, .extract (.tmp 22) 2, none⟩,
 ⟨some 5, .alloc 40, none⟩,
 ⟨none, .store 40 (.tmp 5) (.tmp 26), none⟩,
 ⟨some 6, .assign (.tmp 27), none⟩,
 ⟨some 7, .assign (.tmp 28), none⟩]
def f6_r4 : List LOp := [
 ⟨some 30, .load 26 (.tmp 2), none⟩,
 ⟨some 31, .move (.tmp 1), none⟩,
 ⟨some 32, .call { callee := .value (.func 22), args := #[.tmp 30, .tmp 31], argTypes := #[26, 9] }, none⟩,
 ⟨some 29, .move (.tmp 32), none⟩,
 ⟨some 33, .extract (.tmp 29) 0, none⟩,
 ⟨some 34, .extract (.tmp 29) 1, none⟩,
 ⟨some 35, .extract (.tmp 29) 2, none⟩,
 ⟨some 8, .alloc 40, none⟩,
 ⟨none, .store 40 (.tmp 8) (.tmp 33), none⟩,
 ⟨some 9, .assign (.tmp 34), none⟩,
 ⟨some 10, .assign (.tmp 35), none⟩]
def f6_r5 : List LOp := [
 ⟨some 36, .move (.tmp 7), none⟩,
 ⟨some 37, .move (.tmp 10), none⟩,
 ⟨some 38, .binOp .neq 3 (.tmp 36) (.tmp 37) 3, none⟩,
 ⟨some 39, .move (.tmp 38), none⟩,
 ⟨some 40, .move (.tmp 6), some (3, false)⟩,
 ⟨some 41, .move (.tmp 9), some (3, false)⟩,
 ⟨some 42, .binOp .neq 3 (.tmp 40) (.tmp 41) 3, some (3, false)⟩,
 ⟨some 43, .pick (.tmp 39) (.const (.bool true)) (.tmp 42), none⟩,
 ⟨some 44, .move (.tmp 43), none⟩,
 ⟨some 45, .load 40 (.tmp 5), some (8, false)⟩,
 ⟨some 46, .load 40 (.tmp 8), some (8, false)⟩,
 ⟨some 47, .call { callee := .value (.func 23), args := #[.tmp 45, .tmp 46], argTypes := #[40, 40] }, some (8, false)⟩,
 ⟨some 48, .unOp .not 4 (.tmp 47), some (8, false)⟩,
 ⟨some 49, .pick (.tmp 44) (.const (.bool true)) (.tmp 48), none⟩]
def f6_r6 : List LOp := [
 ⟨some 4, .assign (.const (.bool false)), none⟩]
def f6_r7 : List LOp := [
 ⟨some 50, .move (.tmp 10), none⟩,
 ⟨some 51, .binOp .neq 3 (.tmp 50) (.const (.int .i64 0)) 3, none⟩]
def f6_r8 : List LOp := [
 ⟨some 52, .call { callee := .value (.func 7), args := #[], argTypes := #[] }, none⟩,
 ⟨some 4, .assign (.tmp 52), none⟩]
def f6_r9 : List LOp := [
 ⟨some 54, .load 26 (.tmp 2), none⟩,
 ⟨some 55, .load 26 (.tmp 2), none⟩,
 ⟨some 56, .load 40 (.tmp 5), none⟩,
 ⟨some 57, .call { callee := .value (.func 19), args := #[.tmp 55, .tmp 56], argTypes := #[26, 40] }, none⟩,
 ⟨some 58, .call { callee := .value (.func 21), args := #[.tmp 54, .tmp 57], argTypes := #[26, 9] }, none⟩,
 ⟨some 53, .move (.tmp 58), none⟩,
 ⟨some 59, .extract (.tmp 53) 0, none⟩,
 ⟨some 60, .extract (.tmp 53) 1, none⟩,
 ⟨some 61, .extract (.tmp 53) 2, none⟩,
 ⟨some 11, .alloc 40, none⟩,
 ⟨none, .store 40 (.tmp 11) (.tmp 59), none⟩,
 ⟨some 12, .assign (.tmp 60), none⟩,
 ⟨some 13, .assign (.tmp 61), none⟩]
def f6_r10 : List LOp := [
 ⟨some 62, .move (.tmp 13), none⟩,
 ⟨some 63, .binOp .eql 27 (.tmp 62) (.const (.int .i64 0)) 27, none⟩,
 ⟨some 64, .move (.tmp 63), none⟩,
 ⟨some 65, .load 40 (.tmp 11), some (2, true)⟩,
 ⟨some 66, .load 40 (.tmp 5), some (2, true)⟩,
 ⟨some 67, .call { callee := .value (.func 23), args := #[.tmp 65, .tmp 66], argTypes := #[40, 40] }, some (2, true)⟩,
 ⟨some 68, .pick (.tmp 64) (.tmp 67) (.const (.bool false)), none⟩,
 ⟨some 69, .move (.tmp 68), none⟩,
 ⟨some 70, .call { callee := .value (.func 7), args := #[], argTypes := #[] }, some (7, true)⟩,
 ⟨some 71, .pick (.tmp 69) (.tmp 70) (.const (.bool false)), none⟩,
 ⟨some 4, .assign (.tmp 71), none⟩]
def f6_c : LC := (.seq (.reg f6_r0 [] none) (.seq (.seq (.reg f6_r1 [] none) (.cond (.tmp 20) (.seq (.reg f6_r2 [] none) .ret) .skip)) (.seq (.reg f6_r3 [] none) (.seq (.reg f6_r4 [] none) (.seq (.seq (.reg f6_r5 [] none) (.cond (.tmp 49) (.seq (.reg f6_r6 [] none) .ret) .skip)) (.seq (.seq (.reg f6_r7 [] none) (.cond (.tmp 51) (.seq (.reg f6_r8 [] none) .ret) .skip)) (.seq (.rega f6_r9 [] 12) (.seq (.reg f6_r10 [] none) .ret))))))))
theorem f6_lc : Tryz.f6.body.map lc = some f6_c.st := by kernel_rfl
theorem f6_res : Tryz.f6.results.toList = [.tmp 4] := by kernel_rfl
theorem f6_nt : Tryz.f6.ntmps = 72 := by kernel_rfl
theorem f6_nm : (Tryz.f6.name == "runtime.NumGoroutine") = false := by kernel_rfl
def f7_r0 : List LOp := [
 ⟨some 0, .assign (.const (.bool false)), none⟩]
def f7_r1 : List LOp := [
 ⟨some 7, .buildSlice 22 2 #[(0, .const (.string { data := #[97] })), (1, .const (.string { data := #[98] }))], none⟩,
 ⟨some 8, .call { callee := .value (.func 8), args := #[.const (.string { data := #[115, 32, 61, 32, 97, 32, 115, 32, 98, 32, 124, 32, 40, 41, 10] }), .tmp 7], argTypes := #[9, 22] }, none⟩,
 ⟨some 6, .move (.tmp 8), none⟩,
 ⟨some 9, .extract (.tmp 6) 0, none⟩,
 ⟨some 10, .extract (.tmp 6) 1, none⟩,
 ⟨some 11, .extract (.tmp 6) 2, none⟩,
 ⟨some 1, .alloc 26, none⟩,
 ⟨none, .store 26 (.tmp 1) (.tmp 9), none⟩,
 ⟨some 2, .assign (.tmp 10), none⟩,
 ⟨some 3, .assign (.tmp 11), none⟩]
def f7_r2 : List LOp := [
 ⟨some 13, .load 26 (.tmp 1), none⟩,
 ⟨some 14, .call { callee := .value (.func 13), args := #[.tmp 13], argTypes := #[26] }, none⟩,
 ⟨some 12, .move (.tmp 14), none⟩,
 ⟨some 15, .extract (.tmp 12) 0, none⟩,
 ⟨some 16, .extract (.tmp 12) 1, none⟩,
 ⟨some 4, .assign (.tmp 15), none⟩,
 ⟨some 5, .assign (.tmp 16), none⟩]
def f7_r3 : List LOp := [
 ⟨some 17, .move (.tmp 3), none⟩,
 ⟨some 18, .binOp .eql 27 (.tmp 17) (.const (.int .i64 0)) 27, none⟩,
 ⟨some 19, .move (.tmp 18), none⟩,
 ⟨some 20, .move (.tmp 5), some (2, true)⟩,
 ⟨some 21, .binOp .eql 27 (.tmp 20) (.const (.int .i64 0)) 27, some (2, true)⟩,
 ⟨some 22, .pick (.tmp 19) (.tmp 21) (.const (.bool false)), none⟩,
 ⟨some 23, .move (.tmp 22), none⟩,
 ⟨some 24, .move (.tmp 4), some (6, true)⟩,
 ⟨some 25, .binOp .eql 9 (.tmp 24) (.const (.string { data := #[115, 32, 61, 32, 97, 32, 115, 32, 98, 32, 124, 32, 40, 41, 10] })) 9, some (6, true)⟩,
 ⟨some 26, .pick (.tmp 23) (.tmp 25) (.const (.bool false)), none⟩,
 ⟨some 27, .move (.tmp 26), none⟩,
 ⟨some 28, .load 26 (.tmp 1), some (10, true)⟩,
 ⟨some 29, .buildSlice 37 1 #[(0, .tmp 28)], some (10, true)⟩,
 ⟨some 30, .call { callee := .value (.func 20), args := #[.tmp 29], argTypes := #[37] }, some (10, true)⟩,
 ⟨some 31, .pick (.tmp 27) (.tmp 30) (.const (.bool false)), none⟩,
 ⟨some 0, .assign (.tmp 31), none⟩]
def f7_c : LC := (.seq (.reg f7_r0 [] none) (.seq (.reg f7_r1 [] none) (.seq (.reg f7_r2 [] none) (.seq (.reg f7_r3 [] none) .ret))))
theorem f7_lc : Tryz.f7.body.map lc = some f7_c.st := by kernel_rfl
theorem f7_res : Tryz.f7.results.toList = [.tmp 0] := by kernel_rfl
theorem f7_nt : Tryz.f7.ntmps = 32 := by kernel_rfl
theorem f7_nm : (Tryz.f7.name == "runtime.NumGoroutine") = false := by kernel_rfl
def f8_r0 : List LOp := [
 ⟨some 4, .alloc 26, none⟩,
 ⟨some 5, .assign (.const (.int .i64 0)), none⟩,
 ⟨some 6, .assign (.const (.int .i64 0)), none⟩]
def f8_r1 : List LOp := [
 ⟨some 20, .move (.tmp 0), none⟩,
 ⟨some 21, .call { callee := .builtin .len, args := #[.tmp 20], argTypes := #[9] }, none⟩,
 ⟨some 22, .binOp .gtr 3 (.tmp 21) (.const (.int .i64 65536)) 3, none⟩,
 ⟨some 19, .assign (.tmp 22), none⟩]
def f8_r2 : List LOp := [
 ⟨some 23, .build 26 #[], none⟩,
 ⟨none, .store 26 (.tmp 4) (.tmp 23), none⟩,
 ⟨some 5, .assign (.const (.int .i64 0)), none⟩,
 ⟨some 6, .assign (.const (.int .i64 3)), none⟩]
def f8_r3 : List LOp := [
 ⟨some 25, .move (.tmp 1), none⟩,
 ⟨some 26, .call { callee := .builtin .len, args := #[.tmp 25], argTypes := #[22] }, none⟩,
 ⟨some 27, .binOp .lss 3 (.tmp 26) (.const (.int .i64 1)) 3, none⟩,
 ⟨some 28, .move (.tmp 27), none⟩,
 ⟨some 29, .move (.tmp 1), some (3, false)⟩,
 ⟨some 30, .call { callee := .builtin .len, args := #[.tmp 29], argTypes := #[22] }, some (3, false)⟩,
 ⟨some 31, .binOp .gtr 3 (.tmp 30) (.const (.int .i64 100)) 3, some (3, false)⟩,
 ⟨some 32, .pick (.tmp 28) (.const (.bool true)) (.tmp 31), none⟩,
 ⟨some 33, .move (.tmp 32), none⟩,
 ⟨some 34, .move (.tmp 1), some (8, false)⟩,
 ⟨some 35, .call { callee := .value (.func 24), args := #[.tmp 34], argTypes := #[22] }, some (8, false)⟩,
 ⟨some 36, .unOp .not 4 (.tmp 35), some (8, false)⟩,
 ⟨some 37, .pick (.tmp 33) (.const (.bool true)) (.tmp 36), none⟩,
 ⟨some 24, .assign (.tmp 37), none⟩]
def f8_r4 : List LOp := [
 ⟨some 38, .build 26 #[], none⟩,
 ⟨none, .store 26 (.tmp 4) (.tmp 38), none⟩,
 ⟨some 5, .assign (.const (.int .i64 0)), none⟩,
 ⟨some 6, .assign (.const (.int .i64 1)), none⟩]
def f8_r5 : List LOp := [
 ⟨some 40, .move (.tmp 0), none⟩,
 ⟨some 41, .move (.tmp 1), none⟩,
 ⟨some 42, .call { callee := .value (.func 25), args := #[.tmp 40, .tmp 41], argTypes := #[9, 22] }, none⟩,
 ⟨some 39, .move (.tmp 42), none⟩,
 ⟨some 43, .extract (.tmp 39) 0, none⟩,
 ⟨some 44, .extract (.tmp 39) 1, none⟩,
 ⟨some 45, .extract (.tmp 39) 2, none⟩,
 ⟨some 7, .assign (.tmp 43), none⟩,
 ⟨some 8, .assign (.tmp 44), none⟩,
 ⟨some 9, .assign (.tmp 45), none⟩]
def f8_r6 : List LOp := [
 ⟨some 46, .move (.tmp 9), none⟩,
 ⟨some 47, .binOp .neq 27 (.tmp 46) (.const (.int .i64 0)) 27, none⟩]
def f8_r7 : List LOp := [
 ⟨some 48, .build 26 #[], none⟩,
 ⟨some 49, .move (.tmp 8), none⟩,
 ⟨some 50, .move (.tmp 9), none⟩,
 ⟨none, .store 26 (.tmp 4) (.tmp 48), none⟩,
 ⟨some 5, .assign (.tmp 49), none⟩,
 ⟨some 6, .assign (.tmp 50), none⟩]
def f8_r8 : List LOp := [
 ⟨some 51, .move (.tmp 1), none⟩,
 ⟨some 52, .call { callee := .value (.func 26), args := #[.tmp 51], argTypes := #[22] }, none⟩,
 ⟨some 53, .build 26 #[(0, .tmp 52)], none⟩,
 ⟨some 10, .alloc 26, none⟩,
 ⟨none, .store 26 (.tmp 10) (.tmp 53), none⟩]
def f8_r9 : List LOp := [
 ⟨some 11, .assign (.const (.slice none 0 0)), none⟩]
def f8_r10 : List LOp := [
 ⟨some 54, .move (.tmp 7), none⟩,
 ⟨some 55, .call { callee := .builtin .len, args := #[.tmp 54], argTypes := #[55] }, none⟩,
 ⟨some 56, .move (.const (.int .i64 0)), none⟩]
def f8_r11 : List LOp := [
 ⟨some 57, .binOp .lss 3 (.tmp 56) (.tmp 55) 3, none⟩]
def f8_r12 : List LOp := [
 ⟨some 58, .indexAddr 55 (.tmp 54) (.tmp 56), none⟩,
 ⟨some 59, .load 60 (.tmp 58), none⟩,
 ⟨some 13, .alloc 60, none⟩,
 ⟨none, .store 60 (.tmp 13) (.tmp 59), none⟩]
def f8_r13 : List LOp := [
 ⟨some 60, .move (.tmp 11), none⟩,
 ⟨some 61, .fieldAddr 60 (.tmp 13) 1, none⟩,
 ⟨some 62, .load 9 (.tmp 61), none⟩,
 ⟨some 63, .buildSlice 22 1 #[(0, .tmp 62)], none⟩,
 ⟨some 64, .call { callee := .builtin .append, args := #[.tmp 60, .tmp 63], argTypes := #[22, 22] }, none⟩,
 ⟨some 11, .assign (.tmp 64), none⟩]
def f8_r14 : List LOp := [
 ⟨some 65, .binOp .add 3 (.tmp 56) (.const (.int .i64 1)) 3, none⟩,
 ⟨some 56, .move (.tmp 65), none⟩]
def f8_l15 : LC := (.seq (.reg f8_r11 [] none) (.seq (.cond (.tmp 57) .skip (.exit 1)) (.seq (.block 2 (.seq (.reg f8_r12 [] none) (.reg f8_r13 [] none))) (.reg f8_r14 [] none))))
def f8_i15 (t1 t4 t7 t10 t11 t54 t55 t56 : D) : List D := [.any, t1, .any, .any, t4, .any, .any, t7, .any, .any, t10, t11, .any, .any, .any, .any, .any, .any, .any, .any, .any, .any, .any, .any, .any, .any, .any, .any, .any, .any, .any, .any, .any, .any, .any, .any, .any, .any, .any, .any, .any, .any, .any, .any, .any, .any, .any, .any, .any, .any, .any, .any, .any, .any, t54, t55, t56, .any, .any, .any, .any, .any, .any, .any, .any, .any, .any, .any, .any, .any, .any, .any, .any, .any, .any, .any, .any, .any, .any, .any, .any, .any, .any, .any, .any, .any, .any, .any, .any, .any, .any, .any, .any, .any, .any, .any, .any, .any, .any, .any, .any, .any, .any, .any, .any, .any, .any, .any, .any, .any, .any]
def f8_r16 : List LOp := [
 ⟨some 66, .move (.tmp 7), none⟩,
 ⟨some 67, .call { callee := .builtin .len, args := #[.tmp 66], argTypes := #[55] }, none⟩,
 ⟨some 68, .move (.const (.int .i64 0)), none⟩]
def f8_r17 : List LOp := [
 ⟨some 69, .binOp .lss 3 (.tmp 68) (.tmp 67) 3, none⟩]
def f8_r18 : List LOp := [
 ⟨some 70, .indexAddr 55 (.tmp 66) (.tmp 68), none⟩,
 ⟨some 71, .load 60 (.tmp 70), none⟩,
 ⟨some 15, .alloc 60, none⟩,
 ⟨none, .store 60 (.tmp 15) (.tmp 71), none⟩]
def f8_r19 : List LOp := [
 ⟨some 73, .fieldAddr 60 (.tmp 15) 2, none⟩,
 ⟨some 74, .load 9 (.tmp 73), none⟩,
 ⟨some 75, .move (.tmp 1), none⟩,
 ⟨some 76, .move (.tmp 11), none⟩,
 ⟨some 77, .build 63 #[(0, .tmp 74), (2, .tmp 75), (3, .tmp 76)], none⟩,
 ⟨some 78, .box 63 (.tmp 77), none⟩,
 ⟨some 79, .call { callee := .value (.func 27), args := #[.tmp 78], argTypes := #[61] }, none⟩,
 ⟨some 72, .move (.tmp 79), none⟩,
 ⟨some 80, .extract (.tmp 72) 0, none⟩,
 ⟨some 81, .extract (.tmp 72) 1, none⟩,
 ⟨some 82, .extract (.tmp 72) 2, none⟩,
 ⟨some 16, .alloc 40, none⟩,
 ⟨none, .store 40 (.tmp 16) (.tmp 80), none⟩,
 ⟨some 17, .assign (.tmp 81), none⟩,
 ⟨some 18, .assign (.tmp 82), none⟩]
def f8_r20 : List LOp := [
 ⟨some 83, .move (.tmp 18), none⟩,
 ⟨some 84, .binOp .neq 27 (.tmp 83) (.const (.int .i64 0)) 27, none⟩]
def f8_r21 : List LOp := [
 ⟨some 85, .build 26 #[], none⟩,
 ⟨some 86, .fieldAddr 60 (.tmp 15) 0, none⟩,
 ⟨some 87, .load 3 (.tmp 86), none⟩,
 ⟨some 88, .fieldAddr 60 (.tmp 15) 1, none⟩,
 ⟨some 89, .load 9 (.tmp 88), none⟩,
 ⟨some 90, .call { callee := .builtin .len, args := #[.tmp 89], argTypes := #[9] }, none⟩,
 ⟨some 91, .binOp .add 3 (.tmp 87) (.tmp 90) 3, none⟩,
 ⟨some 92, .binOp .add 3 (.tmp 91) (.const (.int .i64 3)) 3, none⟩,
 ⟨some 93, .move (.tmp 17), none⟩,
 ⟨some 94, .binOp .add 3 (.tmp 92) (.tmp 93) 3, none⟩,
 ⟨some 95, .move (.tmp 18), none⟩,
 ⟨none, .store 26 (.tmp 4) (.tmp 85), none⟩,
 ⟨some 5, .assign (.tmp 94), none⟩,
 ⟨some 6, .assign (.tmp 95), none⟩]
def f8_r22 : List LOp := [
 ⟨some 96, .fieldAddr 26 (.tmp 10) 1, none⟩,
 ⟨some 97, .load 24 (.tmp 96), none⟩,
 ⟨some 98, .fieldAddr 60 (.tmp 15) 1, none⟩,
 ⟨some 99, .load 9 (.tmp 98), none⟩,
 ⟨some 100, .load 40 (.tmp 16), none⟩,
 ⟨some 101, .build 66 #[(0, .tmp 99), (1, .tmp 100)], none⟩,
 ⟨some 102, .buildSlice 24 1 #[(0, .tmp 101)], none⟩,
 ⟨some 103, .call { callee := .builtin .append, args := #[.tmp 97, .tmp 102], argTypes := #[24, 24] }, none⟩,
 ⟨some 104, .fieldAddr 26 (.tmp 10) 1, none⟩,
 ⟨none, .store 24 (.tmp 104) (.tmp 103), none⟩]
def f8_r23 : List LOp := [
 ⟨some 105, .binOp .add 3 (.tmp 68) (.const (.int .i64 1)) 3, none⟩,
 ⟨some 68, .move (.tmp 105), none⟩]
def f8_l24 : LC := (.seq (.reg f8_r17 [] none) (.seq (.cond (.tmp 69) .skip (.exit 3)) (.seq (.block 4 (.seq (.reg f8_r18 [] none) (.seq (.reg f8_r19 [5] none) (.seq (.seq (.reg f8_r20 [] none) (.cond (.tmp 84) (.seq (.regq f8_r21 [] 0 (.free [[], [], [1], [], [3], [4], [2, 5], [6], [], [7, 8], [], [0, 0], [9, 11, 0, 1, 2, 3, 4, 5, 6, 7, 8, 9, 11], [10, 12, 0, 1, 2, 3, 4, 5, 6, 7, 8, 9, 10, 11, 12]])) .ret) .skip)) (.reg f8_r22 [] none))))) (.reg f8_r23 [] none))))
def f8_i24 (t1 t4 t10 t11 t66 t67 t68 : D) : List D := [.any, t1, .any, .any, t4, .any, .any, .any, .any, .any, t10, t11, .any, .any, .any, .any, .any, .any, .any, .any, .any, .any, .any, .any, .any, .any, .any, .any, .any, .any, .any, .any, .any, .any, .any, .any, .any, .any, .any, .any, .any, .any, .any, .any, .any, .any, .any, .any, .any, .any, .any, .any, .any, .any, .any, .any, .any, .any, .any, .any, .any, .any, .any, .any, .any, .any, t66, t67, t68, .any, .any, .any, .any, .any, .any, .any, .any, .any, .any, .any, .any, .any, .any, .any, .any, .any, .any, .any, .any, .any, .any, .any, .any, .any, .any, .any, .any, .any, .any, .any, .any, .any, .any, .any, .any, .any, .any, .any, .any, .any, .any]
def f8_r25 : List LOp := [
 ⟨some 106, .load 26 (.tmp 10), none⟩,
 ⟨some 107, .call { callee := .value (.func 28), args := #[.tmp 106], argTypes := #[26] }, none⟩,
 ⟨some 108, .unOp .not 4 (.tmp 107), none⟩]
def f8_r26 : List LOp := [
 ⟨some 109, .build 26 #[], none⟩,
 ⟨none, .store 26 (.tmp 4) (.tmp 109), none⟩,
 ⟨some 5, .assign (.const (.int .i64 0)), none⟩,
 ⟨some 6, .assign (.const (.int .i64 4)), none⟩]
def f8_r27 : List LOp := [
 ⟨some 110, .load 26 (.tmp 10), none⟩,
 ⟨none, .store 26 (.tmp 4) (.tmp 110), none⟩,
 ⟨some 5, .assign (.const (.int .i64 0)), none⟩,
 ⟨some 6, .assign (.const (.int .i64 0)), none⟩]
def f8_c : LC := (.seq (.reg f8_r0 [] none) (.seq (.block 0 (.seq (.reg f8_r1 [] none) (.cond (.tmp 19) (.seq (.reg f8_r2 [] none) .ret) (.seq (.reg f8_r3 [] none) (.cond (.tmp 24) (.seq (.reg f8_r4 [] none) .ret) .skip))))) (.seq (.reg f8_r5 [] none) (.seq (.seq (.reg f8_r6 [] none) (.cond (.tmp 47) (.seq (.reg f8_r7 [] none) .ret) .skip)) (.seq (.reg f8_r8 [] none) (.seq (.reg f8_r9 [] none) (.seq (.seq (.reg f8_r10 [] none) (.block 1 (.loop f8_l15))) (.seq (.seq (.reg f8_r16 [] none) (.block 3 (.loop f8_l24))) (.seq (.seq (.reg f8_r25 [] none) (.cond (.tmp 108) (.seq (.reg f8_r26 [] none) .ret) .skip)) (.seq (.reg f8_r27 [] none) .ret))))))))))
theorem f8_lc : Tryz.f8.body.map lc = some f8_c.st := by kernel_rfl
theorem f8_res : Tryz.f8.results.toList = [.cell 4 26, .tmp 5, .tmp 6] := by kernel_rfl
theorem f8_nt : Tryz.f8.ntmps = 111 := by kernel_rfl
theorem f8_nm : (Tryz.f8.name == "runtime.NumGoroutine") = false := by kernel_rfl
def f10_r0 : List LOp := [
 ⟨some 2, .box 26 (.tmp 0), none⟩,
 ⟨some 3, .box 26 (.tmp 1), none⟩,
 ⟨some 4, .assign (.const (.bool false)), none⟩]
def f10_r1 : List LOp := [
 ⟨some 7, .fieldAddr 26 (.tmp 2) 0, none⟩,
 ⟨some 8, .load 22 (.tmp 7), none⟩,
 ⟨some 9, .call { callee := .builtin .len, args := #[.tmp 8], argTypes := #[22] }, none⟩,
 ⟨some 10, .fieldAddr 26 (.tmp 3) 0, none⟩,
 ⟨some 11, .load 22 (.tmp 10), none⟩,
 ⟨some 12, .call { callee := .builtin .len, args := #[.tmp 11], argTypes := #[22] }, none⟩,
 ⟨some 13, .binOp .neq 3 (.tmp 9) (.tmp 12) 3, none⟩,
 ⟨some 14, .move (.tmp 13), none⟩,
 ⟨some 15, .fieldAddr 26 (.tmp 2) 1, some (7, false)⟩,
 ⟨some 16, .load 24 (.tmp 15), some (7, false)⟩,
 ⟨some 17, .call { callee := .builtin .len, args := #[.tmp 16], argTypes := #[24] }, some (7, false)⟩,
 ⟨some 18, .fieldAddr 26 (.tmp 3) 1, some (7, false)⟩,
 ⟨some 19, .load 24 (.tmp 18), some (7, false)⟩,
 ⟨some 20, .call { callee := .builtin .len, args := #[.tmp 19], argTypes := #[24] }, some (7, false)⟩,
 ⟨some 21, .binOp .neq 3 (.tmp 17) (.tmp 20) 3, some (7, false)⟩,
 ⟨some 22, .pick (.tmp 14) (.const (.bool true)) (.tmp 21), none⟩]
def f10_r2 : List LOp := [
 ⟨some 4, .assign (.const (.bool false)), none⟩]
def f10_r3 : List LOp := [
 ⟨some 23, .fieldAddr 26 (.tmp 2) 0, none⟩,
 ⟨some 24, .load 22 (.tmp 23), none⟩,
 ⟨some 25, .call { callee := .builtin .len, args := #[.tmp 24], argTypes := #[22] }, none⟩,
 ⟨some 26, .move (.const (.int .i64 0)), none⟩]
def f10_r4 : List LOp := [
 ⟨some 27, .binOp .lss 3 (.tmp 26) (.tmp 25) 3, none⟩]
def f10_r5 : List LOp := [
 ⟨some 28, .move (.tmp 26), none⟩,
 ⟨some 5, .assign (.tmp 28), none⟩]
def f10_r6 : List LOp := [
 ⟨some 29, .fieldAddr 26 (.tmp 2) 0, none⟩,
 ⟨some 30, .load 22 (.tmp 29), none⟩,
 ⟨some 31, .move (.tmp 5), none⟩,
 ⟨some 32, .indexAddr 22 (.tmp 30) (.tmp 31), none⟩,
 ⟨some 33, .load 9 (.tmp 32), none⟩,
 ⟨some 34, .fieldAddr 26 (.tmp 3) 0, none⟩,
 ⟨some 35, .load 22 (.tmp 34), none⟩,
 ⟨some 36, .move (.tmp 5), none⟩,
 ⟨some 37, .indexAddr 22 (.tmp 35) (.tmp 36), none⟩,
 ⟨some 38, .load 9 (.tmp 37), none⟩,
 ⟨some 39, .binOp .neq 9 (.tmp 33) (.tmp 38) 9, none⟩]
def f10_r7 : List LOp := [
 ⟨some 4, .assign (.const (.bool false)), none⟩]
def f10_r8 : List LOp := [
 ⟨some 40, .binOp .add 3 (.tmp 26) (.const (.int .i64 1)) 3, none⟩,
 ⟨some 26, .move (.tmp 40), none⟩]
def f10_l9 : LC := (.seq (.reg f10_r4 [] none) (.seq (.cond (.tmp 27) .skip (.exit 0)) (.seq (.block 1 (.seq (.reg f10_r5 [] none) (.seq (.reg f10_r6 [] (some 10)) (.cond (.tmp 39) (.seq (.reg f10_r7 [] none) .ret) .skip)))) (.reg f10_r8 [] none))))
def f10_i9 (t2 t3 t25 t26 : D) : List D := [.any, .any, t2, t3, .any, .any, .any, .any, .any, .any, .any, .any, .any, .any, .any, .any, .any, .any, .any, .any, .any, .any, .any, .any, .any, t25, t26, .any, .any, .any, .any, .any, .any, .any, .any, .any, .any, .any, .any, .any, .any, .any, .any, .any, .any, .any, .any, .any, .any, .any, .any, .any, .any, .any, .any, .any, .any, .any, .any, .any, .any, .any, .any, .any, .any, .any, .any, .any, .any, .any, .any, .any, .any, .any, .any, .any, .any]
def f10_r10 : List LOp := [
 ⟨some 41, .fieldAddr 26 (.tmp 2) 1, none⟩,
 ⟨some 42, .load 24 (.tmp 41), none⟩,
 ⟨some 43, .call { callee := .builtin .len, args := #[.tmp 42], argTypes := #[24] }, none⟩,
 ⟨some 44, .move (.const (.int .i64 0)), none⟩]
def f10_r11 : List LOp := [
 ⟨some 45, .binOp .lss 3 (.tmp 44) (.tmp 43) 3, none⟩]
def f10_r12 : List LOp := [
 ⟨some 46, .move (.tmp 44), none⟩,
 ⟨some 6, .assign (.tmp 46), none⟩]
def f10_r13 : List LOp := [
 ⟨some 47, .fieldAddr 26 (.tmp 2) 1, none⟩,
 ⟨some 48, .load 24 (.tmp 47), none⟩,
 ⟨some 49, .move (.tmp 6), none⟩,
 ⟨some 50, .indexAddr 24 (.tmp 48) (.tmp 49), none⟩,
 ⟨some 51, .fieldAddr 66 (.tmp 50) 0, none⟩,
 ⟨some 52, .load 9 (.tmp 51), none⟩,
 ⟨some 53, .fieldAddr 26 (.tmp 3) 1, none⟩,
 ⟨some 54, .load 24 (.tmp 53), none⟩,
 ⟨some 55, .move (.tmp 6), none⟩,
 ⟨some 56, .indexAddr 24 (.tmp 54) (.tmp 55), none⟩,
 ⟨some 57, .fieldAddr 66 (.tmp 56) 0, none⟩,
 ⟨some 58, .load 9 (.tmp 57), none⟩,
 ⟨some 59, .binOp .neq 9 (.tmp 52) (.tmp 58) 9, none⟩,
 ⟨some 60, .move (.tmp 59), none⟩,
 ⟨some 61, .fieldAddr 26 (.tmp 2) 1, some (13, false)⟩,
 ⟨some 62, .load 24 (.tmp 61), some (13, false)⟩,
 ⟨some 63, .move (.tmp 6), some (13, false)⟩,
 ⟨some 64, .indexAddr 24 (.tmp 62) (.tmp 63), some (13, false)⟩,
 ⟨some 65, .fieldAddr 66 (.tmp 64) 1, some (13, false)⟩,
 ⟨some 66, .load 40 (.tmp 65), some (13, false)⟩,
 ⟨some 67, .fieldAddr 26 (.tmp 3) 1, some (13, false)⟩,
 ⟨some 68, .load 24 (.tmp 67), some (13, false)⟩,
 ⟨some 69, .move (.tmp 6), some (13, false)⟩,
 ⟨some 70, .indexAddr 24 (.tmp 68) (.tmp 69), some (13, false)⟩,
 ⟨some 71, .fieldAddr 66 (.tmp 70) 1, some (13, false)⟩,
 ⟨some 72, .load 40 (.tmp 71), some (13, false)⟩,
 ⟨some 73, .call { callee := .value (.func 23), args := #[.tmp 66, .tmp 72], argTypes := #[40, 40] }, some (13, false)⟩,
 ⟨some 74, .unOp .not 4 (.tmp 73), some (13, false)⟩,
 ⟨some 75, .pick (.tmp 60) (.const (.bool true)) (.tmp 74), none⟩]
def f10_r14 : List LOp := [
 ⟨some 4, .assign (.const (.bool false)), none⟩]
def f10_r15 : List LOp := [
 ⟨some 76, .binOp .add 3 (.tmp 44) (.const (.int .i64 1)) 3, none⟩,
 ⟨some 44, .move (.tmp 76), none⟩]
def f10_l16 : LC := (.seq (.reg f10_r11 [] none) (.seq (.cond (.tmp 45) .skip (.exit 2)) (.seq (.block 3 (.seq (.reg f10_r12 [] none) (.seq (.reg f10_r13 [] (some 29)) (.cond (.tmp 75) (.seq (.reg f10_r14 [] none) .ret) .skip)))) (.reg f10_r15 [] none))))
def f10_i16 (t2 t3 t43 t44 : D) : List D := [.any, .any, t2, t3, .any, .any, .any, .any, .any, .any, .any, .any, .any, .any, .any, .any, .any, .any, .any, .any, .any, .any, .any, .any, .any, .any, .any, .any, .any, .any, .any, .any, .any, .any, .any, .any, .any, .any, .any, .any, .any, .any, .any, t43, t44, .any, .any, .any, .any, .any, .any, .any, .any, .any, .any, .any, .any, .any, .any, .any, .any, .any, .any, .any, .any, .any, .any, .any, .any, .any, .any, .any, .any, .any, .any, .any, .any]
def f10_r17 : List LOp := [
 ⟨some 4, .assign (.const (.bool true)), none⟩]
def f10_c : LC := (.seq (.reg f10_r0 [] none) (.seq (.seq (.reg f10_r1 [] none) (.cond (.tmp 22) (.seq (.reg f10_r2 [] none) .ret) .skip)) (.seq (.seq (.reg f10_r3 [] none) (.block 0 (.loop f10_l9))) (.seq (.seq (.reg f10_r10 [] none) (.block 2 (.loop f10_l16))) (.seq (.reg f10_r17 [] none) .ret)))))
theorem f10_lc : Tryz.f10.body.map lc = some f10_c.st := by kernel_rfl
theorem f10_res : Tryz.f10.results.toList = [.tmp 4] := by kernel_rfl
theorem f10_nt : Tryz.f10.ntmps = 77 := by kernel_rfl
theorem f10_nm : (Tryz.f10.name == "runtime.NumGoroutine") = false := by kernel_rfl
def f11_r0 : List LOp := [
 ⟨some 1, .box 26 (.tmp 0), none⟩,
 ⟨some 2, .assign (.const (.bool false)), none⟩]
def f11_r1 : List LOp := [
 ⟨some 5, .fieldAddr 26 (.tmp 1) 0, none⟩,
 ⟨some 6, .load 22 (.tmp 5), none⟩,
 ⟨some 7, .call { callee := .builtin .len, args := #[.tmp 6], argTypes := #[22] }, none⟩,
 ⟨some 8, .binOp .gtr 3 (.tmp 7) (.const (.int .i64 12)) 3, none⟩,
 ⟨some 9, .move (.tmp 8), none⟩,
 ⟨some 10, .fieldAddr 26 (.tmp 1) 1, some (4, false)⟩,
 ⟨some 11, .load 24 (.tmp 10), some (4, false)⟩,
 ⟨some 12, .call { callee := .builtin .len, args := #[.tmp 11], argTypes := #[24] }, some (4, false)⟩,
 ⟨some 13, .binOp .gtr 3 (.tmp 12) (.const (.int .i64 12)) 3, some (4, false)⟩,
 ⟨some 14, .pick (.tmp 9) (.const (.bool true)) (.tmp 13), none⟩]
def f11_r2 : List LOp := [
 ⟨some 2, .assign (.const (.bool true)), none⟩]
def f11_r3 : List LOp := [
 ⟨some 15, .fieldAddr 26 (.tmp 1) 0, none⟩,
 ⟨some 16, .load 22 (.tmp 15), none⟩,
 ⟨some 17, .call { callee := .builtin .len, args := #[.tmp 16], argTypes := #[22] }, none⟩,
 ⟨some 18, .move (.const (.int .i64 0)), none⟩]
def f11_r4 : List LOp := [
 ⟨some 19, .binOp .lss 3 (.tmp 18) (.tmp 17) 3, none⟩]
def f11_r5 : List LOp := [
 ⟨some 20, .move (.tmp 18), none⟩,
 ⟨some 3, .assign (.tmp 20), none⟩]
def f11_r6 : List LOp := [
 ⟨some 21, .fieldAddr 26 (.tmp 1) 0, none⟩,
 ⟨some 22, .load 22 (.tmp 21), none⟩,
 ⟨some 23, .move (.tmp 3), none⟩,
 ⟨some 24, .indexAddr 22 (.tmp 22) (.tmp 23), none⟩,
 ⟨some 25, .load 9 (.tmp 24), none⟩,
 ⟨some 26, .call { callee := .builtin .len, args := #[.tmp 25], argTypes := #[9] }, none⟩,
 ⟨some 27, .binOp .gtr 3 (.tmp 26) (.const (.int .i64 100)) 3, none⟩]
def f11_r7 : List LOp := [
 ⟨some 2, .assign (.const (.bool true)), none⟩]
def f11_r8 : List LOp := [
 ⟨some 28, .binOp .add 3 (.tmp 18) (.const (.int .i64 1)) 3, none⟩,
 ⟨some 18, .move (.tmp 28), none⟩]
def f11_l9 : LC := (.seq (.reg f11_r4 [] none) (.seq (.cond (.tmp 19) .skip (.exit 0)) (.seq (.block 1 (.seq (.reg f11_r5 [] none) (.seq (.reg f11_r6 [] none) (.cond (.tmp 27) (.seq (.reg f11_r7 [] none) .ret) .skip)))) (.reg f11_r8 [] none))))
def f11_i9 (t1 t17 t18 : D) : List D := [.any, t1, .any, .any, .any, .any, .any, .any, .any, .any, .any, .any, .any, .any, .any, .any, .any, t17, t18, .any, .any, .any, .any, .any, .any, .any, .any, .any, .any, .any, .any, .any, .any, .any, .any, .any, .any, .any, .any, .any, .any, .any, .any, .any, .any, .any, .any, .any, .any, .any, .any, .any, .any, .any]
def f11_r10 : List LOp := [
 ⟨some 29, .fieldAddr 26 (.tmp 1) 1, none⟩,
 ⟨some 30, .load 24 (.tmp 29), none⟩,
 ⟨some 31, .call { callee := .builtin .len, args := #[.tmp 30], argTypes := #[24] }, none⟩,
 ⟨some 32, .move (.const (.int .i64 0)), none⟩]
def f11_r11 : List LOp := [
 ⟨some 33, .binOp .lss 3 (.tmp 32) (.tmp 31) 3, none⟩]
def f11_r12 : List LOp := [
 ⟨some 34, .move (.tmp 32), none⟩,
 ⟨some 4, .assign (.tmp 34), none⟩]
def f11_r13 : List LOp := [
 ⟨some 35, .fieldAddr 26 (.tmp 1) 1, none⟩,
 ⟨some 36, .load 24 (.tmp 35), none⟩,
 ⟨some 37, .move (.tmp 4), none⟩,
 ⟨some 38, .indexAddr 24 (.tmp 36) (.tmp 37), none⟩,
 ⟨some 39, .fieldAddr 66 (.tmp 38) 0, none⟩,
 ⟨some 40, .load 9 (.tmp 39), none⟩,
 ⟨some 41, .call { callee := .builtin .len, args := #[.tmp 40], argTypes := #[9] }, none⟩,
 ⟨some 42, .binOp .gtr 3 (.tmp 41) (.const (.int .i64 100)) 3, none⟩,
 ⟨some 43, .move (.tmp 42), none⟩,
 ⟨some 44, .fieldAddr 26 (.tmp 1) 1, some (8, false)⟩,
 ⟨some 45, .load 24 (.tmp 44), some (8, false)⟩,
 ⟨some 46, .move (.tmp 4), some (8, false)⟩,
 ⟨some 47, .indexAddr 24 (.tmp 45) (.tmp 46), some (8, false)⟩,
 ⟨some 48, .fieldAddr 66 (.tmp 47) 1, some (8, false)⟩,
 ⟨some 49, .load 40 (.tmp 48), some (8, false)⟩,
 ⟨some 50, .call { callee := .value (.func 35), args := #[.tmp 49, .const (.int .i64 60)], argTypes := #[40, 3] }, some (8, false)⟩,
 ⟨some 51, .binOp .gtr 3 (.tmp 50) (.const (.int .i64 60)) 3, some (8, false)⟩,
 ⟨some 52, .pick (.tmp 43) (.const (.bool true)) (.tmp 51), none⟩]
def f11_r14 : List LOp := [
 ⟨some 2, .assign (.const (.bool true)), none⟩]
def f11_r15 : List LOp := [
 ⟨some 53, .binOp .add 3 (.tmp 32) (.const (.int .i64 1)) 3, none⟩,
 ⟨some 32, .move (.tmp 53), none⟩]
def f11_l16 : LC := (.seq (.reg f11_r11 [] none) (.seq (.cond (.tmp 33) .skip (.exit 2)) (.seq (.block 3 (.seq (.reg f11_r12 [] none) (.seq (.reg f11_r13 [] none) (.cond (.tmp 52) (.seq (.reg f11_r14 [] none) .ret) .skip)))) (.reg f11_r15 [] none))))
def f11_i16 (t1 t31 t32 : D) : List D := [.any, t1, .any, .any, .any, .any, .any, .any, .any, .any, .any, .any, .any, .any, .any, .any, .any, .any, .any, .any, .any, .any, .any, .any, .any, .any, .any, .any, .any, .any, .any, t31, t32, .any, .any, .any, .any, .any, .any, .any, .any, .any, .any, .any, .any, .any, .any, .any, .any, .any, .any, .any, .any, .any]
def f11_r17 : List LOp := [
 ⟨some 2, .assign (.const (.bool false)), none⟩]
def f11_c : LC := (.seq (.reg f11_r0 [] none) (.seq (.seq (.reg f11_r1 [] none) (.cond (.tmp 14) (.seq (.reg f11_r2 [] none) .ret) .skip)) (.seq (.seq (.reg f11_r3 [] none) (.block 0 (.loop f11_l9))) (.seq (.seq (.reg f11_r10 [] none) (.block 2 (.loop f11_l16))) (.seq (.reg f11_r17 [] none) .ret)))))
theorem f11_lc : Tryz.f11.body.map lc = some f11_c.st := by kernel_rfl
theorem f11_res : Tryz.f11.results.toList = [.tmp 2] := by kernel_rfl
theorem f11_nt : Tryz.f11.ntmps = 54 := by kernel_rfl
theorem f11_nm : (Tryz.f11.name == "runtime.NumGoroutine") = false := by kernel_rfl
def f12_r0 : List LOp := [
 ⟨some 1, .box 26 (.tmp 0), none⟩,
 ⟨some 2, .assign (.const (.bool false)), none⟩]
def f12_r1 : List LOp := [
 ⟨some 5, .fieldAddr 26 (.tmp 1) 0, none⟩,
 ⟨some 6, .load 22 (.tmp 5), none⟩,
 ⟨some 7, .call { callee := .builtin .len, args := #[.tmp 6], argTypes := #[22] }, none⟩,
 ⟨some 8, .binOp .lss 3 (.tmp 7) (.const (.int .i64 1)) 3, none⟩,
 ⟨some 9, .move (.tmp 8), none⟩,
 ⟨some 10, .fieldAddr 26 (.tmp 1) 0, some (4, false)⟩,
 ⟨some 11, .load 22 (.tmp 10), some (4, false)⟩,
 ⟨some 12, .call { callee := .builtin .len, args := #[.tmp 11], argTypes := #[22] }, some (4, false)⟩,
 ⟨some 13, .binOp .gtr 3 (.tmp 12) (.const (.int .i64 100)) 3, some (4, false)⟩,
 ⟨some 14, .pick (.tmp 9) (.const (.bool true)) (.tmp 13), none⟩,
 ⟨some 15, .move (.tmp 14), none⟩,
 ⟨some 16, .fieldAddr 26 (.tmp 1) 1, some (10, false)⟩,
 ⟨some 17, .load 24 (.tmp 16), some (10, false)⟩,
 ⟨some 18, .call { callee := .builtin .len, args := #[.tmp 17], argTypes := #[24] }, some (10, false)⟩,
 ⟨some 19, .binOp .lss 3 (.tmp 18) (.const (.int .i64 1)) 3, some (10, false)⟩,
 ⟨some 20, .pick (.tmp 15) (.const (.bool true)) (.tmp 19), none⟩,
 ⟨some 21, .move (.tmp 20), none⟩,
 ⟨some 22, .fieldAddr 26 (.tmp 1) 1, some (16, false)⟩,
 ⟨some 23, .load 24 (.tmp 22), some (16, false)⟩,
 ⟨some 24, .call { callee := .builtin .len, args := #[.tmp 23], argTypes := #[24] }, some (16, false)⟩,
 ⟨some 25, .binOp .gtr 3 (.tmp 24) (.const (.int .i64 50)) 3, some (16, false)⟩,
 ⟨some 26, .pick (.tmp 21) (.const (.bool true)) (.tmp 25), none⟩,
 ⟨some 27, .move (.tmp 26), none⟩,
 ⟨some 28, .load 26 (.tmp 1), some (22, false)⟩,
 ⟨some 29, .call { callee := .value (.func 36), args := #[.tmp 28], argTypes := #[26] }, some (22, false)⟩,
 ⟨some 30, .call { callee := .value (.func 29), args := #[.tmp 29], argTypes := #[22] }, some (22, false)⟩,
 ⟨some 31, .unOp .not 4 (.tmp 30), some (22, false)⟩,
 ⟨some 32, .pick (.tmp 27) (.const (.bool true)) (.tmp 31), none⟩]
def f12_r2 : List LOp := [
 ⟨some 2, .assign (.const (.bool false)), none⟩]
def f12_r3 : List LOp := [
 ⟨some 3, .assign (.const (.int .i64 0)), none⟩]
def f12_r4 : List LOp := [
 ⟨some 33, .fieldAddr 26 (.tmp 1) 1, none⟩,
 ⟨some 34, .load 24 (.tmp 33), none⟩,
 ⟨some 35, .call { callee := .builtin .len, args := #[.tmp 34], argTypes := #[24] }, none⟩,
 ⟨some 36, .move (.const (.int .i64 0)), none⟩]
def f12_r5 : List LOp := [
 ⟨some 37, .binOp .lss 3 (.tmp 36) (.tmp 35) 3, none⟩]
def f12_r6 : List LOp := [
 ⟨some 38, .move (.tmp 36), none⟩,
 ⟨some 4, .assign (.tmp 38), none⟩]
def f12_r7 : List LOp := [
 ⟨some 39, .fieldAddr 26 (.tmp 1) 1, none⟩,
 ⟨some 40, .load 24 (.tmp 39), none⟩,
 ⟨some 41, .move (.tmp 4), none⟩,
 ⟨some 42, .indexAddr 24 (.tmp 40) (.tmp 41), none⟩,
 ⟨some 43, .fieldAddr 66 (.tmp 42) 1, none⟩,
 ⟨some 44, .load 40 (.tmp 43), none⟩,
 ⟨some 45, .fieldAddr 26 (.tmp 1) 0, none⟩,
 ⟨some 46, .load 22 (.tmp 45), none⟩,
 ⟨some 47, .call { callee := .builtin .len, args := #[.tmp 46], argTypes := #[22] }, none⟩,
 ⟨some 48, .fieldAddr 26 (.tmp 1) 1, none⟩,
 ⟨some 49, .load 24 (.tmp 48), none⟩,
 ⟨some 50, .call { callee := .builtin .len, args := #[.tmp 49], argTypes := #[24] }, none⟩,
 ⟨some 51, .call { callee := .value (.func 37), args := #[.tmp 44, .tmp 47, .tmp 50], argTypes := #[40, 3, 3] }, none⟩,
 ⟨some 52, .unOp .not 4 (.tmp 51), none⟩]
def f12_r8 : List LOp := [
 ⟨some 2, .assign (.const (.bool false)), none⟩]
def f12_r9 : List LOp := [
 ⟨some 53, .move (.tmp 3), none⟩,
 ⟨some 54, .fieldAddr 26 (.tmp 1) 1, none⟩,
 ⟨some 55, .load 24 (.tmp 54), none⟩,
 ⟨some 56, .move (.tmp 4), none⟩,
 ⟨some 57, .indexAddr 24 (.tmp 55) (.tmp 56), none⟩,
 ⟨some 58, .fieldAddr 66 (.tmp 57) 1, none⟩,
 ⟨some 59, .load 40 (.tmp 58), none⟩,
 ⟨some 60, .call { callee := .value (.func 34), args := #[.tmp 59], argTypes := #[40] }, none⟩,
 ⟨some 61, .call { callee := .builtin .len, args := #[.tmp 60], argTypes := #[38] }, none⟩,
 ⟨some 62, .binOp .add 3 (.tmp 53) (.tmp 61) 3, none⟩,
 ⟨some 3, .assign (.tmp 62), none⟩]
def f12_r10 : List LOp := [
 ⟨some 63, .binOp .add 3 (.tmp 36) (.const (.int .i64 1)) 3, none⟩,
 ⟨some 36, .move (.tmp 63), none⟩]
def f12_l11 : LC := (.seq (.reg f12_r5 [] none) (.seq (.cond (.tmp 37) .skip (.exit 0)) (.seq (.block 1 (.seq (.reg f12_r6 [] none) (.seq (.seq (.reg f12_r7 [] (some 12)) (.cond (.tmp 52) (.seq (.reg f12_r8 [] none) .ret) .skip)) (.reg f12_r9 [] none)))) (.reg f12_r10 [] none))))
def f12_i11 (t1 t3 t35 t36 : D) : List D := [.any, t1, .any, t3, .any, .any, .any, .any, .any, .any, .any, .any, .any, .any, .any, .any, .any, .any, .any, .any, .any, .any, .any, .any, .any, .any, .any, .any, .any, .any, .any, .any, .any, .any, .any, t35, t36, .any, .any, .any, .any, .any, .any, .any, .any, .any, .any, .any, .any, .any, .any, .any, .any, .any, .any, .any, .any, .any, .any, .any, .any, .any, .any, .any, .any, .any]
def f12_r12 : List LOp := [
 ⟨some 64, .move (.tmp 3), none⟩,
 ⟨some 65, .binOp .leq 3 (.tmp 64) (.const (.int .i64 2000)) 3, none⟩,
 ⟨some 2, .assign (.tmp 65), none⟩]
def f12_c : LC := (.seq (.reg f12_r0 [] none) (.seq (.seq (.reg f12_r1 [] none) (.cond (.tmp 32) (.seq (.reg f12_r2 [] none) .ret) .skip)) (.seq (.reg f12_r3 [] none) (.seq (.seq (.reg f12_r4 [] none) (.block 0 (.loop f12_l11))) (.seq (.reg f12_r12 [] none) .ret)))))
theorem f12_lc : Tryz.f12.body.map lc = some f12_c.st := by kernel_rfl
theorem f12_res : Tryz.f12.results.toList = [.tmp 2] := by kernel_rfl
theorem f12_nt : Tryz.f12.ntmps = 66 := by kernel_rfl
theorem f12_nm : (Tryz.f12.name == "runtime.NumGoroutine") = false := by kernel_rfl
def f13_r0 : List LOp := [
 ⟨some 1, .box 26 (.tmp 0), none⟩,
 ⟨some 2, .assign (.const (.string { data := #[] })), none⟩,
 ⟨some 3, .assign (.const (.int .i64 0)), none⟩]
def f13_r1 : List LOp := [
 ⟨some 7, .load 26 (.tmp 1), none⟩,
 ⟨some 8, .call { callee := .value (.func 28), args := #[.tmp 7], argTypes := #[26] }, none⟩,
 ⟨some 9, .unOp .not 4 (.tmp 8), none⟩]
def f13_r2 : List LOp := [
 ⟨some 2, .assign (.const (.string { data := #[] })), none⟩,
 ⟨some 3, .assign (.const (.int .i64 1)), none⟩]
def f13_r3 : List LOp := [
 ⟨some 10, .load 26 (.tmp 1), none⟩,
 ⟨some 11, .build 84 #[(1, .tmp 10)], none⟩,
 ⟨some 12, .box 84 (.tmp 11), none⟩,
 ⟨some 4, .assign (.tmp 12), none⟩]
def f13_r4 : List LOp := [
 ⟨some 13, .fieldAddr 26 (.tmp 1) 1, none⟩,
 ⟨some 14, .load 24 (.tmp 13), none⟩,
 ⟨some 15, .call { callee := .builtin .len, args := #[.tmp 14], argTypes := #[24] }, none⟩,
 ⟨some 16, .move (.const (.int .i64 0)), none⟩]
def f13_r5 : List LOp := [
 ⟨some 17, .binOp .lss 3 (.tmp 16) (.tmp 15) 3, none⟩]
def f13_r6 : List LOp := [
 ⟨some 18, .indexAddr 24 (.tmp 14) (.tmp 16), none⟩,
 ⟨some 19, .load 66 (.tmp 18), none⟩,
 ⟨some 6, .alloc 66, none⟩,
 ⟨none, .store 66 (.tmp 6) (.tmp 19), none⟩]
def f13_r7 : List LOp := [
 ⟨some 20, .move (.tmp 4), none⟩,
 ⟨some 21, .nilCheck (.tmp 20), none⟩,
 ⟨some 22, .fieldAddr 84 (.tmp 21) 0, none⟩,
 ⟨some 23, .fieldAddr 66 (.tmp 6) 0, none⟩,
 ⟨some 24, .load 9 (.tmp 23), none⟩,
 ⟨some 25, .binOp .add 9 (.tmp 24) (.const (.string { data := #[32, 61, 32] })) 9, none⟩,
 ⟨some 26, .call { callee := .value (.func 38), args := #[.tmp 22, .tmp 25], argTypes := #[82, 9] }, none⟩]
def f13_r8 : List LOp := [
 ⟨some 27, .move (.tmp 4), none⟩,
 ⟨some 28, .fieldAddr 66 (.tmp 6) 1, none⟩,
 ⟨some 29, .load 40 (.tmp 28), none⟩,
 ⟨some 30, .call { callee := .value (.func 39), args := #[.tmp 27, .tmp 29, .const (.slice none 0 0)], argTypes := #[78, 40, 80] }, none⟩]
def f13_r9 : List LOp := [
 ⟨some 31, .move (.tmp 4), none⟩,
 ⟨some 32, .nilCheck (.tmp 31), none⟩,
 ⟨some 33, .fieldAddr 84 (.tmp 32) 0, none⟩,
 ⟨some 34, .call { callee := .value (.func 40), args := #[.tmp 33, .const (.int .u8 10)], argTypes := #[82, 5] }, none⟩]
def f13_r10 : List LOp := [
 ⟨some 35, .binOp .add 3 (.tmp 16) (.const (.int .i64 1)) 3, none⟩,
 ⟨some 16, .move (.tmp 35), none⟩]
def f13_l11 : LC := (.seq (.reg f13_r5 [] none) (.seq (.cond (.tmp 17) .skip (.exit 0)) (.seq (.block 1 (.seq (.reg f13_r6 [] none) (.seq (.reg f13_r7 [] (some 6)) (.seq (.reg f13_r8 [] none) (.reg f13_r9 [] none))))) (.reg f13_r10 [] none))))
def f13_i11 (t4 t14 t15 t16 : D) : List D := [.any, .any, .any, .any, t4, .any, .any, .any, .any, .any, .any, .any, .any, .any, t14, t15, t16, .any, .any, .any, .any, .any, .any, .any, .any, .any, .any, .any, .any, .any, .any, .any, .any, .any, .any, .any, .any, .any, .any, .any, .any, .any, .any, .any, .any]
def f13_r12 : List LOp := [
 ⟨some 36, .move (.tmp 4), none⟩,
 ⟨some 37, .nilCheck (.tmp 36), none⟩,
 ⟨some 38, .fieldAddr 84 (.tmp 37) 0, none⟩,
 ⟨some 39, .call { callee := .value (.func 41), args := #[.tmp 38], argTypes := #[82] }, none⟩,
 ⟨some 40, .binOp .gtr 3 (.tmp 39) (.const (.int .i64 65536)) 3, none⟩]
def f13_r13 : List LOp := [
 ⟨some 2, .assign (.const (.string { data := #[] })), none⟩,
 ⟨some 3, .assign (.const (.int .i64 3)), none⟩]
def f13_r14 : List LOp := [
 ⟨some 41, .move (.tmp 4), none⟩,
 ⟨some 42, .nilCheck (.tmp 41), none⟩,
 ⟨some 43, .fieldAddr 84 (.tmp 42) 0, none⟩,
 ⟨some 44, .call { callee := .value (.func 42), args := #[.tmp 43], argTypes := #[82] }, none⟩,
 ⟨some 2, .assign (.tmp 44), none⟩,
 ⟨some 3, .assign (.const (.int .i64 0)), none⟩]
def f13_c : LC := (.seq (.reg f13_r0 [] none) (.seq (.seq (.reg f13_r1 [] none) (.cond (.tmp 9) (.seq (.reg f13_r2 [] none) .ret) .skip)) (.seq (.reg f13_r3 [2] none) (.seq (.seq (.reg f13_r4 [] none) (.block 0 (.loop f13_l11))) (.seq (.seq (.reg f13_r12 [] none) (.cond (.tmp 40) (.seq (.reg f13_r13 [] none) .ret) .skip)) (.seq (.reg f13_r14 [] none) .ret))))))
theorem f13_lc : Tryz.f13.body.map lc = some f13_c.st := by kernel_rfl
theorem f13_res : Tryz.f13.results.toList = [.tmp 2, .tmp 3] := by kernel_rfl
theorem f13_nt : Tryz.f13.ntmps = 45 := by kernel_rfl
theorem f13_nm : (Tryz.f13.name == "runtime.NumGoroutine") = false := by kernel_rfl
def f14_r0 : List LOp := [
 ⟨some 1, .box 40 (.tmp 0), none⟩,
 ⟨some 2, .assign (.const (.bool false)), none⟩]
def f14_r1 : List LOp := [
 ⟨some 3, .load 40 (.tmp 1), none⟩,
 ⟨some 4, .call { callee := .value (.func 35), args := #[.tmp 3, .const (.int .i64 60)], argTypes := #[40, 3] }, none⟩,
 ⟨some 5, .binOp .gtr 3 (.tmp 4) (.const (.int .i64 60)) 3, none⟩,
 ⟨some 2, .assign (.tmp 5), none⟩]
def f14_c : LC := (.seq (.reg f14_r0 [] none) (.seq (.reg f14_r1 [] none) .ret))
theorem f14_lc : Tryz.f14.body.map lc = some f14_c.st := by kernel_rfl
theorem f14_res : Tryz.f14.results.toList = [.tmp 2] := by kernel_rfl
theorem f14_nt : Tryz.f14.ntmps = 6 := by kernel_rfl
theorem f14_nm : (Tryz.f14.name == "runtime.NumGoroutine") = false := by kernel_rfl
def f15_r0 : List LOp := [
 ⟨some 2, .box 26 (.tmp 0), none⟩,
 ⟨some 3, .box 40 (.tmp 1), none⟩,
 ⟨some 4, .assign (.const (.bool false)), none⟩]
def f15_r1 : List LOp := [
 ⟨some 5, .load 26 (.tmp 2), none⟩,
 ⟨some 6, .call { callee := .value (.func 12), args := #[.tmp 5], argTypes := #[26] }, none⟩,
 ⟨some 7, .move (.tmp 6), none⟩,
 ⟨some 8, .load 40 (.tmp 3), some (2, true)⟩,
 ⟨some 9, .fieldAddr 26 (.tmp 2) 0, some (2, true)⟩,
 ⟨some 10, .load 22 (.tmp 9), some (2, true)⟩,
 ⟨some 11, .call { callee := .builtin .len, args := #[.tmp 10], argTypes := #[22] }, some (2, true)⟩,
 ⟨some 12, .fieldAddr 26 (.tmp 2) 1, some (2, true)⟩,
 ⟨some 13, .load 24 (.tmp 12), some (2, true)⟩,
 ⟨some 14, .call { callee := .builtin .len, args := #[.tmp 13], argTypes := #[24] }, some (2, true)⟩,
 ⟨some 15, .call { callee := .value (.func 37), args := #[.tmp 8, .tmp 11, .tmp 14], argTypes := #[40, 3, 3] }, some (2, true)⟩,
 ⟨some 16, .pick (.tmp 7) (.tmp 15) (.const (.bool false)), none⟩,
 ⟨some 17, .move (.tmp 16), none⟩,
 ⟨some 18, .load 40 (.tmp 3), some (12, true)⟩,
 ⟨some 19, .call { callee := .value (.func 34), args := #[.tmp 18], argTypes := #[40] }, some (12, true)⟩,
 ⟨some 20, .call { callee := .builtin .len, args := #[.tmp 19], argTypes := #[38] }, some (12, true)⟩,
 ⟨some 21, .binOp .leq 3 (.tmp 20) (.const (.int .i64 2000)) 3, some (12, true)⟩,
 ⟨some 22, .pick (.tmp 17) (.tmp 21) (.const (.bool false)), none⟩,
 ⟨some 4, .assign (.tmp 22), none⟩]
def f15_c : LC := (.seq (.reg f15_r0 [] none) (.seq (.reg f15_r1 [] none) .ret))
theorem f15_lc : Tryz.f15.body.map lc = some f15_c.st := by kernel_rfl
theorem f15_res : Tryz.f15.results.toList = [.tmp 4] := by kernel_rfl
theorem f15_nt : Tryz.f15.ntmps = 23 := by kernel_rfl
theorem f15_nm : (Tryz.f15.name == "runtime.NumGoroutine") = false := by kernel_rfl
def f16_r0 : List LOp := [
 ⟨some 2, .box 26 (.tmp 0), none⟩,
 ⟨some 3, .box 40 (.tmp 1), none⟩,
 ⟨some 4, .assign (.const (.string { data := #[] })), none⟩]
def f16_r1 : List LOp := [
 ⟨some 7, .fieldAddr 40 (.tmp 3) 0, none⟩,
 ⟨some 8, .load 5 (.tmp 7), none⟩]
def f16_r2 : List LOp := [
 ⟨some 10, .binOp .eql 5 (.tmp 8) (.const (.int .u8 1)) 5, none⟩,
 ⟨some 9, .assign (.tmp 10), none⟩]
def f16_r3 : List LOp := [
 ⟨some 4, .assign (.const (.string { data := #[91, 93] })), none⟩]
def f16_r4 : List LOp := [
 ⟨some 12, .binOp .eql 5 (.tmp 8) (.const (.int .u8 2)) 5, none⟩,
 ⟨some 11, .assign (.tmp 12), none⟩]
def f16_r5 : List LOp := [
 ⟨some 4, .assign (.const (.string { data := #[40, 41] })), none⟩]
def f16_r6 : List LOp := [
 ⟨some 14, .binOp .eql 5 (.tmp 8) (.const (.int .u8 3)) 5, none⟩,
 ⟨some 13, .assign (.tmp 14), none⟩]
def f16_r7 : List LOp := [
 ⟨some 15, .fieldAddr 26 (.tmp 2) 0, none⟩,
 ⟨some 16, .load 22 (.tmp 15), none⟩,
 ⟨some 17, .fieldAddr 40 (.tmp 3) 1, none⟩,
 ⟨some 18, .load 3 (.tmp 17), none⟩,
 ⟨some 19, .indexAddr 22 (.tmp 16) (.tmp 18), none⟩,
 ⟨some 20, .load 9 (.tmp 19), none⟩,
 ⟨some 4, .assign (.tmp 20), none⟩]
def f16_r8 : List LOp := [
 ⟨some 22, .binOp .eql 5 (.tmp 8) (.const (.int .u8 6)) 5, none⟩,
 ⟨some 21, .assign (.tmp 22), none⟩]
def f16_r9 : List LOp := [
 ⟨some 23, .fieldAddr 26 (.tmp 2) 1, none⟩,
 ⟨some 24, .load 24 (.tmp 23), none⟩,
 ⟨some 25, .fieldAddr 40 (.tmp 3) 1, none⟩,
 ⟨some 26, .load 3 (.tmp 25), none⟩,
 ⟨some 27, .indexAddr 24 (.tmp 24) (.tmp 26), none⟩,
 ⟨some 28, .fieldAddr 66 (.tmp 27) 0, none⟩,
 ⟨some 29, .load 9 (.tmp 28), none⟩,
 ⟨some 4, .assign (.tmp 29), none⟩]
def f16_r10 : List LOp := [
 ⟨some 30, .fieldAddr 40 (.tmp 3) 2, none⟩,
 ⟨some 31, .load 38 (.tmp 30), none⟩,
 ⟨some 32, .indexAddr 38 (.tmp 31) (.const (.int .i64 0)), none⟩,
 ⟨some 33, .load 40 (.tmp 32), none⟩,
 ⟨some 34, .fieldAddr 40 (.tmp 3) 2, none⟩,
 ⟨some 35, .load 38 (.tmp 34), none⟩,
 ⟨some 36, .indexAddr 38 (.tmp 35) (.const (.int .i64 1)), none⟩,
 ⟨some 37, .load 40 (.tmp 36), none⟩,
 ⟨some 5, .alloc 40, none⟩,
 ⟨some 6, .alloc 40, none⟩,
 ⟨none, .store 40 (.tmp 5) (.tmp 33), none⟩,
 ⟨none, .store 40 (.tmp 6) (.tmp 37), none⟩]
def f16_r11 : List LOp := [
 ⟨some 38, .fieldAddr 40 (.tmp 3) 0, none⟩,
 ⟨some 39, .load 5 (.tmp 38), none⟩,
 ⟨some 40, .binOp .eql 5 (.tmp 39) (.const (.int .u8 4)) 5, none⟩]
def f16_r12 : List LOp := [
 ⟨some 41, .load 26 (.tmp 2), none⟩,
 ⟨some 42, .load 40 (.tmp 5), none⟩,
 ⟨some 43, .call { callee := .value (.func 16), args := #[.tmp 41, .tmp 42], argTypes := #[26, 40] }, none⟩,
 ⟨some 44, .fieldAddr 40 (.tmp 5) 0, none⟩,
 ⟨some 45, .load 5 (.tmp 44), none⟩,
 ⟨some 46, .binOp .eql 5 (.tmp 45) (.const (.int .u8 4)) 5, none⟩,
 ⟨some 47, .move (.tmp 46), none⟩,
 ⟨some 48, .fieldAddr 40 (.tmp 5) 0, some (6, false)⟩,
 ⟨some 49, .load 5 (.tmp 48), some (6, false)⟩,
 ⟨some 50, .binOp .eql 5 (.tmp 49) (.const (.int .u8 5)) 5, some (6, false)⟩,
 ⟨some 51, .pick (.tmp 47) (.const (.bool true)) (.tmp 50), none⟩,
 ⟨some 52, .call { callee := .value (.func 43), args := #[.tmp 43, .tmp 51], argTypes := #[9, 4] }, none⟩,
 ⟨some 53, .binOp .add 9 (.tmp 52) (.const (.string { data := #[32] })) 9, none⟩,
 ⟨some 54, .load 26 (.tmp 2), none⟩,
 ⟨some 55, .load 40 (.tmp 6), none⟩,
 ⟨some 56, .call { callee := .value (.func 16), args := #[.tmp 54, .tmp 55], argTypes := #[26, 40] }, none⟩,
 ⟨some 57, .fieldAddr 40 (.tmp 6) 0, none⟩,
 ⟨some 58, .load 5 (.tmp 57), none⟩,
 ⟨some 59, .binOp .eql 5 (.tmp 58) (.const (.int .u8 5)) 5, none⟩,
 ⟨some 60, .call { callee := .value (.func 43), args := #[.tmp 56, .tmp 59], argTypes := #[9, 4] }, none⟩,
 ⟨some 61, .binOp .add 9 (.tmp 53) (.tmp 60) 9, none⟩,
 ⟨some 4, .assign (.tmp 61), none⟩]
def f16_r13 : List LOp := [
 ⟨some 62, .load 26 (.tmp 2), none⟩,
 ⟨some 63, .load 40 (.tmp 5), none⟩,
 ⟨some 64, .call { callee := .value (.func 16), args := #[.tmp 62, .tmp 63], argTypes := #[26, 40] }, none⟩,
 ⟨some 65, .fieldAddr 40 (.tmp 5) 0, none⟩,
 ⟨some 66, .load 5 (.tmp 65), none⟩,
 ⟨some 67, .binOp .eql 5 (.tmp 66) (.const (.int .u8 5)) 5, none⟩,
 ⟨some 68, .call { callee := .value (.func 43), args := #[.tmp 64, .tmp 67], argTypes := #[9, 4] }, none⟩,
 ⟨some 69, .binOp .add 9 (.tmp 68) (.const (.string { data := #[32, 124, 32] })) 9, none⟩,
 ⟨some 70, .load 26 (.tmp 2), none⟩,
 ⟨some 71, .load 40 (.tmp 6), none⟩,
 ⟨some 72, .call { callee := .value (.func 16), args := #[.tmp 70, .tmp 71], argTypes := #[26, 40] }, none⟩,
 ⟨some 73, .binOp .add 9 (.tmp 69) (.tmp 72) 9, none⟩,
 ⟨some 4, .assign (.tmp 73), none⟩]
def f16_c : LC := (.seq (.reg f16_r0 [] none) (.seq (.seq (.reg f16_r1 [] none) (.block 0 (.seq (.reg f16_r2 [] none) (.cond (.tmp 9) (.seq (.reg f16_r3 [] none) .ret) (.seq (.reg f16_r4 [] none) (.cond (.tmp 11) (.seq (.reg f16_r5 [] none) .ret) (.seq (.reg f16_r6 [] none) (.cond (.tmp 13) (.seq (.reg f16_r7 [] none) .ret) (.seq (.reg f16_r8 [] none) (.cond (.tmp 21) (.seq (.reg f16_r9 [] none) .ret) .skip)))))))))) (.seq (.rega f16_r10 [] 11) (.seq (.seq (.reg f16_r11 [] none) (.cond (.tmp 40) (.seq (.reg f16_r12 [] (some 20)) .ret) .skip)) (.seq (.reg f16_r13 [] (some 11)) .ret)))))
theorem f16_lc : Tryz.f16.body.map lc = some f16_c.st := by kernel_rfl
theorem f16_res : Tryz.f16.results.toList = [.tmp 4] := by kernel_rfl
theorem f16_nt : Tryz.f16.ntmps = 74 := by kernel_rfl
theorem f16_nm : (Tryz.f16.name == "runtime.NumGoroutine") = false := by kernel_rfl
def f17_r0 : List LOp := [
 ⟨some 1, .box 26 (.tmp 0), none⟩,
 ⟨some 2, .assign (.const (.string { data := #[] })), none⟩]
def f17_r1 : List LOp := [
 ⟨some 3, .assign (.const (.string { data := #[] })), none⟩]
def f17_r2 : List LOp := [
 ⟨some 5, .fieldAddr 26 (.tmp 1) 1, none⟩,
 ⟨some 6, .load 24 (.tmp 5), none⟩,
 ⟨some 7, .call { callee := .builtin .len, args := #[.tmp 6], argTypes := #[24] }, none⟩,
 ⟨some 8, .move (.const (.int .i64 0)), none⟩]
def f17_r3 : List LOp := [
 ⟨some 9, .binOp .lss 3 (.tmp 8) (.tmp 7) 3, none⟩]
def f17_r4 : List LOp := [
 ⟨some 10, .move (.tmp 8), none⟩,
 ⟨some 4, .assign (.tmp 10), none⟩]
def f17_r5 : List LOp := [
 ⟨some 11, .move (.tmp 3), none⟩,
 ⟨some 12, .fieldAddr 26 (.tmp 1) 1, none⟩,
 ⟨some 13, .load 24 (.tmp 12), none⟩,
 ⟨some 14, .move (.tmp 4), none⟩,
 ⟨some 15, .indexAddr 24 (.tmp 13) (.tmp 14), none⟩,
 ⟨some 16, .fieldAddr 66 (.tmp 15) 0, none⟩,
 ⟨some 17, .load 9 (.tmp 16), none⟩,
 ⟨some 18, .binOp .add 9 (.tmp 11) (.tmp 17) 9, none⟩,
 ⟨some 19, .binOp .add 9 (.tmp 18) (.const (.string { data := #[32, 61, 32] })) 9, none⟩,
 ⟨some 20, .load 26 (.tmp 1), none⟩,
 ⟨some 21, .fieldAddr 26 (.tmp 1) 1, none⟩,
 ⟨some 22, .load 24 (.tmp 21), none⟩,
 ⟨some 23, .move (.tmp 4), none⟩,
 ⟨some 24, .indexAddr 24 (.tmp 22) (.tmp 23), none⟩,
 ⟨some 25, .fieldAddr 66 (.tmp 24) 1, none⟩,
 ⟨some 26, .load 40 (.tmp 25), none⟩,
 ⟨some 27, .call { callee := .value (.func 16), args := #[.tmp 20, .tmp 26], argTypes := #[26, 40] }, none⟩,
 ⟨some 28, .binOp .add 9 (.tmp 19) (.tmp 27) 9, none⟩,
 ⟨some 29, .binOp .add 9 (.tmp 28) (.const (.string { data := #[10] })) 9, none⟩,
 ⟨some 3, .assign (.tmp 29), none⟩]
def f17_r6 : List LOp := [
 ⟨some 30, .binOp .add 3 (.tmp 8) (.const (.int .i64 1)) 3, none⟩,
 ⟨some 8, .move (.tmp 30), none⟩]
def f17_l7 : LC := (.seq (.reg f17_r3 [] none) (.seq (.cond (.tmp 9) .skip (.exit 0)) (.seq (.block 1 (.seq (.reg f17_r4 [] none) (.reg f17_r5 [] (some 19)))) (.reg f17_r6 [] none))))
def f17_i7 (t1 t3 t7 t8 : D) : List D := [.any, t1, .any, t3, .any, .any, .any, t7, t8, .any, .any, .any, .any, .any, .any, .any, .any, .any, .any, .any, .any, .any, .any, .any, .any, .any, .any, .any, .any, .any, .any, .any]
def f17_r8 : List LOp := [
 ⟨some 31, .move (.tmp 3), none⟩,
 ⟨some 2, .assign (.tmp 31), none⟩]
def f17_c : LC := (.seq (.reg f17_r0 [] none) (.seq (.reg f17_r1 [] none) (.seq (.seq (.reg f17_r2 [] none) (.block 0 (.loop f17_l7))) (.seq (.reg f17_r8 [] none) .ret))))
theorem f17_lc : Tryz.f17.body.map lc = some f17_c.st := by kernel_rfl
theorem f17_res : Tryz.f17.results.toList = [.tmp 2] := by kernel_rfl
theorem f17_nt : Tryz.f17.ntmps = 32 := by kernel_rfl
theorem f17_nm : (Tryz.f17.name == "runtime.NumGoroutine") = false := by kernel_rfl
def f18_r0 : List LOp := [
 ⟨some 2, .box 26 (.tmp 0), none⟩,
 ⟨some 4, .assign (.const (.bool false)), none⟩]
def f18_r1 : List LOp := [
 ⟨some 5, .load 26 (.tmp 2), none⟩,
 ⟨some 6, .call { callee := .value (.func 28), args := #[.tmp 5], argTypes := #[26] }, none⟩,
 ⟨some 7, .move (.tmp 6), none⟩,
 ⟨some 8, .move (.tmp 1), some (2, true)⟩,
 ⟨some 9, .makeFunc (.func 45) #[] #[.tmp 2], some (2, true)⟩,
 ⟨some 10, .call { callee := .value (.func 44), args := #[.tmp 8, .tmp 9], argTypes := #[38, 41] }, some (2, true)⟩,
 ⟨some 11, .unOp .not 4 (.tmp 10), some (2, true)⟩,
 ⟨some 12, .pick (.tmp 7) (.tmp 11) (.const (.bool false)), none⟩,
 ⟨some 4, .assign (.tmp 12), none⟩]
def f18_c : LC := (.seq (.reg f18_r0 [] none) (.seq (.reg f18_r1 [] none) .ret))
theorem f18_lc : Tryz.f18.body.map lc = some f18_c.st := by kernel_rfl
theorem f18_res : Tryz.f18.results.toList = [.tmp 4] := by kernel_rfl
theorem f18_nt : Tryz.f18.ntmps = 13 := by kernel_rfl
theorem f18_nm : (Tryz.f18.name == "runtime.NumGoroutine") = false := by kernel_rfl
def f19_r0 : List LOp := [
 ⟨some 2, .box 26 (.tmp 0), none⟩,
 ⟨some 3, .box 40 (.tmp 1), none⟩,
 ⟨some 4, .assign (.const (.string { data := #[] })), none⟩]
def f19_r1 : List LOp := [
 ⟨some 6, .load 26 (.tmp 2), none⟩,
 ⟨some 7, .load 40 (.tmp 3), none⟩,
 ⟨some 8, .buildSlice 38 1 #[(0, .tmp 7)], none⟩,
 ⟨some 9, .call { callee := .value (.func 18), args := #[.tmp 6, .tmp 8], argTypes := #[26, 38] }, none⟩,
 ⟨some 10, .unOp .not 4 (.tmp 9), none⟩]
def f19_r2 : List LOp := [
 ⟨some 4, .assign (.const (.string { data := #[] })), none⟩]
def f19_r3 : List LOp := [
 ⟨some 11, .load 26 (.tmp 2), none⟩,
 ⟨some 12, .build 84 #[(1, .tmp 11)], none⟩,
 ⟨some 13, .box 84 (.tmp 12), none⟩,
 ⟨some 5, .assign (.tmp 13), none⟩]
def f19_r4 : List LOp := [
 ⟨some 14, .move (.tmp 5), none⟩,
 ⟨some 15, .load 40 (.tmp 3), none⟩,
 ⟨some 16, .call { callee := .value (.func 39), args := #[.tmp 14, .tmp 15, .const (.slice none 0 0)], argTypes := #[78, 40, 80] }, none⟩]
def f19_r5 : List LOp := [
 ⟨some 17, .move (.tmp 5), none⟩,
 ⟨some 18, .nilCheck (.tmp 17), none⟩,
 ⟨some 19, .fieldAddr 84 (.tmp 18) 0, none⟩,
 ⟨some 20, .call { callee := .value (.func 42), args := #[.tmp 19], argTypes := #[82] }, none⟩,
 ⟨some 4, .assign (.tmp 20), none⟩]
def f19_c : LC := (.seq (.reg f19_r0 [] none) (.seq (.seq (.reg f19_r1 [] none) (.cond (.tmp 10) (.seq (.reg f19_r2 [] none) .ret) .skip)) (.seq (.reg f19_r3 [2] none) (.seq (.reg f19_r4 [] none) (.seq (.reg f19_r5 [] none) .ret)))))
theorem f19_lc : Tryz.f19.body.map lc = some f19_c.st := by kernel_rfl
theorem f19_res : Tryz.f19.results.toList = [.tmp 4] := by kernel_rfl
theorem f19_nt : Tryz.f19.ntmps = 21 := by kernel_rfl
theorem f19_nm : (Tryz.f19.name == "runtime.NumGoroutine") = false := by kernel_rfl
def f20_r0 : List LOp := [
 ⟨some 2, .assign (.const (.bool false)), none⟩]
def f20_r1 : List LOp := [
 ⟨some 3, .move (.tmp 0), none⟩,
 ⟨some 4, .call { callee := .value (.func 48), args := #[.tmp 3, .func 49], argTypes := #[37, 34] }, none⟩,
 ⟨some 5, .unOp .not 4 (.tmp 4), none⟩,
 ⟨some 2, .assign (.tmp 5), none⟩]
def f20_c : LC := (.seq (.reg f20_r0 [] none) (.seq (.reg f20_r1 [] none) .ret))
theorem f20_lc : Tryz.f20.body.map lc = some f20_c.st := by kernel_rfl
theorem f20_res : Tryz.f20.results.toList = [.tmp 2] := by kernel_rfl
theorem f20_nt : Tryz.f20.ntmps = 6 := by kernel_rfl
theorem f20_nm : (Tryz.f20.name == "runtime.NumGoroutine") = false := by kernel_rfl
def f21_r0 : List LOp := [
 ⟨some 2, .box 26 (.tmp 0), none⟩,
 ⟨some 4, .alloc 40, none⟩,
 ⟨some 5, .assign (.const (.int .i64 0)), none⟩,
 ⟨some 6, .assign (.const (.int .i64 0)), none⟩]
def f21_r1 : List LOp := [
 ⟨some 11, .load 26 (.tmp 2), none⟩,
 ⟨some 12, .call { callee := .value (.func 28), args := #[.tmp 11], argTypes := #[26] }, none⟩,
 ⟨some 13, .unOp .not 4 (.tmp 12), none⟩,
 ⟨some 10, .assign (.tmp 13), none⟩]
def f21_r2 : List LOp := [
 ⟨some 14, .build 40 #[], none⟩,
 ⟨none, .store 40 (.tmp 4) (.tmp 14), none⟩,
 ⟨some 5, .assign (.const (.int .i64 0)), none⟩,
 ⟨some 6, .assign (.const (.int .i64 1)), none⟩]
def f21_r3 : List LOp := [
 ⟨some 16, .move (.tmp 1), none⟩,
 ⟨some 17, .call { callee := .builtin .len, args := #[.tmp 16], argTypes := #[9] }, none⟩,
 ⟨some 18, .binOp .gtr 3 (.tmp 17) (.const (.int .i64 65536)) 3, none⟩,
 ⟨some 15, .assign (.tmp 18), none⟩]
def f21_r4 : List LOp := [
 ⟨some 19, .build 40 #[], none⟩,
 ⟨none, .store 40 (.tmp 4) (.tmp 19), none⟩,
 ⟨some 5, .assign (.const (.int .i64 0)), none⟩,
 ⟨some 6, .assign (.const (.int .i64 3)), none⟩]
def f21_r5 : List LOp := [
 ⟨some 21, .move (.tmp 1), none⟩,
 ⟨some 22, .fieldAddr 26 (.tmp 2) 0, none⟩,
 ⟨some 23, .load 22 (.tmp 22), none⟩,
 ⟨some 24, .fieldAddr 26 (.tmp 2) 1, none⟩,
 ⟨some 25, .load 24 (.tmp 24), none⟩,
 ⟨some 26, .call { callee := .value (.func 50), args := #[.tmp 25], argTypes := #[24] }, none⟩,
 ⟨some 27, .build 63 #[(0, .tmp 21), (2, .tmp 23), (3, .tmp 26)], none⟩,
 ⟨some 28, .box 63 (.tmp 27), none⟩,
 ⟨some 29, .call { callee := .value (.func 27), args := #[.tmp 28], argTypes := #[61] }, none⟩,
 ⟨some 20, .move (.tmp 29), none⟩,
 ⟨some 30, .extract (.tmp 20) 0, none⟩,
 ⟨some 31, .extract (.tmp 20) 1, none⟩,
 ⟨some 32, .extract (.tmp 20) 2, none⟩,
 ⟨some 7, .alloc 40, none⟩,
 ⟨none, .store 40 (.tmp 7) (.tmp 30), none⟩,
 ⟨some 8, .assign (.tmp 31), none⟩,
 ⟨some 9, .assign (.tmp 32), none⟩]
def f21_r6 : List LOp := [
 ⟨some 33, .move (.tmp 9), none⟩,
 ⟨some 34, .binOp .eql 27 (.tmp 33) (.const (.int .i64 0)) 27, none⟩,
 ⟨some 35, .move (.tmp 34), none⟩,
 ⟨some 36, .load 40 (.tmp 7), some (2, true)⟩,
 ⟨some 37, .buildSlice 38 1 #[(0, .tmp 36)], some (2, true)⟩,
 ⟨some 38, .call { callee := .value (.func 47), args := #[.tmp 37], argTypes := #[38] }, some (2, true)⟩,
 ⟨some 39, .binOp .gtr 3 (.tmp 38) (.const (.int .i64 2000)) 3, some (2, true)⟩,
 ⟨some 40, .pick (.tmp 35) (.tmp 39) (.const (.bool false)), none⟩]
def f21_r7 : List LOp := [
 ⟨some 41, .build 40 #[], none⟩,
 ⟨none, .store 40 (.tmp 4) (.tmp 41), none⟩,
 ⟨some 5, .assign (.const (.int .i64 0)), none⟩,
 ⟨some 6, .assign (.const (.int .i64 4)), none⟩]
def f21_r8 : List LOp := [
 ⟨some 42, .load 40 (.tmp 7), none⟩,
 ⟨some 43, .move (.tmp 8), none⟩,
 ⟨some 44, .move (.tmp 9), none⟩,
 ⟨none, .store 40 (.tmp 4) (.tmp 42), none⟩,
 ⟨some 5, .assign (.tmp 43), none⟩,
 ⟨some 6, .assign (.tmp 44), none⟩]
def f21_c : LC := (.seq (.reg f21_r0 [] none) (.seq (.block 0 (.seq (.reg f21_r1 [] none) (.cond (.tmp 10) (.seq (.reg f21_r2 [] none) .ret) (.seq (.reg f21_r3 [] none) (.cond (.tmp 15) (.seq (.reg f21_r4 [] none) .ret) .skip))))) (.seq (.regq f21_r5 [7] 0 (.free [[], [], [1], [], [3], [4], [0, 2, 5], [6], [7, 5], [8], [9], [9], [9], [], [13, 10, 8, 0, 1, 2, 3, 4, 5, 6, 7, 8, 9, 10, 13], [11, 14, 0, 1, 2, 3, 4, 5, 6, 7, 8, 9, 10, 11, 13, 14], [12, 15, 0, 1, 2, 3, 4, 5, 6, 7, 8, 9, 10, 11, 12, 13, 14, 15]])) (.seq (.seq (.reg f21_r6 [] none) (.cond (.tmp 40) (.seq (.reg f21_r7 [] none) .ret) .skip)) (.seq (.reg f21_r8 [] none) .ret)))))
theorem f21_lc : Tryz.f21.body.map lc = some f21_c.st := by kernel_rfl
theorem f21_res : Tryz.f21.results.toList = [.cell 4 40, .tmp 5, .tmp 6] := by kernel_rfl
theorem f21_nt : Tryz.f21.ntmps = 45 := by kernel_rfl
theorem f21_nm : (Tryz.f21.name == "runtime.NumGoroutine") = false := by kernel_rfl
def f22_r0 : List LOp := [
 ⟨some 2, .box 26 (.tmp 0), none⟩,
 ⟨some 4, .alloc 40, none⟩,
 ⟨some 5, .assign (.const (.int .i64 0)), none⟩,
 ⟨some 6, .assign (.const (.int .i64 0)), none⟩]
def f22_r1 : List LOp := [
 ⟨some 9, .build 40 #[], none⟩,
 ⟨some 7, .alloc 40, none⟩,
 ⟨none, .store 40 (.tmp 7) (.tmp 9), none⟩]
def f22_r2 : List LOp := [
 ⟨some 10, .load 26 (.tmp 2), none⟩,
 ⟨some 11, .call { callee := .value (.func 12), args := #[.tmp 10], argTypes := #[26] }, none⟩,
 ⟨some 12, .unOp .not 4 (.tmp 11), none⟩]
def f22_r3 : List LOp := [
 ⟨some 13, .load 40 (.tmp 7), none⟩,
 ⟨none, .store 40 (.tmp 4) (.tmp 13), none⟩,
 ⟨some 5, .assign (.const (.int .i64 0)), none⟩,
 ⟨some 6, .assign (.const (.int .i64 1)), none⟩]
def f22_r4 : List LOp := [
 ⟨some 14, .move (.tmp 1), none⟩,
 ⟨some 15, .call { callee := .builtin .len, args := #[.tmp 14], argTypes := #[9] }, none⟩,
 ⟨some 16, .binOp .gtr 3 (.tmp 15) (.const (.int .i64 65536)) 3, none⟩]
def f22_r5 : List LOp := [
 ⟨some 17, .load 40 (.tmp 7), none⟩,
 ⟨none, .store 40 (.tmp 4) (.tmp 17), none⟩,
 ⟨some 5, .assign (.const (.int .i64 0)), none⟩,
 ⟨some 6, .assign (.const (.int .i64 3)), none⟩]
def f22_r6 : List LOp := [
 ⟨some 18, .move (.tmp 1), none⟩,
 ⟨some 19, .fieldAddr 26 (.tmp 2) 0, none⟩,
 ⟨some 20, .load 22 (.tmp 19), none⟩,
 ⟨some 21, .load 26 (.tmp 2), none⟩,
 ⟨some 22, .call { callee := .value (.func 36), args := #[.tmp 21], argTypes := #[26] }, none⟩,
 ⟨some 23, .fieldAddr 26 (.tmp 2) 0, none⟩,
 ⟨some 24, .load 22 (.tmp 23), none⟩,
 ⟨some 25, .call { callee := .builtin .len, args := #[.tmp 24], argTypes := #[22] }, none⟩,
 ⟨some 26, .slice 22 (.tmp 22) (some (.tmp 25)) none none, none⟩,
 ⟨some 27, .call { callee := .value (.func 33), args := #[.tmp 18, .tmp 20, .tmp 26], argTypes := #[9, 22, 22] }, none⟩,
 ⟨some 8, .alloc 72, none⟩,
 ⟨none, .store 72 (.tmp 8) (.tmp 27), none⟩]
def f22_r7 : List LOp := [
 ⟨some 28, .fieldAddr 72 (.tmp 8) 2, none⟩,
 ⟨some 29, .load 3 (.tmp 28), none⟩,
 ⟨some 30, .binOp .neq 3 (.tmp 29) (.const (.int .i64 0)) 3, none⟩]
def f22_r8 : List LOp := [
 ⟨some 31, .load 40 (.tmp 7), none⟩,
 ⟨some 32, .fieldAddr 72 (.tmp 8) 1, none⟩,
 ⟨some 33, .load 3 (.tmp 32), none⟩,
 ⟨some 34, .fieldAddr 72 (.tmp 8) 2, none⟩,
 ⟨some 35, .load 3 (.tmp 34), none⟩,
 ⟨none, .store 40 (.tmp 4) (.tmp 31), none⟩,
 ⟨some 5, .assign (.tmp 33), none⟩,
 ⟨some 6, .assign (.tmp 35), none⟩]
def f22_r9 : List LOp := [
 ⟨some 36, .fieldAddr 72 (.tmp 8) 0, none⟩,
 ⟨some 37, .load 40 (.tmp 36), none⟩,
 ⟨some 38, .call { callee := .value (.func 34), args := #[.tmp 37], argTypes := #[40] }, none⟩,
 ⟨some 39, .call { callee := .builtin .len, args := #[.tmp 38], argTypes := #[38] }, none⟩,
 ⟨some 40, .binOp .gtr 3 (.tmp 39) (.const (.int .i64 2000)) 3, none⟩]
def f22_r10 : List LOp := [
 ⟨some 41, .load 40 (.tmp 7), none⟩,
 ⟨none, .store 40 (.tmp 4) (.tmp 41), none⟩,
 ⟨some 5, .assign (.const (.int .i64 0)), none⟩,
 ⟨some 6, .assign (.const (.int .i64 4)), none⟩]
def f22_r11 : List LOp := [
 ⟨some 42, .fieldAddr 72 (.tmp 8) 0, none⟩,
 ⟨some 43, .load 40 (.tmp 42), none⟩,
 ⟨none, .store 40 (.tmp 4) (.tmp 43), none⟩,
 ⟨some 5, .assign (.const (.int .i64 0)), none⟩,
 ⟨some 6, .assign (.const (.int .i64 0)), none⟩]
def f22_c : LC := (.seq (.reg f22_r0 [] none) (.seq (.reg f22_r1 [] none) (.seq (.seq (.reg f22_r2 [] none) (.cond (.tmp 12) (.seq (.reg f22_r3 [] none) .ret) .skip)) (.seq (.seq (.reg f22_r4 [] none) (.cond (.tmp 16) (.seq (.reg f22_r5 [] none) .ret) .skip)) (.seq (.rega f22_r6 [] 11) (.seq (.seq (.reg f22_r7 [] none) (.cond (.tmp 30) (.seq (.regq f22_r8 [] 0 (.free [[], [], [1], [], [3], [0, 0], [2, 5, 0, 1, 2, 5], [4, 6, 0, 1, 2, 3, 4, 5, 6]])) .ret) .skip)) (.seq (.seq (.reg f22_r9 [] none) (.cond (.tmp 40) (.seq (.reg f22_r10 [] none) .ret) .skip)) (.seq (.reg f22_r11 [] none) .ret))))))))
theorem f22_lc : Tryz.f22.body.map lc = some f22_c.st := by kernel_rfl
theorem f22_res : Tryz.f22.results.toList = [.cell 4 40, .tmp 5, .tmp 6] := by kernel_rfl
theorem f22_nt : Tryz.f22.ntmps = 44 := by kernel_rfl
theorem f22_nm : (Tryz.f22.name == "runtime.NumGoroutine") = false := by kernel_rfl
def f23_r0 : List LOp := [
 ⟨some 2, .box 40 (.tmp 0), none⟩,
 ⟨some 3, .box 40 (.tmp 1), none⟩,
 ⟨some 4, .assign (.const (.bool false)), none⟩]
def f23_r1 : List LOp := [
 ⟨some 6, .fieldAddr 40 (.tmp 2) 0, none⟩,
 ⟨some 7, .load 5 (.tmp 6), none⟩,
 ⟨some 8, .fieldAddr 40 (.tmp 3) 0, none⟩,
 ⟨some 9, .load 5 (.tmp 8), none⟩,
 ⟨some 10, .binOp .neq 5 (.tmp 7) (.tmp 9) 5, none⟩,
 ⟨some 11, .move (.tmp 10), none⟩,
 ⟨some 12, .fieldAddr 40 (.tmp 2) 1, some (5, false)⟩,
 ⟨some 13, .load 3 (.tmp 12), some (5, false)⟩,
 ⟨some 14, .fieldAddr 40 (.tmp 3) 1, some (5, false)⟩,
 ⟨some 15, .load 3 (.tmp 14), some (5, false)⟩,
 ⟨some 16, .binOp .neq 3 (.tmp 13) (.tmp 15) 3, some (5, false)⟩,
 ⟨some 17, .pick (.tmp 11) (.const (.bool true)) (.tmp 16), none⟩,
 ⟨some 18, .move (.tmp 17), none⟩,
 ⟨some 19, .fieldAddr 40 (.tmp 2) 2, some (12, false)⟩,
 ⟨some 20, .load 38 (.tmp 19), some (12, false)⟩,
 ⟨some 21, .call { callee := .builtin .len, args := #[.tmp 20], argTypes := #[38] }, some (12, false)⟩,
 ⟨some 22, .fieldAddr 40 (.tmp 3) 2, some (12, false)⟩,
 ⟨some 23, .load 38 (.tmp 22), some (12, false)⟩,
 ⟨some 24, .call { callee := .builtin .len, args := #[.tmp 23], argTypes := #[38] }, some (12, false)⟩,
 ⟨some 25, .binOp .neq 3 (.tmp 21) (.tmp 24) 3, some (12, false)⟩,
 ⟨some 26, .pick (.tmp 18) (.const (.bool true)) (.tmp 25), none⟩]
def f23_r2 : List LOp := [
 ⟨some 4, .assign (.const (.bool false)), none⟩]
def f23_r3 : List LOp := [
 ⟨some 27, .fieldAddr 40 (.tmp 2) 2, none⟩,
 ⟨some 28, .load 38 (.tmp 27), none⟩,
 ⟨some 29, .call { callee := .builtin .len, args := #[.tmp 28], argTypes := #[38] }, none⟩,
 ⟨some 30, .move (.const (.int .i64 0)), none⟩]
def f23_r4 : List LOp := [
 ⟨some 31, .binOp .lss 3 (.tmp 30) (.tmp 29) 3, none⟩]
def f23_r5 : List LOp := [
 ⟨some 32, .move (.tmp 30), none⟩,
 ⟨some 5, .assign (.tmp 32), none⟩]
def f23_r6 : List LOp := [
 ⟨some 33, .fieldAddr 40 (.tmp 2) 2, none⟩,
 ⟨some 34, .load 38 (.tmp 33), none⟩,
 ⟨some 35, .move (.tmp 5), none⟩,
 ⟨some 36, .indexAddr 38 (.tmp 34) (.tmp 35), none⟩,
 ⟨some 37, .load 40 (.tmp 36), none⟩,
 ⟨some 38, .fieldAddr 40 (.tmp 3) 2, none⟩,
 ⟨some 39, .load 38 (.tmp 38), none⟩,
 ⟨some 40, .move (.tmp 5), none⟩,
 ⟨some 41, .indexAddr 38 (.tmp 39) (.tmp 40), none⟩,
 ⟨some 42, .load 40 (.tmp 41), none⟩,
 ⟨some 43, .call { callee := .value (.func 23), args := #[.tmp 37, .tmp 42], argTypes := #[40, 40] }, none⟩,
 ⟨some 44, .unOp .not 4 (.tmp 43), none⟩]
def f23_r7 : List LOp := [
 ⟨some 4, .assign (.const (.bool false)), none⟩]
def f23_r8 : List LOp := [
 ⟨some 45, .binOp .add 3 (.tmp 30) (.const (.int .i64 1)) 3, none⟩,
 ⟨some 30, .move (.tmp 45), none⟩]
def f23_l9 : LC := (.seq (.reg f23_r4 [] none) (.seq (.cond (.tmp 31) .skip (.exit 0)) (.seq (.block 1 (.seq (.reg f23_r5 [] none) (.seq (.reg f23_r6 [] (some 10)) (.cond (.tmp 44) (.seq (.reg f23_r7 [] none) .ret) .skip)))) (.reg f23_r8 [] none))))
def f23_i9 (t2 t3 t29 t30 : D) : List D := [.any, .any, t2, t3, .any, .any, .any, .any, .any, .any, .any, .any, .any, .any, .any, .any, .any, .any, .any, .any, .any, .any, .any, .any, .any, .any, .any, .any, .any, t29, t30, .any, .any, .any, .any, .any, .any, .any, .any, .any, .any, .any, .any, .any, .any, .any]
def f23_r10 : List LOp := [
 ⟨some 4, .assign (.const (.bool true)), none⟩]
def f23_c : LC := (.seq (.reg f23_r0 [] none) (.seq (.seq (.reg f23_r1 [] none) (.cond (.tmp 26) (.seq (.reg f23_r2 [] none) .ret) .skip)) (.seq (.seq (.reg f23_r3 [] none) (.block 0 (.loop f23_l9))) (.seq (.reg f23_r10 [] none) .ret))))
theorem f23_lc : Tryz.f23.body.map lc = some f23_c.st := by kernel_rfl
theorem f23_res : Tryz.f23.results.toList = [.tmp 4] := by kernel_rfl
theorem f23_nt : Tryz.f23.ntmps = 46 := by kernel_rfl
theorem f23_nm : (Tryz.f23.name == "runtime.NumGoroutine") = false := by kernel_rfl
def f24_r0 : List LOp := [
 ⟨some 2, .assign (.const (.bool false)), none⟩]
def f24_r1 : List LOp := [
 ⟨some 3, .move (.tmp 0), none⟩,
 ⟨some 4, .call { callee := .value (.func 52), args := #[.tmp 3], argTypes := #[22] }, none⟩,
 ⟨some 5, .call { callee := .value (.func 51), args := #[.tmp 4], argTypes := #[100] }, none⟩,
 ⟨some 0, .assign (.tmp 5), none⟩]
def f24_r2 : List LOp := [
 ⟨some 6, .move (.tmp 0), none⟩,
 ⟨some 7, .call { callee := .value (.func 53), args := #[.tmp 6], argTypes := #[22] }, none⟩,
 ⟨some 8, .move (.tmp 7), none⟩,
 ⟨some 9, .move (.tmp 0), some (2, true)⟩,
 ⟨some 10, .call { callee := .value (.func 26), args := #[.tmp 9], argTypes := #[22] }, some (2, true)⟩,
 ⟨some 11, .call { callee := .value (.func 54), args := #[.tmp 10], argTypes := #[22] }, some (2, true)⟩,
 ⟨some 12, .call { callee := .builtin .len, args := #[.tmp 11], argTypes := #[22] }, some (2, true)⟩,
 ⟨some 13, .move (.tmp 0), some (2, true)⟩,
 ⟨some 14, .call { callee := .builtin .len, args := #[.tmp 13], argTypes := #[22] }, some (2, true)⟩,
 ⟨some 15, .binOp .eql 3 (.tmp 12) (.tmp 14) 3, some (2, true)⟩,
 ⟨some 16, .pick (.tmp 8) (.tmp 15) (.const (.bool false)), none⟩,
 ⟨some 2, .assign (.tmp 16), none⟩]
def f24_c : LC := (.seq (.reg f24_r0 [] none) (.seq (.reg f24_r1 [] none) (.seq (.reg f24_r2 [] none) .ret)))
theorem f24_lc : Tryz.f24.body.map lc = some f24_c.st := by kernel_rfl
theorem f24_res : Tryz.f24.results.toList = [.tmp 2] := by kernel_rfl
theorem f24_nt : Tryz.f24.ntmps = 17 := by kernel_rfl
theorem f24_nm : (Tryz.f24.name == "runtime.NumGoroutine") = false := by kernel_rfl
def f25_r0 : List LOp := [
 ⟨some 2, .box 9 (.tmp 0), none⟩,
 ⟨some 4, .alloc 55, none⟩,
 ⟨some 5, .alloc 3, none⟩,
 ⟨some 6, .alloc 27, none⟩]
def f25_r1 : List LOp := [
 ⟨some 7, .alloc 55, none⟩]
def f25_r2 : List LOp := [
 ⟨some 16, .move (.tmp 1), none⟩,
 ⟨some 17, .call { callee := .value (.func 26), args := #[.tmp 16], argTypes := #[22] }, none⟩,
 ⟨some 8, .alloc 22, none⟩,
 ⟨none, .store 22 (.tmp 8) (.tmp 17), none⟩]
def f25_r3 : List LOp := [
 ⟨some 9, .alloc 3, none⟩,
 ⟨none, .store 3 (.tmp 9) (.const (.int .i64 0)), none⟩]
def f25_r4 : List LOp := [
 ⟨some 18, .load 9 (.tmp 2), none⟩,
 ⟨some 19, .call { callee := .value (.func 55), args := #[.tmp 18], argTypes := #[9] }, none⟩]
def f25_r5 : List LOp := [
 ⟨some 10, .assign (.tmp 20), none⟩]
def f25_r6 : List LOp := [
 ⟨some 22, .move (.tmp 10), none⟩,
 ⟨some 23, .call { callee := .value (.func 56), args := #[.tmp 22, .const (.string { data := #[10] })], argTypes := #[9, 9] }, none⟩,
 ⟨some 21, .move (.tmp 23), none⟩,
 ⟨some 24, .extract (.tmp 21) 0, none⟩,
 ⟨some 25, .extract (.tmp 21) 1, none⟩,
 ⟨some 11, .assign (.tmp 24), none⟩,
 ⟨some 12, .assign (.tmp 25), none⟩]
def f25_r7 : List LOp := [
 ⟨some 27, .move (.tmp 11), none⟩,
 ⟨some 28, .call { callee := .value (.func 57), args := #[.tmp 27, .const (.string { data := #[32, 61, 32] })], argTypes := #[9, 9] }, none⟩,
 ⟨some 26, .move (.tmp 28), none⟩,
 ⟨some 29, .extract (.tmp 26) 0, none⟩,
 ⟨some 30, .extract (.tmp 26) 1, none⟩,
 ⟨some 31, .extract (.tmp 26) 2, none⟩,
 ⟨some 13, .assign (.tmp 29), none⟩,
 ⟨some 14, .assign (.tmp 30), none⟩,
 ⟨some 15, .assign (.tmp 31), none⟩]
def f25_r8 : List LOp := [
 ⟨some 33, .move (.tmp 12), none⟩,
 ⟨some 34, .unOp .not 4 (.tmp 33), none⟩,
 ⟨some 32, .assign (.tmp 34), none⟩]
def f25_r9 : List LOp := [
 ⟨some 35, .load 9 (.tmp 2), none⟩,
 ⟨some 36, .call { callee := .builtin .len, args := #[.tmp 35], argTypes := #[9] }, none⟩,
 ⟨none, .store 55 (.tmp 4) (.const (.slice none 0 0)), none⟩,
 ⟨none, .store 3 (.tmp 5) (.tmp 36), none⟩,
 ⟨none, .store 27 (.tmp 6) (.const (.int .i64 2)), none⟩]
def f25_r10 : List LOp := [
 ⟨some 38, .load 55 (.tmp 7), none⟩,
 ⟨some 39, .call { callee := .builtin .len, args := #[.tmp 38], argTypes := #[55] }, none⟩,
 ⟨some 40, .binOp .geq 3 (.tmp 39) (.const (.int .i64 50)) 3, none⟩,
 ⟨some 37, .assign (.tmp 40), none⟩]
def f25_r11 : List LOp := [
 ⟨some 41, .load 3 (.tmp 9), none⟩,
 ⟨none, .store 55 (.tmp 4) (.const (.slice none 0 0)), none⟩,
 ⟨none, .store 3 (.tmp 5) (.tmp 41), none⟩,
 ⟨none, .store 27 (.tmp 6) (.const (.int .i64 4)), none⟩]
def f25_r12 : List LOp := [
 ⟨some 43, .move (.tmp 15), none⟩,
 ⟨some 44, .unOp .not 4 (.tmp 43), none⟩,
 ⟨some 45, .move (.tmp 44), none⟩,
 ⟨some 46, .move (.tmp 13), some (2, false)⟩,
 ⟨some 47, .buildSlice 22 1 #[(0, .tmp 46)], some (2, false)⟩,
 ⟨some 48, .call { callee := .value (.func 53), args := #[.tmp 47], argTypes := #[22] }, some (2, false)⟩,
 ⟨some 49, .unOp .not 4 (.tmp 48), some (2, false)⟩,
 ⟨some 50, .pick (.tmp 45) (.const (.bool true)) (.tmp 49), none⟩,
 ⟨some 51, .move (.tmp 50), none⟩,
 ⟨some 52, .load 22 (.tmp 8), some (8, false)⟩,
 ⟨some 53, .move (.tmp 13), some (8, false)⟩,
 ⟨some 54, .call { callee := .value (.func 58), args := #[.tmp 52, .tmp 53], argTypes := #[22, 9] }, some (8, false)⟩,
 ⟨some 55, .pick (.tmp 51) (.const (.bool true)) (.tmp 54), none⟩,
 ⟨some 42, .assign (.tmp 55), none⟩]
def f25_r13 : List LOp := [
 ⟨some 56, .load 3 (.tmp 9), none⟩,
 ⟨none, .store 55 (.tmp 4) (.const (.slice none 0 0)), none⟩,
 ⟨none, .store 3 (.tmp 5) (.tmp 56), none⟩,
 ⟨none, .store 27 (.tmp 6) (.const (.int .i64 2)), none⟩]
def f25_r14 : List LOp := [
 ⟨some 57, .load 22 (.tmp 8), none⟩,
 ⟨some 58, .move (.tmp 13), none⟩,
 ⟨some 59, .buildSlice 22 1 #[(0, .tmp 58)], none⟩,
 ⟨some 60, .call { callee := .builtin .append, args := #[.tmp 57, .tmp 59], argTypes := #[22, 22] }, none⟩,
 ⟨none, .store 22 (.tmp 8) (.tmp 60), none⟩]
def f25_r15 : List LOp := [
 ⟨some 61, .load 55 (.tmp 7), none⟩,
 ⟨some 62, .load 3 (.tmp 9), none⟩,
 ⟨some 63, .move (.tmp 13), none⟩,
 ⟨some 64, .move (.tmp 14), none⟩,
 ⟨some 65, .build 60 #[(0, .tmp 62), (1, .tmp 63), (2, .tmp 64)], none⟩,
 ⟨some 66, .buildSlice 55 1 #[(0, .tmp 65)], none⟩,
 ⟨some 67, .call { callee := .builtin .append, args := #[.tmp 61, .tmp 66], argTypes := #[55, 55] }, none⟩,
 ⟨none, .store 55 (.tmp 7) (.tmp 67), none⟩]
def f25_r16 : List LOp := [
 ⟨some 68, .load 3 (.tmp 9), none⟩,
 ⟨some 69, .move (.tmp 10), none⟩,
 ⟨some 70, .call { callee := .builtin .len, args := #[.tmp 69], argTypes := #[9] }, none⟩,
 ⟨some 71, .binOp .add 3 (.tmp 68) (.tmp 70) 3, none⟩,
 ⟨none, .store 3 (.tmp 9) (.tmp 71), none⟩]
def f25_a17 : LC := (.reg f25_r5 [] none)
def f25_b17 : LC := (.block 1 (.seq (.reg f25_r6 [] none) (.seq (.reg f25_r7 [] none) (.seq (.block 2 (.seq (.reg f25_r8 [] none) (.cond (.tmp 32) (.seq (.regt f25_r9 [] 0 (.both (.op 0 (.both (.op 1 (.op 2 (.op 3 (.op 4 .done)))) (.op 2 (.op 1 (.op 3 (.op 4 .done)))))) (.op 2 (.op 0 (.op 1 (.op 3 (.op 4 .done))))))) .ret) (.seq (.reg f25_r10 [] none) (.cond (.tmp 37) (.seq (.regt f25_r11 [] 0 (.both (.op 0 (.op 1 (.op 2 (.op 3 .done)))) (.op 1 (.op 0 (.op 2 (.op 3 .done)))))) .ret) (.seq (.reg f25_r12 [] none) (.cond (.tmp 42) (.seq (.regt f25_r13 [] 0 (.both (.op 0 (.op 1 (.op 2 (.op 3 .done)))) (.op 1 (.op 0 (.op 2 (.op 3 .done)))))) .ret) .skip))))))) (.seq (.reg f25_r14 [] none) (.seq (.reg f25_r15 [] none) (.reg f25_r16 [] none)))))))
def f25_r18 : List LOp := [
 ⟨some 72, .load 55 (.tmp 7), none⟩,
 ⟨some 73, .call { callee := .builtin .len, args := #[.tmp 72], argTypes := #[55] }, none⟩,
 ⟨some 74, .binOp .eql 3 (.tmp 73) (.const (.int .i64 0)) 3, none⟩]
def f25_r19 : List LOp := [
 ⟨none, .store 55 (.tmp 4) (.const (.slice none 0 0)), none⟩,
 ⟨none, .store 3 (.tmp 5) (.const (.int .i64 0)), none⟩,
 ⟨none, .store 27 (.tmp 6) (.const (.int .i64 2)), none⟩]
def f25_r20 : List LOp := [
 ⟨some 75, .load 55 (.tmp 7), none⟩,
 ⟨none, .store 55 (.tmp 4) (.tmp 75), none⟩,
 ⟨none, .store 3 (.tmp 5) (.const (.int .i64 0)), none⟩,
 ⟨none, .store 27 (.tmp 6) (.const (.int .i64 0)), none⟩]
def f25_c : LC := (.seq (.reg f25_r0 [] none) (.seq (.reg f25_r1 [] none) (.seq (.reg f25_r2 [] none) (.seq (.reg f25_r3 [] none) (.seq (.seq (.reg f25_r4 [] none) (.block 0 (.rfun (.tmp 19) [20] f25_a17 f25_b17))) (.seq (.seq (.reg f25_r18 [] none) (.cond (.tmp 74) (.seq (.reg f25_r19 [] none) .ret) .skip)) (.seq (.reg f25_r20 [] none) .ret)))))))
theorem f25_lc : Tryz.f25.body.map lc = some f25_c.st := by kernel_rfl
theorem f25_res : Tryz.f25.results.toList = [.cell 4 55, .cell 5 3, .cell 6 27] := by kernel_rfl
theorem f25_nt : Tryz.f25.ntmps = 76 := by kernel_rfl
theorem f25_nm : (Tryz.f25.name == "runtime.NumGoroutine") = false := by kernel_rfl
def f26_r0 : List LOp := [
 ⟨some 2, .assign (.const (.slice none 0 0)), none⟩]
def f26_r1 : List LOp := [
 ⟨some 3, .move (.tmp 0), none⟩,
 ⟨some 4, .binOp .eql 22 (.tmp 3) (.const (.slice none 0 0)) 22, none⟩]
def f26_r2 : List LOp := [
 ⟨some 2, .assign (.const (.slice none 0 0)), none⟩]
def f26_r3 : List LOp := [
 ⟨some 5, .buildSlice 22 0 #[], none⟩,
 ⟨some 6, .move (.tmp 0), none⟩,
 ⟨some 7, .call { callee := .builtin .append, args := #[.tmp 5, .tmp 6], argTypes := #[22, 22] }, none⟩,
 ⟨some 2, .assign (.tmp 7), none⟩]
def f26_c : LC := (.seq (.reg f26_r0 [] none) (.seq (.seq (.reg f26_r1 [] none) (.cond (.tmp 4) (.seq (.reg f26_r2 [] none) .ret) .skip)) (.seq (.reg f26_r3 [0] none) .ret)))
theorem f26_lc : Tryz.f26.body.map lc = some f26_c.st := by kernel_rfl
theorem f26_res : Tryz.f26.results.toList = [.tmp 2] := by kernel_rfl
theorem f26_nt : Tryz.f26.ntmps = 8 := by kernel_rfl
theorem f26_nm : (Tryz.f26.name == "runtime.NumGoroutine") = false := by kernel_rfl
def f27_r0 : List LOp := [
 ⟨some 2, .alloc 40, none⟩,
 ⟨some 3, .alloc 3, none⟩,
 ⟨some 4, .alloc 27, none⟩]
def f27_r1 : List LOp := [
 ⟨some 5, .makeFunc (.func 59) #[] #[.tmp 2, .tmp 3, .tmp 4], none⟩,
 ⟨none, .defer { callee := .value (.tmp 5), args := #[], argTypes := #[] }, none⟩]
def f27_r2 : List LOp := [
 ⟨some 6, .move (.tmp 0), none⟩,
 ⟨some 7, .call { callee := .value (.func 60), args := #[.tmp 6], argTypes := #[61] }, none⟩,
 ⟨none, .store 40 (.tmp 2) (.tmp 7), none⟩]
def f27_r3 : List LOp := [
 ⟨some 8, .move (.tmp 0), none⟩,
 ⟨some 9, .call { callee := .value (.func 61), args := #[.tmp 8], argTypes := #[61] }, none⟩]
def f27_r4 : List LOp := [
 ⟨some 10, .move (.tmp 0), none⟩,
 ⟨some 11, .nilCheck (.tmp 10), none⟩,
 ⟨some 12, .fieldAddr 63 (.tmp 11) 1, none⟩,
 ⟨some 13, .load 3 (.tmp 12), none⟩,
 ⟨some 14, .move (.tmp 0), none⟩,
 ⟨some 15, .nilCheck (.tmp 14), none⟩,
 ⟨some 16, .fieldAddr 63 (.tmp 15) 0, none⟩,
 ⟨some 17, .load 9 (.tmp 16), none⟩,
 ⟨some 18, .call { callee := .builtin .len, args := #[.tmp 17], argTypes := #[9] }, none⟩,
 ⟨some 19, .binOp .lss 3 (.tmp 13) (.tmp 18) 3, none⟩]
def f27_r5 : List LOp := [
 ⟨some 20, .move (.tmp 0), none⟩,
 ⟨some 21, .move (.tmp 0), none⟩,
 ⟨some 22, .nilCheck (.tmp 21), none⟩,
 ⟨some 23, .fieldAddr 63 (.tmp 22) 1, none⟩,
 ⟨some 24, .load 3 (.tmp 23), none⟩,
 ⟨some 25, .call { callee := .value (.func 62), args := #[.tmp 20, .tmp 24, .const (.int .i64 2)], argTypes := #[61, 3, 27] }, none⟩]
def f27_r6 : List LOp := [
 ⟨some 26, .load 40 (.tmp 2), none⟩,
 ⟨none, .store 40 (.tmp 2) (.tmp 26), none⟩,
 ⟨none, .store 3 (.tmp 3) (.const (.int .i64 0)), none⟩,
 ⟨none, .store 27 (.tmp 4) (.const (.int .i64 0)), none⟩]
def f27_c : LC := (.seq (.reg f27_r0 [] none) (.seq (.reg f27_r1 [] none) (.seq (.reg f27_r2 [] none) (.seq (.reg f27_r3 [] none) (.seq (.seq (.reg f27_r4 [] (some 9)) (.cond (.tmp 19) (.reg f27_r5 [] none) .skip)) (.seq (.reg f27_r6 [] none) .ret))))))
theorem f27_lc : Tryz.f27.body.map lc = some f27_c.st := by kernel_rfl
theorem f27_res : Tryz.f27.results.toList = [.cell 2 40, .cell 3 3, .cell 4 27] := by kernel_rfl
theorem f27_nt : Tryz.f27.ntmps = 27 := by kernel_rfl
theorem f27_nm : (Tryz.f27.name == "runtime.NumGoroutine") = false := by kernel_rfl
def f28_r0 : List LOp := [
 ⟨some 1, .box 26 (.tmp 0), none⟩,
 ⟨some 2, .assign (.const (.bool false)), none⟩]
def f28_r1 : List LOp := [
 ⟨some 8, .fieldAddr 26 (.tmp 1) 0, none⟩,
 ⟨some 9, .load 22 (.tmp 8), none⟩,
 ⟨some 10, .call { callee := .builtin .len, args := #[.tmp 9], argTypes := #[22] }, none⟩,
 ⟨some 11, .fieldAddr 26 (.tmp 1) 1, none⟩,
 ⟨some 12, .load 24 (.tmp 11), none⟩,
 ⟨some 13, .call { callee := .builtin .len, args := #[.tmp 12], argTypes := #[24] }, none⟩,
 ⟨some 3, .assign (.tmp 10), none⟩,
 ⟨some 4, .assign (.tmp 13), none⟩]
def f28_r2 : List LOp := [
 ⟨some 14, .move (.tmp 3), none⟩,
 ⟨some 15, .binOp .lss 3 (.tmp 14) (.const (.int .i64 1)) 3, none⟩,
 ⟨some 16, .move (.tmp 15), none⟩,
 ⟨some 17, .move (.tmp 3), some (2, false)⟩,
 ⟨some 18, .binOp .gtr 3 (.tmp 17) (.const (.int .i64 100)) 3, some (2, false)⟩,
 ⟨some 19, .pick (.tmp 16) (.const (.bool true)) (.tmp 18), none⟩,
 ⟨some 20, .move (.tmp 19), none⟩,
 ⟨some 21, .move (.tmp 4), some (6, false)⟩,
 ⟨some 22, .binOp .lss 3 (.tmp 21) (.const (.int .i64 1)) 3, some (6, false)⟩,
 ⟨some 23, .pick (.tmp 20) (.const (.bool true)) (.tmp 22), none⟩,
 ⟨some 24, .move (.tmp 23), none⟩,
 ⟨some 25, .move (.tmp 4), some (10, false)⟩,
 ⟨some 26, .binOp .gtr 3 (.tmp 25) (.const (.int .i64 50)) 3, some (10, false)⟩,
 ⟨some 27, .pick (.tmp 24) (.const (.bool true)) (.tmp 26), none⟩,
 ⟨some 28, .move (.tmp 27), none⟩,
 ⟨some 29, .fieldAddr 26 (.tmp 1) 0, some (14, false)⟩,
 ⟨some 30, .load 22 (.tmp 29), some (14, false)⟩,
 ⟨some 31, .fieldAddr 26 (.tmp 1) 1, some (14, false)⟩,
 ⟨some 32, .load 24 (.tmp 31), some (14, false)⟩,
 ⟨some 33, .call { callee := .value (.func 50), args := #[.tmp 32], argTypes := #[24] }, some (14, false)⟩,
 ⟨some 34, .buildSlice 125 2 #[(0, .tmp 30), (1, .tmp 33)], some (14, false)⟩,
 ⟨some 35, .call { callee := .value (.func 63), args := #[.tmp 34], argTypes := #[125] }, some (14, false)⟩,
 ⟨some 36, .call { callee := .value (.func 24), args := #[.tmp 35], argTypes := #[22] }, some (14, false)⟩,
 ⟨some 37, .unOp .not 4 (.tmp 36), some (14, false)⟩,
 ⟨some 38, .pick (.tmp 28) (.const (.bool true)) (.tmp 37), none⟩]
def f28_r3 : List LOp := [
 ⟨some 2, .assign (.const (.bool false)), none⟩]
def f28_r4 : List LOp := [
 ⟨some 5, .assign (.const (.int .i64 0)), none⟩]
def f28_r5 : List LOp := [
 ⟨some 39, .fieldAddr 26 (.tmp 1) 1, none⟩,
 ⟨some 40, .load 24 (.tmp 39), none⟩,
 ⟨some 41, .call { callee := .builtin .len, args := #[.tmp 40], argTypes := #[24] }, none⟩,
 ⟨some 42, .move (.const (.int .i64 0)), none⟩]
def f28_r6 : List LOp := [
 ⟨some 43, .binOp .lss 3 (.tmp 42) (.tmp 41) 3, none⟩]
def f28_r7 : List LOp := [
 ⟨some 44, .indexAddr 24 (.tmp 40) (.tmp 42), none⟩,
 ⟨some 45, .load 66 (.tmp 44), none⟩,
 ⟨some 7, .alloc 66, none⟩,
 ⟨none, .store 66 (.tmp 7) (.tmp 45), none⟩]
def f28_r8 : List LOp := [
 ⟨some 46, .load 26 (.tmp 1), none⟩,
 ⟨some 47, .fieldAddr 66 (.tmp 7) 1, none⟩,
 ⟨some 48, .load 40 (.tmp 47), none⟩,
 ⟨some 49, .call { callee := .value (.func 46), args := #[.tmp 46, .tmp 48], argTypes := #[26, 40] }, none⟩,
 ⟨some 50, .unOp .not 4 (.tmp 49), none⟩]
def f28_r9 : List LOp := [
 ⟨some 2, .assign (.const (.bool false)), none⟩]
def f28_r10 : List LOp := [
 ⟨some 51, .move (.tmp 5), none⟩,
 ⟨some 52, .fieldAddr 66 (.tmp 7) 1, none⟩,
 ⟨some 53, .load 40 (.tmp 52), none⟩,
 ⟨some 54, .buildSlice 38 1 #[(0, .tmp 53)], none⟩,
 ⟨some 55, .call { callee := .value (.func 47), args := #[.tmp 54], argTypes := #[38] }, none⟩,
 ⟨some 56, .binOp .add 3 (.tmp 51) (.tmp 55) 3, none⟩,
 ⟨some 5, .assign (.tmp 56), none⟩]
def f28_r11 : List LOp := [
 ⟨some 57, .binOp .add 3 (.tmp 42) (.const (.int .i64 1)) 3, none⟩,
 ⟨some 42, .move (.tmp 57), none⟩]
def f28_l12 : LC := (.seq (.reg f28_r6 [] none) (.seq (.cond (.tmp 43) .skip (.exit 0)) (.seq (.block 1 (.seq (.reg f28_r7 [] none) (.seq (.seq (.reg f28_r8 [] none) (.cond (.tmp 50) (.seq (.reg f28_r9 [] none) .ret) .skip)) (.reg f28_r10 [] none)))) (.reg f28_r11 [] none))))
def f28_i12 (t1 t5 t40 t41 t42 : D) : List D := [.any, t1, .any, .any, .any, t5, .any, .any, .any, .any, .any, .any, .any, .any, .any, .any, .any, .any, .any, .any, .any, .any, .any, .any, .any, .any, .any, .any, .any, .any, .any, .any, .any, .any, .any, .any, .any, .any, .any, .any, t40, t41, t42, .any, .any, .any, .any, .any, .any, .any, .any, .any, .any, .any, .any, .any, .any, .any, .any, .any]
def f28_r13 : List LOp := [
 ⟨some 58, .move (.tmp 5), none⟩,
 ⟨some 59, .binOp .leq 3 (.tmp 58) (.const (.int .i64 2000)) 3, none⟩,
 ⟨some 2, .assign (.tmp 59), none⟩]
def f28_c : LC := (.seq (.reg f28_r0 [] none) (.seq (.regp f28_r1 [] [] 7) (.seq (.seq (.reg f28_r2 [] (some 20)) (.cond (.tmp 38) (.seq (.reg f28_r3 [] none) .ret) .skip)) (.seq (.reg f28_r4 [] none) (.seq (.seq (.reg f28_r5 [] none) (.block 0 (.loop f28_l12))) (.seq (.reg f28_r13 [] none) .ret))))))
theorem f28_lc : Tryz.f28.body.map lc = some f28_c.st := by kernel_rfl
theorem f28_res : Tryz.f28.results.toList = [.tmp 2] := by kernel_rfl
theorem f28_nt : Tryz.f28.ntmps = 60 := by kernel_rfl
theorem f28_nm : (Tryz.f28.name == "runtime.NumGoroutine") = false := by kernel_rfl
def f29_r0 : List LOp := [
 ⟨some 2, .assign (.const (.bool false)), none⟩]
def f29_r1 : List LOp := [
 ⟨some 4, .move (.tmp 0), none⟩,
 ⟨some 5, .call { callee := .builtin .len, args := #[.tmp 4], argTypes := #[22] }, none⟩,
 ⟨some 6, .move (.const (.int .i64 0)), none⟩]
def f29_r2 : List LOp := [
 ⟨some 7, .binOp .lss 3 (.tmp 6) (.tmp 5) 3, none⟩]
def f29_r3 : List LOp := [
 ⟨some 8, .move (.tmp 6), none⟩,
 ⟨some 3, .assign (.tmp 8), none⟩]
def f29_r4 : List LOp := [
 ⟨some 9, .move (.tmp 0), none⟩,
 ⟨some 10, .move (.tmp 3), none⟩,
 ⟨some 11, .indexAddr 22 (.tmp 9) (.tmp 10), none⟩,
 ⟨some 12, .load 9 (.tmp 11), none⟩,
 ⟨some 13, .call { callee := .value (.func 64), args := #[.tmp 12], argTypes := #[9] }, none⟩,
 ⟨some 14, .unOp .not 4 (.tmp 13), none⟩,
 ⟨some 15, .move (.tmp 14), none⟩,
 ⟨some 16, .move (.tmp 0), some (6, false)⟩,
 ⟨some 17, .move (.tmp 3), some (6, false)⟩,
 ⟨some 18, .slice 22 (.tmp 16) none (some (.tmp 17)) none, some (6, false)⟩,
 ⟨some 19, .move (.tmp 0), some (6, false)⟩,
 ⟨some 20, .move (.tmp 3), some (6, false)⟩,
 ⟨some 21, .indexAddr 22 (.tmp 19) (.tmp 20), some (6, false)⟩,
 ⟨some 22, .load 9 (.tmp 21), some (6, false)⟩,
 ⟨some 23, .call { callee := .value (.func 32), args := #[.tmp 18, .tmp 22], argTypes := #[22, 9] }, some (6, false)⟩,
 ⟨some 24, .pick (.tmp 15) (.const (.bool true)) (.tmp 23), none⟩]
def f29_r5 : List LOp := [
 ⟨some 2, .assign (.const (.bool false)), none⟩]
def f29_r6 : List LOp := [
 ⟨some 25, .binOp .add 3 (.tmp 6) (.const (.int .i64 1)) 3, none⟩,
 ⟨some 6, .move (.tmp 25), none⟩]
def f29_l7 : LC := (.seq (.reg f29_r2 [] none) (.seq (.cond (.tmp 7) .skip (.exit 0)) (.seq (.block 1 (.seq (.reg f29_r3 [] none) (.seq (.reg f29_r4 [] (some 14)) (.cond (.tmp 24) (.seq (.reg f29_r5 [] none) .ret) .skip)))) (.reg f29_r6 [] none))))
def f29_i7 (t0 t5 t6 : D) : List D := [t0, .any, .any, .any, .any, t5, t6, .any, .any, .any, .any, .any, .any, .any, .any, .any, .any, .any, .any, .any, .any, .any, .any, .any, .any, .any]
def f29_r8 : List LOp := [
 ⟨some 2, .assign (.const (.bool true)), none⟩]
def f29_c : LC := (.seq (.reg f29_r0 [] none) (.seq (.seq (.reg f29_r1 [] none) (.block 0 (.loop f29_l7))) (.seq (.reg f29_r8 [] none) .ret)))
theorem f29_lc : Tryz.f29.body.map lc = some f29_c.st := by kernel_rfl
theorem f29_res : Tryz.f29.results.toList = [.tmp 2] := by kernel_rfl
theorem f29_nt : Tryz.f29.ntmps = 26 := by kernel_rfl
theorem f29_nm : (Tryz.f29.name == "runtime.NumGoroutine") = false := by kernel_rfl
def f32_r0 : List LOp := [
 ⟨some 4, .assign (.const (.bool false)), none⟩]
def f32_r1 : List LOp := [
 ⟨some 6, .move (.tmp 0), none⟩,
 ⟨some 7, .call { callee := .builtin .len, args := #[.tmp 6], argTypes := #[22] }, none⟩,
 ⟨some 8, .move (.const (.int .i64 0)), none⟩]
def f32_r2 : List LOp := [
 ⟨some 9, .binOp .lss 3 (.tmp 8) (.tmp 7) 3, none⟩]
def f32_r3 : List LOp := [
 ⟨some 10, .move (.tmp 8), none⟩,
 ⟨some 5, .assign (.tmp 10), none⟩]
def f32_r4 : List LOp := [
 ⟨some 11, .move (.tmp 0), none⟩,
 ⟨some 12, .move (.tmp 5), none⟩,
 ⟨some 13, .indexAddr 22 (.tmp 11) (.tmp 12), none⟩,
 ⟨some 14, .load 9 (.tmp 13), none⟩,
 ⟨some 15, .move (.tmp 1), none⟩,
 ⟨some 16, .binOp .eql 9 (.tmp 14) (.tmp 15) 9, none⟩]
def f32_r5 : List LOp := [
 ⟨some 4, .assign (.const (.bool true)), none⟩]
def f32_r6 : List LOp := [
 ⟨some 17, .binOp .add 3 (.tmp 8) (.const (.int .i64 1)) 3, none⟩,
 ⟨some 8, .move (.tmp 17), none⟩]
def f32_l7 : LC := (.seq (.reg f32_r2 [] none) (.seq (.cond (.tmp 9) .skip (.exit 0)) (.seq (.block 1 (.seq (.reg f32_r3 [] none) (.seq (.reg f32_r4 [] none) (.cond (.tmp 16) (.seq (.reg f32_r5 [] none) .ret) .skip)))) (.reg f32_r6 [] none))))
def f32_i7 (t0 t1 t7 t8 : D) : List D := [t0, t1, .any, .any, .any, .any, .any, t7, t8, .any, .any, .any, .any, .any, .any, .any, .any, .any]
def f32_r8 : List LOp := [
 ⟨some 4, .assign (.const (.bool false)), none⟩]
def f32_c : LC := (.seq (.reg f32_r0 [] none) (.seq (.seq (.reg f32_r1 [] none) (.block 0 (.loop f32_l7))) (.seq (.reg f32_r8 [] none) .ret)))
theorem f32_lc : Tryz.f32.body.map lc = some f32_c.st := by kernel_rfl
theorem f32_res : Tryz.f32.results.toList = [.tmp 4] := by kernel_rfl
theorem f32_nt : Tryz.f32.ntmps = 18 := by kernel_rfl
theorem f32_nm : (Tryz.f32.name == "runtime.NumGoroutine") = false := by kernel_rfl
def f33_r0 : List LOp := [
 ⟨some 6, .alloc 72, none⟩]
def f33_r1 : List LOp := [
 ⟨some 9, .move (.tmp 0), none⟩,
 ⟨some 10, .move (.tmp 1), none⟩,
 ⟨some 11, .move (.tmp 2), none⟩,
 ⟨some 12, .call { callee := .value (.func 65), args := #[.tmp 9, .const (.int .i64 0), .tmp 10, .tmp 11], argTypes := #[9, 3, 22, 22] }, none⟩,
 ⟨some 7, .alloc 72, none⟩,
 ⟨none, .store 72 (.tmp 7) (.tmp 12), none⟩]
def f33_r2 : List LOp := [
 ⟨some 13, .fieldAddr 72 (.tmp 7) 2, none⟩,
 ⟨some 14, .load 3 (.tmp 13), none⟩,
 ⟨some 15, .binOp .neq 3 (.tmp 14) (.const (.int .i64 0)) 3, none⟩]
def f33_r3 : List LOp := [
 ⟨some 16, .load 72 (.tmp 7), none⟩,
 ⟨none, .store 72 (.tmp 6) (.tmp 16), none⟩]
def f33_r4 : List LOp := [
 ⟨some 17, .move (.tmp 0), none⟩,
 ⟨some 18, .fieldAddr 72 (.tmp 7) 1, none⟩,
 ⟨some 19, .load 3 (.tmp 18), none⟩,
 ⟨some 20, .call { callee := .value (.func 66), args := #[.tmp 17, .tmp 19], argTypes := #[9, 3] }, none⟩,
 ⟨some 8, .assign (.tmp 20), none⟩]
def f33_r5 : List LOp := [
 ⟨some 21, .move (.tmp 8), none⟩,
 ⟨some 22, .move (.tmp 0), none⟩,
 ⟨some 23, .call { callee := .builtin .len, args := #[.tmp 22], argTypes := #[9] }, none⟩,
 ⟨some 24, .binOp .lss 3 (.tmp 21) (.tmp 23) 3, none⟩]
def f33_r6 : List LOp := [
 ⟨some 25, .move (.tmp 8), none⟩,
 ⟨some 26, .build 72 #[(1, .tmp 25), (2, .const (.int .i64 2))], none⟩,
 ⟨none, .store 72 (.tmp 6) (.tmp 26), none⟩]
def f33_r7 : List LOp := [
 ⟨some 27, .fieldAddr 72 (.tmp 7) 0, none⟩,
 ⟨some 28, .load 40 (.tmp 27), none⟩,
 ⟨some 29, .build 72 #[(0, .tmp 28)], none⟩,
 ⟨none, .store 72 (.tmp 6) (.tmp 29), none⟩]
def f33_c : LC := (.seq (.reg f33_r0 [] none) (.seq (.reg f33_r1 [] none) (.seq (.seq (.reg f33_r2 [] none) (.cond (.tmp 15) (.seq (.reg f33_r3 [] none) .ret) .skip)) (.seq (.reg f33_r4 [] none) (.seq (.seq (.reg f33_r5 [] none) (.cond (.tmp 24) (.seq (.reg f33_r6 [] none) .ret) .skip)) (.seq (.reg f33_r7 [] none) .ret))))))
theorem f33_lc : Tryz.f33.body.map lc = some f33_c.st := by kernel_rfl
theorem f33_res : Tryz.f33.results.toList = [.cell 6 72] := by kernel_rfl
theorem f33_nt : Tryz.f33.ntmps = 30 := by kernel_rfl
theorem f33_nm : (Tryz.f33.name == "runtime.NumGoroutine") = false := by kernel_rfl
def f34_r0 : List LOp := [
 ⟨some 1, .box 40 (.tmp 0), none⟩,
 ⟨some 2, .assign (.const (.slice none 0 0)), none⟩]
def f34_r1 : List LOp := [
 ⟨some 5, .load 40 (.tmp 1), none⟩,
 ⟨some 6, .buildSlice 38 1 #[(0, .tmp 5)], none⟩,
 ⟨some 3, .assign (.tmp 6), none⟩]
def f34_r2 : List LOp := [
 ⟨some 7, .fieldAddr 40 (.tmp 1) 2, none⟩,
 ⟨some 8, .load 38 (.tmp 7), none⟩,
 ⟨some 9, .call { callee := .builtin .len, args := #[.tmp 8], argTypes := #[38] }, none⟩,
 ⟨some 10, .move (.const (.int .i64 0)), none⟩]
def f34_r3 : List LOp := [
 ⟨some 11, .binOp .lss 3 (.tmp 10) (.tmp 9) 3, none⟩]
def f34_r4 : List LOp := [
 ⟨some 12, .move (.tmp 10), none⟩,
 ⟨some 4, .assign (.tmp 12), none⟩]
def f34_r5 : List LOp := [
 ⟨some 13, .move (.tmp 3), none⟩,
 ⟨some 14, .fieldAddr 40 (.tmp 1) 2, none⟩,
 ⟨some 15, .load 38 (.tmp 14), none⟩,
 ⟨some 16, .move (.tmp 4), none⟩,
 ⟨some 17, .indexAddr 38 (.tmp 15) (.tmp 16), none⟩,
 ⟨some 18, .load 40 (.tmp 17), none⟩,
 ⟨some 19, .call { callee := .value (.func 34), args := #[.tmp 18], argTypes := #[40] }, none⟩,
 ⟨some 20, .call { callee := .builtin .append, args := #[.tmp 13, .tmp 19], argTypes := #[38, 38] }, none⟩,
 ⟨some 3, .assign (.tmp 20), none⟩]
def f34_r6 : List LOp := [
 ⟨some 21, .binOp .add 3 (.tmp 10) (.const (.int .i64 1)) 3, none⟩,
 ⟨some 10, .move (.tmp 21), none⟩]
def f34_l7 : LC := (.seq (.reg f34_r3 [] none) (.seq (.cond (.tmp 11) .skip (.exit 0)) (.seq (.block 1 (.seq (.reg f34_r4 [] none) (.reg f34_r5 [] none))) (.reg f34_r6 [] none))))
def f34_i7 (t1 t3 t9 t10 : D) : List D := [.any, t1, .any, t3, .any, .any, .any, .any, .any, t9, t10, .any, .any, .any, .any, .any, .any, .any, .any, .any, .any, .any, .any]
def f34_r8 : List LOp := [
 ⟨some 22, .move (.tmp 3), none⟩,
 ⟨some 2, .assign (.tmp 22), none⟩]
def f34_c : LC := (.seq (.reg f34_r0 [] none) (.seq (.reg f34_r1 [1] none) (.seq (.seq (.reg f34_r2 [] none) (.block 0 (.loop f34_l7))) (.seq (.reg f34_r8 [] none) .ret))))
theorem f34_lc : Tryz.f34.body.map lc = some f34_c.st := by kernel_rfl
theorem f34_res : Tryz.f34.results.toList = [.tmp 2] := by kernel_rfl
theorem f34_nt : Tryz.f34.ntmps = 23 := by kernel_rfl
theorem f34_nm : (Tryz.f34.name == "runtime.NumGoroutine") = false := by kernel_rfl
def f35_r0 : List LOp := [
 ⟨some 2, .box 40 (.tmp 0), none⟩,
 ⟨some 4, .assign (.const (.int .i64 0)), none⟩]
def f35_r1 : List LOp := [
 ⟨some 5, .assign (.const (.int .i64 1)), none⟩]
def f35_r2 : List LOp := [
 ⟨some 7, .fieldAddr 40 (.tmp 2) 2, none⟩,
 ⟨some 8, .load 38 (.tmp 7), none⟩,
 ⟨some 9, .call { callee := .builtin .len, args := #[.tmp 8], argTypes := #[38] }, none⟩,
 ⟨some 10, .move (.const (.int .i64 0)), none⟩]
def f35_r3 : List LOp := [
 ⟨some 11, .binOp .lss 3 (.tmp 10) (.tmp 9) 3, none⟩]
def f35_r4 : List LOp := [
 ⟨some 12, .move (.tmp 10), none⟩,
 ⟨some 6, .assign (.tmp 12), none⟩]
def f35_r5 : List LOp := [
 ⟨some 13, .move (.tmp 5), none⟩,
 ⟨some 14, .move (.tmp 1), none⟩,
 ⟨some 15, .binOp .gtr 3 (.tmp 13) (.tmp 14) 3, none⟩]
def f35_r6 : List LOp := [
 ⟨some 16, .move (.tmp 5), none⟩,
 ⟨some 4, .assign (.tmp 16), none⟩]
def f35_r7 : List LOp := [
 ⟨some 17, .move (.tmp 5), none⟩,
 ⟨some 18, .fieldAddr 40 (.tmp 2) 2, none⟩,
 ⟨some 19, .load 38 (.tmp 18), none⟩,
 ⟨some 20, .move (.tmp 6), none⟩,
 ⟨some 21, .indexAddr 38 (.tmp 19) (.tmp 20), none⟩,
 ⟨some 22, .load 40 (.tmp 21), none⟩,
 ⟨some 23, .move (.tmp 1), none⟩,
 ⟨some 24, .call { callee := .value (.func 35), args := #[.tmp 22, .tmp 23], argTypes := #[40, 3] }, none⟩,
 ⟨some 25, .binOp .add 3 (.tmp 17) (.tmp 24) 3, none⟩,
 ⟨some 5, .assign (.tmp 25), none⟩]
def f35_r8 : List LOp := [
 ⟨some 26, .binOp .add 3 (.tmp 10) (.const (.int .i64 1)) 3, none⟩,
 ⟨some 10, .move (.tmp 26), none⟩]
def f35_l9 : LC := (.seq (.reg f35_r3 [] none) (.seq (.cond (.tmp 11) .skip (.exit 0)) (.seq (.block 1 (.seq (.reg f35_r4 [] none) (.seq (.seq (.reg f35_r5 [] none) (.cond (.tmp 15) (.seq (.reg f35_r6 [] none) .ret) .skip)) (.reg f35_r7 [] none)))) (.reg f35_r8 [] none))))
def f35_i9 (t1 t2 t5 t9 t10 : D) : List D := [.any, t1, t2, .any, .any, t5, .any, .any, .any, t9, t10, .any, .any, .any, .any, .any, .any, .any, .any, .any, .any, .any, .any, .any, .any, .any, .any, .any]
def f35_r10 : List LOp := [
 ⟨some 27, .move (.tmp 5), none⟩,
 ⟨some 4, .assign (.tmp 27), none⟩]
def f35_c : LC := (.seq (.reg f35_r0 [] none) (.seq (.reg f35_r1 [] none) (.seq (.seq (.reg f35_r2 [] none) (.block 0 (.loop f35_l9))) (.seq (.reg f35_r10 [] none) .ret))))
theorem f35_lc : Tryz.f35.body.map lc = some f35_c.st := by kernel_rfl
theorem f35_res : Tryz.f35.results.toList = [.tmp 4] := by kernel_rfl
theorem f35_nt : Tryz.f35.ntmps = 28 := by kernel_rfl
theorem f35_nm : (Tryz.f35.name == "runtime.NumGoroutine") = false := by kernel_rfl
def f36_r0 : List LOp := [
 ⟨some 1, .box 26 (.tmp 0), none⟩,
 ⟨some 2, .assign (.const (.slice none 0 0)), none⟩]
def f36_r1 : List LOp := [
 ⟨some 5, .buildSlice 22 0 #[], none⟩,
 ⟨some 6, .fieldAddr 26 (.tmp 1) 0, none⟩,
 ⟨some 7, .load 22 (.tmp 6), none⟩,
 ⟨some 8, .call { callee := .builtin .append, args := #[.tmp 5, .tmp 7], argTypes := #[22, 22] }, none⟩,
 ⟨some 3, .assign (.tmp 8), none⟩]
def f36_r2 : List LOp := [
 ⟨some 9, .fieldAddr 26 (.tmp 1) 1, none⟩,
 ⟨some 10, .load 24 (.tmp 9), none⟩,
 ⟨some 11, .call { callee := .builtin .len, args := #[.tmp 10], argTypes := #[24] }, none⟩,
 ⟨some 12, .move (.const (.int .i64 0)), none⟩]
def f36_r3 : List LOp := [
 ⟨some 13, .binOp .lss 3 (.tmp 12) (.tmp 11) 3, none⟩]
def f36_r4 : List LOp := [
 ⟨some 14, .move (.tmp 12), none⟩,
 ⟨some 4, .assign (.tmp 14), none⟩]
def f36_r5 : List LOp := [
 ⟨some 15, .move (.tmp 3), none⟩,
 ⟨some 16, .fieldAddr 26 (.tmp 1) 1, none⟩,
 ⟨some 17, .load 24 (.tmp 16), none⟩,
 ⟨some 18, .move (.tmp 4), none⟩,
 ⟨some 19, .indexAddr 24 (.tmp 17) (.tmp 18), none⟩,
 ⟨some 20, .fieldAddr 66 (.tmp 19) 0, none⟩,
 ⟨some 21, .load 9 (.tmp 20), none⟩,
 ⟨some 22, .buildSlice 22 1 #[(0, .tmp 21)], none⟩,
 ⟨some 23, .call { callee := .builtin .append, args := #[.tmp 15, .tmp 22], argTypes := #[22, 22] }, none⟩,
 ⟨some 3, .assign (.tmp 23), none⟩]
def f36_r6 : List LOp := [
 ⟨some 24, .binOp .add 3 (.tmp 12) (.const (.int .i64 1)) 3, none⟩,
 ⟨some 12, .move (.tmp 24), none⟩]
def f36_l7 : LC := (.seq (.reg f36_r3 [] none) (.seq (.cond (.tmp 13) .skip (.exit 0)) (.seq (.block 1 (.seq (.reg f36_r4 [] none) (.reg f36_r5 [] none))) (.reg f36_r6 [] none))))
def f36_i7 (t1 t3 t11 t12 : D) : List D := [.any, t1, .any, t3, .any, .any, .any, .any, .any, .any, .any, t11, t12, .any, .any, .any, .any, .any, .any, .any, .any, .any, .any, .any, .any, .any]
def f36_r8 : List LOp := [
 ⟨some 25, .move (.tmp 3), none⟩,
 ⟨some 2, .assign (.tmp 25), none⟩]
def f36_c : LC := (.seq (.reg f36_r0 [] none) (.seq (.reg f36_r1 [0] none) (.seq (.seq (.reg f36_r2 [] none) (.block 0 (.loop f36_l7))) (.seq (.reg f36_r8 [] none) .ret))))
theorem f36_lc : Tryz.f36.body.map lc = some f36_c.st := by kernel_rfl
theorem f36_res : Tryz.f36.results.toList = [.tmp 2] := by kernel_rfl
theorem f36_nt : Tryz.f36.ntmps = 26 := by kernel_rfl
theorem f36_nm : (Tryz.f36.name == "runtime.NumGoroutine") = false := by kernel_rfl
def f37_r0 : List LOp := [
 ⟨some 3, .box 40 (.tmp 0), none⟩,
 ⟨some 6, .assign (.const (.bool false)), none⟩]
def f37_r1 : List LOp := [
 ⟨some 10, .load 40 (.tmp 3), none⟩,
 ⟨some 11, .call { callee := .value (.func 34), args := #[.tmp 10], argTypes := #[40] }, none⟩,
 ⟨some 7, .assign (.tmp 11), none⟩]
def f37_r2 : List LOp := [
 ⟨some 12, .move (.tmp 7), none⟩,
 ⟨some 13, .call { callee := .builtin .len, args := #[.tmp 12], argTypes := #[38] }, none⟩,
 ⟨some 14, .move (.const (.int .i64 0)), none⟩]
def f37_r3 : List LOp := [
 ⟨some 15, .binOp .lss 3 (.tmp 14) (.tmp 13) 3, none⟩]
def f37_r4 : List LOp := [
 ⟨some 16, .move (.tmp 14), none⟩,
 ⟨some 8, .assign (.tmp 16), none⟩]
def f37_r5 : List LOp := [
 ⟨some 17, .move (.tmp 7), none⟩,
 ⟨some 18, .move (.tmp 8), none⟩,
 ⟨some 19, .indexAddr 38 (.tmp 17) (.tmp 18), none⟩,
 ⟨some 20, .fieldAddr 40 (.tmp 19) 0, none⟩,
 ⟨some 21, .load 5 (.tmp 20), none⟩,
 ⟨some 22, .binOp .lss 5 (.tmp 21) (.const (.int .u8 1)) 5, none⟩,
 ⟨some 23, .move (.tmp 22), none⟩,
 ⟨some 24, .move (.tmp 7), some (6, false)⟩,
 ⟨some 25, .move (.tmp 8), some (6, false)⟩,
 ⟨some 26, .indexAddr 38 (.tmp 24) (.tmp 25), some (6, false)⟩,
 ⟨some 27, .fieldAddr 40 (.tmp 26) 0, some (6, false)⟩,
 ⟨some 28, .load 5 (.tmp 27), some (6, false)⟩,
 ⟨some 29, .binOp .gtr 5 (.tmp 28) (.const (.int .u8 6)) 5, some (6, false)⟩,
 ⟨some 30, .pick (.tmp 23) (.const (.bool true)) (.tmp 29), none⟩]
def f37_r6 : List LOp := [
 ⟨some 6, .assign (.const (.bool false)), none⟩]
def f37_r7 : List LOp := [
 ⟨some 31, .move (.tmp 7), none⟩,
 ⟨some 32, .move (.tmp 8), none⟩,
 ⟨some 33, .indexAddr 38 (.tmp 31) (.tmp 32), none⟩,
 ⟨some 34, .fieldAddr 40 (.tmp 33) 2, none⟩,
 ⟨some 35, .load 38 (.tmp 34), none⟩,
 ⟨some 36, .call { callee := .builtin .len, args := #[.tmp 35], argTypes := #[38] }, none⟩,
 ⟨some 37, .buildSlice 67 6 #[(0, .const (.int .i64 0)), (1, .const (.int .i64 0)), (2, .const (.int .i64 0)), (3, .const (.int .i64 2)), (4, .const (.int .i64 2)), (5, .const (.int .i64 0))], none⟩,
 ⟨some 38, .move (.tmp 7), none⟩,
 ⟨some 39, .move (.tmp 8), none⟩,
 ⟨some 40, .indexAddr 38 (.tmp 38) (.tmp 39), none⟩,
 ⟨some 41, .fieldAddr 40 (.tmp 40) 0, none⟩,
 ⟨some 42, .load 5 (.tmp 41), none⟩,
 ⟨some 43, .binOp .sub 5 (.tmp 42) (.const (.int .u8 1)) 5, none⟩,
 ⟨some 44, .indexAddr 67 (.tmp 37) (.tmp 43), none⟩,
 ⟨some 45, .load 3 (.tmp 44), none⟩,
 ⟨some 46, .binOp .neq 3 (.tmp 36) (.tmp 45) 3, none⟩]
def f37_r8 : List LOp := [
 ⟨some 6, .assign (.const (.bool false)), none⟩]
def f37_r9 : List LOp := [
 ⟨some 47, .move (.tmp 1), none⟩,
 ⟨some 48, .move (.tmp 2), none⟩,
 ⟨some 49, .buildSlice 67 6 #[(0, .const (.int .i64 1)), (1, .const (.int .i64 1)), (2, .tmp 47), (3, .const (.int .i64 1)), (4, .const (.int .i64 1)), (5, .tmp 48)], none⟩,
 ⟨some 50, .move (.tmp 7), none⟩,
 ⟨some 51, .move (.tmp 8), none⟩,
 ⟨some 52, .indexAddr 38 (.tmp 50) (.tmp 51), none⟩,
 ⟨some 53, .fieldAddr 40 (.tmp 52) 0, none⟩,
 ⟨some 54, .load 5 (.tmp 53), none⟩,
 ⟨some 55, .binOp .sub 5 (.tmp 54) (.const (.int .u8 1)) 5, none⟩,
 ⟨some 56, .indexAddr 67 (.tmp 49) (.tmp 55), none⟩,
 ⟨some 57, .load 3 (.tmp 56), none⟩,
 ⟨some 9, .assign (.tmp 57), none⟩]
def f37_r10 : List LOp := [
 ⟨some 58, .move (.tmp 7), none⟩,
 ⟨some 59, .move (.tmp 8), none⟩,
 ⟨some 60, .indexAddr 38 (.tmp 58) (.tmp 59), none⟩,
 ⟨some 61, .fieldAddr 40 (.tmp 60) 1, none⟩,
 ⟨some 62, .load 3 (.tmp 61), none⟩,
 ⟨some 63, .binOp .lss 3 (.tmp 62) (.const (.int .i64 0)) 3, none⟩,
 ⟨some 64, .move (.tmp 63), none⟩,
 ⟨some 65, .move (.tmp 7), some (6, false)⟩,
 ⟨some 66, .move (.tmp 8), some (6, false)⟩,
 ⟨some 67, .indexAddr 38 (.tmp 65) (.tmp 66), some (6, false)⟩,
 ⟨some 68, .fieldAddr 40 (.tmp 67) 1, some (6, false)⟩,
 ⟨some 69, .load 3 (.tmp 68), some (6, false)⟩,
 ⟨some 70, .move (.tmp 9), some (6, false)⟩,
 ⟨some 71, .binOp .geq 3 (.tmp 69) (.tmp 70) 3, some (6, false)⟩,
 ⟨some 72, .pick (.tmp 64) (.const (.bool true)) (.tmp 71), none⟩]
def f37_r11 : List LOp := [
 ⟨some 6, .assign (.const (.bool false)), none⟩]
def f37_r12 : List LOp := [
 ⟨some 73, .binOp .add 3 (.tmp 14) (.const (.int .i64 1)) 3, none⟩,
 ⟨some 14, .move (.tmp 73), none⟩]
def f37_l13 : LC := (.seq (.reg f37_r3 [] none) (.seq (.cond (.tmp 15) .skip (.exit 0)) (.seq (.block 1 (.seq (.reg f37_r4 [] none) (.seq (.seq (.reg f37_r5 [] none) (.cond (.tmp 30) (.seq (.reg f37_r6 [] none) .ret) .skip)) (.seq (.seq (.reg f37_r7 [] (some 16)) (.cond (.tmp 46) (.seq (.reg f37_r8 [] none) .ret) .skip)) (.seq (.reg f37_r9 [] none) (.seq (.reg f37_r10 [] none) (.cond (.tmp 72) (.seq (.reg f37_r11 [] none) .ret) .skip))))))) (.reg f37_r12 [] none))))
def f37_i13 (t1 t2 t7 t13 t14 : D) : List D := [.any, t1, t2, .any, .any, .any, .any, t7, .any, .any, .any, .any, .any, t13, t14, .any, .any, .any, .any, .any, .any, .any, .any, .any, .any, .any, .any, .any, .any, .any, .any, .any, .any, .any, .any, .any, .any, .any, .any, .any, .any, .any, .any, .any, .any, .any, .any, .any, .any, .any, .any, .any, .any, .any, .any, .any, .any, .any, .any, .any, .any, .any, .any, .any, .any, .any, .any, .any, .any, .any, .any, .any, .any, .any]
def f37_r14 : List LOp := [
 ⟨some 6, .assign (.const (.bool true)), none⟩]
def f37_c : LC := (.seq (.reg f37_r0 [] none) (.seq (.reg f37_r1 [] none) (.seq (.seq (.reg f37_r2 [] none) (.block 0 (.loop f37_l13))) (.seq (.reg f37_r14 [] none) .ret))))
theorem f37_lc : Tryz.f37.body.map lc = some f37_c.st := by kernel_rfl
theorem f37_res : Tryz.f37.results.toList = [.tmp 6] := by kernel_rfl
theorem f37_nt : Tryz.f37.ntmps = 74 := by kernel_rfl
theorem f37_nm : (Tryz.f37.name == "runtime.NumGoroutine") = false := by kernel_rfl
def f38_r0 : List LOp := [
 ⟨some 4, .assign (.const (.int .i64 0)), none⟩,
 ⟨some 5, .assign (.const .nilIface), none⟩]
def f38_r1 : List LOp := [
 ⟨some 6, .move (.tmp 0), none⟩,
 ⟨some 7, .call { callee := .value (.func 67), args := #[.tmp 6], argTypes := #[79] }, none⟩]
def f38_r2 : List LOp := [
 ⟨some 8, .move (.tmp 0), none⟩,
 ⟨some 9, .move (.tmp 0), none⟩,
 ⟨some 10, .nilCheck (.tmp 9), none⟩,
 ⟨some 11, .fieldAddr 82 (.tmp 10) 1, none⟩,
 ⟨some 12, .load 80 (.tmp 11), none⟩,
 ⟨some 13, .move (.tmp 1), none⟩,
 ⟨some 14, .call { callee := .builtin .append, args := #[.tmp 12, .tmp 13], argTypes := #[80, 9] }, none⟩,
 ⟨some 15, .nilCheck (.tmp 8), none⟩,
 ⟨some 16, .fieldAddr 82 (.tmp 15) 1, none⟩,
 ⟨none, .store 80 (.tmp 16) (.tmp 14), none⟩]
def f38_r3 : List LOp := [
 ⟨some 17, .move (.tmp 1), none⟩,
 ⟨some 18, .call { callee := .builtin .len, args := #[.tmp 17], argTypes := #[9] }, none⟩,
 ⟨some 4, .assign (.tmp 18), none⟩,
 ⟨some 5, .assign (.const .nilIface), none⟩]
def f38_c : LC := (.seq (.reg f38_r0 [] none) (.seq (.reg f38_r1 [] none) (.seq (.reg f38_r2 [] none) (.seq (.reg f38_r3 [] none) .ret))))
theorem f38_lc : Tryz.f38.body.map lc = some f38_c.st := by kernel_rfl
theorem f38_res : Tryz.f38.results.toList = [.tmp 4, .tmp 5] := by kernel_rfl
theorem f38_nt : Tryz.f38.ntmps = 19 := by kernel_rfl
theorem f38_nm : (Tryz.f38.name == "runtime.NumGoroutine") = false := by kernel_rfl
attribute [go_sem] f4_r0 f4_r1 f4_r2 f4_r3 f4_r4 f4_r5 f4_c f5_r0 f5_r1 f5_r2 f5_r3 f5_r4 f5_r5 f5_r6 f5_r7 f5_r8 f5_r9 f5_r10 f5_r11 f5_r12 f5_r13 f5_r14 f5_r15 f5_r16 f5_r17 f5_r18 f5_r19 f5_r20 f5_r21 f5_r22 f5_l23 f5_i23 f5_r24 f5_c f6_r0 f6_r1 f6_r2 f6_r3 f6_r4 f6_r5 f6_r6 f6_r7 f6_r8 f6_r9 f6_r10 f6_c f7_r0 f7_r1 f7_r2 f7_r3 f7_c f8_r0 f8_r1 f8_r2 f8_r3 f8_r4 f8_r5 f8_r6 f8_r7 f8_r8 f8_r9 f8_r10 f8_r11 f8_r12 f8_r13 f8_r14 f8_l15 f8_i15 f8_r16 f8_r17 f8_r18 f8_r19 f8_r20 f8_r21 f8_r22 f8_r23 f8_l24 f8_i24 f8_r25 f8_r26 f8_r27 f8_c f10_r0 f10_r1 f10_r2 f10_r3 f10_r4 f10_r5 f10_r6 f10_r7 f10_r8 f10_l9 f10_i9 f10_r10 f10_r11 f10_r12 f10_r13 f10_r14 f10_r15 f10_l16 f10_i16 f10_r17 f10_c f11_r0 f11_r1 f11_r2 f11_r3 f11_r4 f11_r5 f11_r6 f11_r7 f11_r8 f11_l9 f11_i9 f11_r10 f11_r11 f11_r12 f11_r13 f11_r14 f11_r15 f11_l16 f11_i16 f11_r17 f11_c f12_r0 f12_r1 f12_r2 f12_r3 f12_r4 f12_r5 f12_r6 f12_r7 f12_r8 f12_r9 f12_r10 f12_l11 f12_i11 f12_r12 f12_c f13_r0 f13_r1 f13_r2 f13_r3 f13_r4 f13_r5 f13_r6 f13_r7 f13_r8 f13_r9 f13_r10 f13_l11 f13_i11 f13_r12 f13_r13 f13_r14 f13_c f14_r0 f14_r1 f14_c f15_r0 f15_r1 f15_c f16_r0 f16_r1 f16_r2 f16_r3 f16_r4 f16_r5 f16_r6 f16_r7 f16_r8 f16_r9 f16_r10 f16_r11 f16_r12 f16_r13 f16_c f17_r0 f17_r1 f17_r2 f17_r3 f17_r4 f17_r5 f17_r6 f17_l7 f17_i7 f17_r8 f17_c f18_r0 f18_r1 f18_c f19_r0 f19_r1 f19_r2 f19_r3 f19_r4 f19_r5 f19_c f20_r0 f20_r1 f20_c f21_r0 f21_r1 f21_r2 f21_r3 f21_r4 f21_r5 f21_r6 f21_r7 f21_r8 f21_c f22_r0 f22_r1 f22_r2 f22_r3 f22_r4 f22_r5 f22_r6 f22_r7 f22_r8 f22_r9 f22_r10 f22_r11 f22_c f23_r0 f23_r1 f23_r2 f23_r3 f23_r4 f23_r5 f23_r6 f23_r7 f23_r8 f23_l9 f23_i9 f23_r10 f23_c f24_r0 f24_r1 f24_r2 f24_c f25_r0 f25_r1 f25_r2 f25_r3 f25_r4 f25_r5 f25_r6 f25_r7 f25_r8 f25_r9 f25_r10 f25_r11 f25_r12 f25_r13 f25_r14 f25_r15 f25_r16 f25_a17 f25_b17 f25_r18 f25_r19 f25_r20 f25_c f26_r0 f26_r1 f26_r2 f26_r3 f26_c f27_r0 f27_r1 f27_r2 f27_r3 f27_r4 f27_r5 f27_r6 f27_c f28_r0 f28_r1 f28_r2 f28_r3 f28_r4 f28_r5 f28_r6 f28_r7 f28_r8 f28_r9 f28_r10 f28_r11 f28_l12 f28_i12 f28_r13 f28_c f29_r0 f29_r1 f29_r2 f29_r3 f29_r4 f29_r5 f29_r6 f29_l7 f29_i7 f29_r8 f29_c f32_r0 f32_r1 f32_r2 f32_r3 f32_r4 f32_r5 f32_r6 f32_l7 f32_i7 f32_r8 f32_c f33_r0 f33_r1 f33_r2 f33_r3 f33_r4 f33_r5 f33_r6 f33_r7 f33_c f34_r0 f34_r1 f34_r2 f34_r3 f34_r4 f34_r5 f34_r6 f34_l7 f34_i7 f34_r8 f34_c f35_r0 f35_r1 f35_r2 f35_r3 f35_r4 f35_r5 f35_r6 f35_r7 f35_r8 f35_l9 f35_i9 f35_r10 f35_c f36_r0 f36_r1 f36_r2 f36_r3 f36_r4 f36_r5 f36_r6 f36_l7 f36_i7 f36_r8 f36_c f37_r0 f37_r1 f37_r2 f37_r3 f37_r4 f37_r5 f37_r6 f37_r7 f37_r8 f37_r9 f37_r10 f37_r11 f37_r12 f37_l13 f37_i13 f37_r14 f37_c f38_r0 f38_r1 f38_r2 f38_r3 f38_c T3 T4 T5 T9 T20 T21 T22 T24 T26 T27 T34 T37 T38 T40 T41 T55 T60 T61 T63 T66 T67 T72 T78 T79 T80 T82 T84 T100 T109 T113 T116 T125 T128 T134 T143 T151 T153 T157 T161 ti3 ti4 ti5 ti9 ti20 ti21 ti22 ti24 ti26 ti27 ti34 ti37 ti38 ti40 ti41 ti55 ti60 ti61 ti63 ti66 ti67 ti72 ti78 ti79 ti80 ti82 ti84 ti100 ti109 ti113 ti116 ti125 ti128 ti134 ti143 ti151 ti153 ti157 ti161
end Go.Proofs.YtdliolbjngcgcaaGreat.W
