/- Part of a program logic over data: rules of the walk, each proved. -/
import Derived.Test.YtdliolbjngcgcaaGreatChecked
import Derived.Test.YtdliolbjngcgcaaGreatLogicC
import Derived.KernelRfl
set_option linter.unusedVariables false
set_option linter.unusedSimpArgs false
set_option linter.unusedSectionVars false
set_option maxRecDepth 100000
namespace Go.Proofs.YtdliolbjngcgcaaGreat.W
open Go Go.Proofs Go.Proofs.YtdliolbjngcgcaaGreat.AWP
/-! ### types -/
def ti3 : TI := ⟨.int .i64, 1, 8, [.int .i64 0]⟩
def ti4 : TI := ⟨.bool, 1, 1, [.bool false]⟩
def ti5 : TI := ⟨.int .u8, 1, 1, [.int .u8 0]⟩
def ti9 : TI := ⟨.str, 1, 16, [.string .empty]⟩
def ti20 : TI := ⟨.other, 1, 16, [.nilIface]⟩
def ti21 : TI := ⟨.int .i32, 1, 4, [.int .i32 0]⟩
def ti22 : TI := ⟨.slice 9, 1, 24, [.slice none 0 0]⟩
def ti24 : TI := ⟨.slice 66, 1, 24, [.slice none 0 0]⟩
def ti26 : TI := ⟨.struct [(0, 22), (1, 24)], 2, 48, [.slice none 0 0, .slice none 0 0]⟩
def ti27 : TI := ⟨.int .i64, 1, 8, [.int .i64 0]⟩
def ti34 : TI := ⟨.other, 1, 8, [.nilFunc]⟩
def ti37 : TI := ⟨.slice 26, 1, 24, [.slice none 0 0]⟩
def ti38 : TI := ⟨.slice 40, 1, 24, [.slice none 0 0]⟩
def ti40 : TI := ⟨.struct [(0, 5), (1, 3), (2, 38)], 3, 40, [.int .u8 0, .int .i64 0, .slice none 0 0]⟩
def ti41 : TI := ⟨.other, 1, 8, [.nilFunc]⟩
def ti55 : TI := ⟨.slice 60, 1, 24, [.slice none 0 0]⟩
def ti60 : TI := ⟨.struct [(0, 3), (1, 9), (2, 9)], 3, 40, [.int .i64 0, .string .empty, .string .empty]⟩
def ti61 : TI := ⟨.other, 1, 8, [.pointer none]⟩
def ti63 : TI := ⟨.struct [(0, 9), (1, 3), (2, 22), (3, 22)], 4, 72, [.string .empty, .int .i64 0, .slice none 0 0, .slice none 0 0]⟩
def ti66 : TI := ⟨.struct [(0, 9), (1, 40)], 4, 56, [.string .empty, .int .u8 0, .int .i64 0, .slice none 0 0]⟩
def ti67 : TI := ⟨.slice 3, 1, 24, [.slice none 0 0]⟩
def ti72 : TI := ⟨.struct [(0, 40), (3, 3), (4, 3)], 5, 56, [.int .u8 0, .int .i64 0, .slice none 0 0, .int .i64 0, .int .i64 0]⟩
def ti78 : TI := ⟨.other, 1, 8, [.pointer none]⟩
def ti79 : TI := ⟨.other, 1, 8, [.pointer none]⟩
def ti80 : TI := ⟨.slice 5, 1, 24, [.slice none 0 0]⟩
def ti82 : TI := ⟨.struct [(0, 79), (1, 80)], 2, 32, [.pointer none, .slice none 0 0]⟩
def ti84 : TI := ⟨.struct [(0, 82), (2, 26)], 4, 80, [.pointer none, .slice none 0 0, .slice none 0 0, .slice none 0 0]⟩
def ti100 : TI := ⟨.other, 1, 8, [.nilFunc]⟩
def ti109 : TI := ⟨.struct [(0, 3), (1, 27)], 2, 16, [.int .i64 0, .int .i64 0]⟩
def ti113 : TI := ⟨.other, 1, 8, [.nilFunc]⟩
def ti116 : TI := ⟨.other, 1, 8, [.pointer none]⟩
def ti125 : TI := ⟨.slice 22, 1, 24, [.slice none 0 0]⟩
def ti128 : TI := ⟨.other, 1, 8, [.pointer none]⟩
def ti134 : TI := ⟨.int .u64, 1, 8, [.int .u64 0]⟩
def ti143 : TI := ⟨.int .i64, 1, 8, [.int .i64 0]⟩
def ti151 : TI := ⟨.int .u32, 1, 4, [.int .u32 0]⟩
def ti153 : TI := ⟨.int .u64, 1, 8, [.int .u64 0]⟩
def ti157 : TI := ⟨.int .u64, 1, 8, [.int .u64 0]⟩
def ti161 : TI := ⟨.other, 1, 8, [.pointer none]⟩
def tab : List (Nat × TI) := [(3, ti3), (4, ti4), (5, ti5), (9, ti9), (20, ti20), (21, ti21), (22, ti22), (24, ti24), (26, ti26), (27, ti27), (34, ti34), (37, ti37), (38, ti38), (40, ti40), (41, ti41), (55, ti55), (60, ti60), (61, ti61), (63, ti63), (66, ti66), (67, ti67), (72, ti72), (78, ti78), (79, ti79), (80, ti80), (82, ti82), (84, ti84), (100, ti100), (109, ti109), (113, ti113), (116, ti116), (125, ti125), (128, ti128), (134, ti134), (143, ti143), (151, ti151), (153, ti153), (157, ti157), (161, ti161)]
def T : Tab := fun t => (tab.find? fun p => p.1 == t).map (·.2)
theorem T3 : T 3 = some ti3 := rfl
theorem T4 : T 4 = some ti4 := rfl
theorem T5 : T 5 = some ti5 := rfl
theorem T9 : T 9 = some ti9 := rfl
theorem T20 : T 20 = some ti20 := rfl
theorem T21 : T 21 = some ti21 := rfl
theorem T22 : T 22 = some ti22 := rfl
theorem T24 : T 24 = some ti24 := rfl
theorem T26 : T 26 = some ti26 := rfl
theorem T27 : T 27 = some ti27 := rfl
theorem T34 : T 34 = some ti34 := rfl
theorem T37 : T 37 = some ti37 := rfl
theorem T38 : T 38 = some ti38 := rfl
theorem T40 : T 40 = some ti40 := rfl
theorem T41 : T 41 = some ti41 := rfl
theorem T55 : T 55 = some ti55 := rfl
theorem T60 : T 60 = some ti60 := rfl
theorem T61 : T 61 = some ti61 := rfl
theorem T63 : T 63 = some ti63 := rfl
theorem T66 : T 66 = some ti66 := rfl
theorem T67 : T 67 = some ti67 := rfl
theorem T72 : T 72 = some ti72 := rfl
theorem T78 : T 78 = some ti78 := rfl
theorem T79 : T 79 = some ti79 := rfl
theorem T80 : T 80 = some ti80 := rfl
theorem T82 : T 82 = some ti82 := rfl
theorem T84 : T 84 = some ti84 := rfl
theorem T100 : T 100 = some ti100 := rfl
theorem T109 : T 109 = some ti109 := rfl
theorem T113 : T 113 = some ti113 := rfl
theorem T116 : T 116 = some ti116 := rfl
theorem T125 : T 125 = some ti125 := rfl
theorem T128 : T 128 = some ti128 := rfl
theorem T134 : T 134 = some ti134 := rfl
theorem T143 : T 143 = some ti143 := rfl
theorem T151 : T 151 = some ti151 := rfl
theorem T153 : T 153 = some ti153 := rfl
theorem T157 : T 157 = some ti157 := rfl
theorem T161 : T 161 = some ti161 := rfl
theorem tab_ok : tabB Tryz.prog tab = true := by kernel_rfl
theorem hT : TabOk Tryz.prog T := by
  intro t i h
  unfold T at h
  simp only [Option.map_eq_some_iff] at h
  obtain ⟨p, hp, rfl⟩ := h
  have h1 := List.find?_some hp
  have h2 := List.mem_of_find?_eq_some hp
  simp only [beq_iff_eq] at h1
  obtain ⟨t', i'⟩ := p
  subst h1
  exact tabB_ok tab_ok t' i' h2
theorem hm : Tryz.prog.follows .mixedOrders = true := by kernel_rfl
/-! quill/quilllaw21.CfxReads -/
def f3_r0 : List LOp := [
  ⟨some 4, .assign (.const (.bool false)), none⟩]
def f3_r1 : List LOp := [
  ⟨some 12, .move (.tmp 0), none⟩,
  ⟨some 13, .call { callee := .builtin .len, args := #[.tmp 12], argTypes := #[9] }, none⟩,
  ⟨some 14, .binOp .gtr 3 (.tmp 13) (.const (.int .i64 1000)) 3, none⟩,
  ⟨some 15, .move (.tmp 14), none⟩,
  ⟨some 16, .move (.tmp 1), some (3, false)⟩,
  ⟨some 17, .call { callee := .builtin .len, args := #[.tmp 16], argTypes := #[22] }, some (3, false)⟩,
  ⟨some 18, .binOp .gtr 3 (.tmp 17) (.const (.int .i64 12)) 3, some (3, false)⟩,
  ⟨some 19, .pick (.tmp 15) (.const (.bool true)) (.tmp 18), none⟩]
def f3_r2 : List LOp := [
  ⟨some 20, .call { callee := .value (.func 7), args := #[], argTypes := #[] }, none⟩,
  ⟨some 4, .assign (.tmp 20), none⟩]
def f3_r3 : List LOp := [
  ⟨some 5, .assign (.const (.int .i64 0)), none⟩]
def f3_r4 : List LOp := [
  ⟨some 21, .move (.tmp 5), none⟩,
  ⟨some 22, .move (.tmp 1), none⟩,
  ⟨some 23, .call { callee := .builtin .len, args := #[.tmp 22], argTypes := #[22] }, none⟩,
  ⟨some 24, .binOp .lss 3 (.tmp 21) (.tmp 23) 3, none⟩]
def f3_r5 : List LOp := [
  ⟨some 27, .move (.tmp 1), none⟩,
  ⟨some 28, .move (.tmp 5), none⟩,
  ⟨some 29, .indexAddr 22 (.tmp 27) (.tmp 28), none⟩,
  ⟨some 30, .load 9 (.tmp 29), none⟩,
  ⟨some 31, .call { callee := .builtin .len, args := #[.tmp 30], argTypes := #[9] }, none⟩,
  ⟨some 32, .binOp .gtr 3 (.tmp 31) (.const (.int .i64 100)) 3, none⟩]
def f3_r6 : List LOp := [
  ⟨some 33, .call { callee := .value (.func 7), args := #[], argTypes := #[] }, none⟩,
  ⟨some 4, .assign (.tmp 33), none⟩]
def f3_r7 : List LOp := [
  ⟨some 25, .move (.tmp 5), none⟩,
  ⟨some 26, .binOp .add 3 (.tmp 25) (.const (.int .i64 1)) 3, none⟩,
  ⟨some 5, .assign (.tmp 26), none⟩]
def f3_l8 : LC := (.seq (.seq (.reg f3_r4 [] none) (.cond (.tmp 24) .skip (.exit 0))) (.seq (.block 1 (.seq (.reg f3_r5 [] none) (.cond (.tmp 32) (.seq (.reg f3_r6 [] none) .ret) .skip))) (.reg f3_r7 [] none)))
def f3_i8 (t0 t1 t5 : D) : List D := [t0, t1, .any, .any, .any, t5, .any, .any, .any, .any, .any, .any, .any, .any, .any, .any, .any, .any, .any, .any, .any, .any, .any, .any, .any, .any, .any, .any, .any, .any, .any, .any, .any, .any, .any, .any, .any, .any, .any, .any, .any, .any, .any, .any, .any, .any, .any, .any, .any, .any, .any, .any, .any, .any, .any, .any, .any, .any, .any, .any, .any, .any, .any, .any]
def f3_r9 : List LOp := [
  ⟨some 35, .move (.tmp 0), none⟩,
  ⟨some 36, .move (.tmp 1), none⟩,
  ⟨some 37, .call { callee := .value (.func 8), args := #[.tmp 35, .tmp 36], argTypes := #[9, 22] }, none⟩,
  ⟨some 34, .move (.tmp 37), none⟩,
  ⟨some 38, .extract (.tmp 34) 0, none⟩,
  ⟨some 39, .extract (.tmp 34) 1, none⟩,
  ⟨some 40, .extract (.tmp 34) 2, none⟩,
  ⟨some 6, .alloc 26, none⟩,
  ⟨none, .store 26 (.tmp 6) (.tmp 38), none⟩,
  ⟨some 7, .assign (.tmp 39), none⟩,
  ⟨some 8, .assign (.tmp 40), none⟩]
def f3_r10 : List LOp := [
  ⟨some 42, .move (.tmp 0), none⟩,
  ⟨some 43, .move (.tmp 1), none⟩,
  ⟨some 44, .call { callee := .value (.func 9), args := #[.tmp 42, .tmp 43], argTypes := #[9, 22] }, none⟩,
  ⟨some 41, .move (.tmp 44), none⟩,
  ⟨some 45, .extract (.tmp 41) 0, none⟩,
  ⟨some 46, .extract (.tmp 41) 1, none⟩,
  ⟨some 47, .extract (.tmp 41) 2, none⟩,
  ⟨some 9, .alloc 26, none⟩,
  ⟨none, .store 26 (.tmp 9) (.tmp 45), none⟩,
  ⟨some 10, .assign (.tmp 46), none⟩,
  ⟨some 11, .assign (.tmp 47), none⟩]
def f3_r11 : List LOp := [
  ⟨some 48, .move (.tmp 8), none⟩,
  ⟨some 49, .move (.tmp 11), none⟩,
  ⟨some 50, .binOp .eql 3 (.tmp 48) (.tmp 49) 3, none⟩,
  ⟨some 51, .move (.tmp 50), none⟩,
  ⟨some 52, .move (.tmp 7), some (3, true)⟩,
  ⟨some 53, .move (.tmp 10), some (3, true)⟩,
  ⟨some 54, .binOp .eql 3 (.tmp 52) (.tmp 53) 3, some (3, true)⟩,
  ⟨some 55, .pick (.tmp 51) (.tmp 54) (.const (.bool false)), none⟩,
  ⟨some 56, .move (.tmp 55), none⟩,
  ⟨some 57, .load 26 (.tmp 6), some (8, true)⟩,
  ⟨some 58, .load 26 (.tmp 9), some (8, true)⟩,
  ⟨some 59, .call { callee := .value (.func 10), args := #[.tmp 57, .tmp 58], argTypes := #[26, 26] }, some (8, true)⟩,
  ⟨some 60, .pick (.tmp 56) (.tmp 59) (.const (.bool false)), none⟩,
  ⟨some 61, .move (.tmp 60), none⟩,
  ⟨some 62, .call { callee := .value (.func 7), args := #[], argTypes := #[] }, some (13, true)⟩,
  ⟨some 63, .pick (.tmp 61) (.tmp 62) (.const (.bool false)), none⟩,
  ⟨some 4, .assign (.tmp 63), none⟩]
def f3_c : LC := (.seq (.reg f3_r0 [] none) (.seq (.seq (.reg f3_r1 [] none) (.cond (.tmp 19) (.seq (.reg f3_r2 [] none) .ret) .skip)) (.seq (.seq (.reg f3_r3 [] none) (.block 0 (.loop f3_l8))) (.seq (.reg f3_r9 [] none) (.seq (.reg f3_r10 [] none) (.seq (.reg f3_r11 [] none) .ret))))))
theorem f3_lc : Tryz.f3.body.map lc = some f3_c.st := by kernel_rfl
theorem f3_res : Tryz.f3.results.toList = [.tmp 4] := by kernel_rfl
theorem f3_nt : Tryz.f3.ntmps = 64 := by kernel_rfl
theorem f3_nm : (Tryz.f3.name == "runtime.NumGoroutine") = false := by kernel_rfl
/-! quill/quilllaw21.CfxBack -/
/-! quill/quilllaw21.CfxMays -/
/-! quill/quilllaw21.CfxOnes -/
/-! quill/quilllaw21.awake -/
def f7_r0 : List LOp := [
  ⟨some 0, .assign (.const (.bool false)), none⟩]
def f7_r1 : List LOp := [
  ⟨some 7, .buildSlice 22 2 #[(0, .const (.string { data := #[97] })), (1, .const (.string { data := #[98] }))], none⟩,
  ⟨some 8, .call { callee := .value (.func 8), args := #[.const (.string { data := #[115, 32, 61, 32, 97, 32, 115, 32, 98, 32, 124, 32, 40, 41, 10] }), .tmp 7], argTypes := #[9, 22] }, none⟩,
  ⟨some 6, .move (.tmp 8), none⟩,
  ⟨some 9, .extract (.tmp 6) 0, none⟩,
  ⟨some 10, .extract (.tmp 6) 1, none⟩,
  ⟨some 11, .extract (.tmp 6) 2, none⟩,
  ⟨some 1, .alloc 26, none⟩,
  ⟨none, .store 26 (.tmp 1) (.tmp 9), none⟩,
  ⟨some 2, .assign (.tmp 10), none⟩,
  ⟨some 3, .assign (.tmp 11), none⟩]
def f7_r2 : List LOp := [
  ⟨some 13, .load 26 (.tmp 1), none⟩,
  ⟨some 14, .call { callee := .value (.func 13), args := #[.tmp 13], argTypes := #[26] }, none⟩,
  ⟨some 12, .move (.tmp 14), none⟩,
  ⟨some 15, .extract (.tmp 12) 0, none⟩,
  ⟨some 16, .extract (.tmp 12) 1, none⟩,
  ⟨some 4, .assign (.tmp 15), none⟩,
  ⟨some 5, .assign (.tmp 16), none⟩]
def f7_r3 : List LOp := [
  ⟨some 17, .move (.tmp 3), none⟩,
  ⟨some 18, .binOp .eql 27 (.tmp 17) (.const (.int .i64 0)) 27, none⟩,
  ⟨some 19, .move (.tmp 18), none⟩,
  ⟨some 20, .move (.tmp 5), some (2, true)⟩,
  ⟨some 21, .binOp .eql 27 (.tmp 20) (.const (.int .i64 0)) 27, some (2, true)⟩,
  ⟨some 22, .pick (.tmp 19) (.tmp 21) (.const (.bool false)), none⟩,
  ⟨some 23, .move (.tmp 22), none⟩,
  ⟨some 24, .move (.tmp 4), some (6, true)⟩,
  ⟨some 25, .binOp .eql 9 (.tmp 24) (.const (.string { data := #[115, 32, 61, 32, 97, 32, 115, 32, 98, 32, 124, 32, 40, 41, 10] })) 9, some (6, true)⟩,
  ⟨some 26, .pick (.tmp 23) (.tmp 25) (.const (.bool false)), none⟩,
  ⟨some 27, .move (.tmp 26), none⟩,
  ⟨some 28, .load 26 (.tmp 1), some (10, true)⟩,
  ⟨some 29, .buildSlice 37 1 #[(0, .tmp 28)], some (10, true)⟩,
  ⟨some 30, .call { callee := .value (.func 20), args := #[.tmp 29], argTypes := #[37] }, some (10, true)⟩,
  ⟨some 31, .pick (.tmp 27) (.tmp 30) (.const (.bool false)), none⟩,
  ⟨some 0, .assign (.tmp 31), none⟩]
def f7_c : LC := (.seq (.reg f7_r0 [] none) (.seq (.reg f7_r1 [] none) (.seq (.reg f7_r2 [] none) (.seq (.reg f7_r3 [] none) .ret))))
theorem f7_lc : Tryz.f7.body.map lc = some f7_c.st := by kernel_rfl
theorem f7_res : Tryz.f7.results.toList = [.tmp 0] := by kernel_rfl
theorem f7_nt : Tryz.f7.ntmps = 32 := by kernel_rfl
theorem f7_nm : (Tryz.f7.name == "runtime.NumGoroutine") = false := by kernel_rfl
/-! quill/cfx.Read -/
def f8_r0 : List LOp := [
  ⟨some 4, .alloc 26, none⟩,
  ⟨some 5, .assign (.const (.int .i64 0)), none⟩,
  ⟨some 6, .assign (.const (.int .i64 0)), none⟩]
def f8_r1 : List LOp := [
  ⟨some 20, .move (.tmp 0), none⟩,
  ⟨some 21, .call { callee := .builtin .len, args := #[.tmp 20], argTypes := #[9] }, none⟩,
  ⟨some 22, .binOp .gtr 3 (.tmp 21) (.const (.int .i64 65536)) 3, none⟩,
  ⟨some 19, .assign (.tmp 22), none⟩]
def f8_r2 : List LOp := [
  ⟨some 23, .build 26 #[], none⟩,
  ⟨none, .store 26 (.tmp 4) (.tmp 23), none⟩,
  ⟨some 5, .assign (.const (.int .i64 0)), none⟩,
  ⟨some 6, .assign (.const (.int .i64 3)), none⟩]
def f8_r3 : List LOp := [
  ⟨some 25, .move (.tmp 1), none⟩,
  ⟨some 26, .call { callee := .builtin .len, args := #[.tmp 25], argTypes := #[22] }, none⟩,
  ⟨some 27, .binOp .lss 3 (.tmp 26) (.const (.int .i64 1)) 3, none⟩,
  ⟨some 28, .move (.tmp 27), none⟩,
  ⟨some 29, .move (.tmp 1), some (3, false)⟩,
  ⟨some 30, .call { callee := .builtin .len, args := #[.tmp 29], argTypes := #[22] }, some (3, false)⟩,
  ⟨some 31, .binOp .gtr 3 (.tmp 30) (.const (.int .i64 100)) 3, some (3, false)⟩,
  ⟨some 32, .pick (.tmp 28) (.const (.bool true)) (.tmp 31), none⟩,
  ⟨some 33, .move (.tmp 32), none⟩,
  ⟨some 34, .move (.tmp 1), some (8, false)⟩,
  ⟨some 35, .call { callee := .value (.func 24), args := #[.tmp 34], argTypes := #[22] }, some (8, false)⟩,
  ⟨some 36, .unOp .not 4 (.tmp 35), some (8, false)⟩,
  ⟨some 37, .pick (.tmp 33) (.const (.bool true)) (.tmp 36), none⟩,
  ⟨some 24, .assign (.tmp 37), none⟩]
def f8_r4 : List LOp := [
  ⟨some 38, .build 26 #[], none⟩,
  ⟨none, .store 26 (.tmp 4) (.tmp 38), none⟩,
  ⟨some 5, .assign (.const (.int .i64 0)), none⟩,
  ⟨some 6, .assign (.const (.int .i64 1)), none⟩]
def f8_r5 : List LOp := [
  ⟨some 40, .move (.tmp 0), none⟩,
  ⟨some 41, .move (.tmp 1), none⟩,
  ⟨some 42, .call { callee := .value (.func 25), args := #[.tmp 40, .tmp 41], argTypes := #[9, 22] }, none⟩,
  ⟨some 39, .move (.tmp 42), none⟩,
  ⟨some 43, .extract (.tmp 39) 0, none⟩,
  ⟨some 44, .extract (.tmp 39) 1, none⟩,
  ⟨some 45, .extract (.tmp 39) 2, none⟩,
  ⟨some 7, .assign (.tmp 43), none⟩,
  ⟨some 8, .assign (.tmp 44), none⟩,
  ⟨some 9, .assign (.tmp 45), none⟩]
def f8_r6 : List LOp := [
  ⟨some 46, .move (.tmp 9), none⟩,
  ⟨some 47, .binOp .neq 27 (.tmp 46) (.const (.int .i64 0)) 27, none⟩]
def f8_r7 : List LOp := [
  ⟨some 48, .build 26 #[], none⟩,
  ⟨some 49, .move (.tmp 8), none⟩,
  ⟨some 50, .move (.tmp 9), none⟩,
  ⟨none, .store 26 (.tmp 4) (.tmp 48), none⟩,
  ⟨some 5, .assign (.tmp 49), none⟩,
  ⟨some 6, .assign (.tmp 50), none⟩]
def f8_r8 : List LOp := [
  ⟨some 51, .move (.tmp 1), none⟩,
  ⟨some 52, .call { callee := .value (.func 26), args := #[.tmp 51], argTypes := #[22] }, none⟩,
  ⟨some 53, .build 26 #[(0, .tmp 52)], none⟩,
  ⟨some 10, .alloc 26, none⟩,
  ⟨none, .store 26 (.tmp 10) (.tmp 53), none⟩]
def f8_r9 : List LOp := [
  ⟨some 11, .assign (.const (.slice none 0 0)), none⟩]
def f8_r10 : List LOp := [
  ⟨some 54, .move (.tmp 7), none⟩,
  ⟨some 55, .call { callee := .builtin .len, args := #[.tmp 54], argTypes := #[55] }, none⟩,
  ⟨some 56, .move (.const (.int .i64 0)), none⟩]
def f8_r11 : List LOp := [
  ⟨some 57, .binOp .lss 3 (.tmp 56) (.tmp 55) 3, none⟩]
def f8_r12 : List LOp := [
  ⟨some 58, .indexAddr 55 (.tmp 54) (.tmp 56), none⟩,
  ⟨some 59, .load 60 (.tmp 58), none⟩,
  ⟨some 13, .alloc 60, none⟩,
  ⟨none, .store 60 (.tmp 13) (.tmp 59), none⟩]
def f8_r13 : List LOp := [
  ⟨some 60, .move (.tmp 11), none⟩,
  ⟨some 61, .fieldAddr 60 (.tmp 13) 1, none⟩,
  ⟨some 62, .load 9 (.tmp 61), none⟩,
  ⟨some 63, .buildSlice 22 1 #[(0, .tmp 62)], none⟩,
  ⟨some 64, .call { callee := .builtin .append, args := #[.tmp 60, .tmp 63], argTypes := #[22, 22] }, none⟩,
  ⟨some 11, .assign (.tmp 64), none⟩]
def f8_r14 : List LOp := [
  ⟨some 65, .binOp .add 3 (.tmp 56) (.const (.int .i64 1)) 3, none⟩,
  ⟨some 56, .move (.tmp 65), none⟩]
def f8_l15 : LC := (.seq (.reg f8_r11 [] none) (.seq (.cond (.tmp 57) .skip (.exit 1)) (.seq (.block 2 (.seq (.reg f8_r12 [] none) (.reg f8_r13 [] none))) (.reg f8_r14 [] none))))
def f8_i15 (t1 t4 t7 t10 t11 t54 t55 t56 : D) : List D := [.any, t1, .any, .any, t4, .any, .any, t7, .any, .any, t10, t11, .any, .any, .any, .any, .any, .any, .any, .any, .any, .any, .any, .any, .any, .any, .any, .any, .any, .any, .any, .any, .any, .any, .any, .any, .any, .any, .any, .any, .any, .any, .any, .any, .any, .any, .any, .any, .any, .any, .any, .any, .any, .any, t54, t55, t56, .any, .any, .any, .any, .any, .any, .any, .any, .any, .any, .any, .any, .any, .any, .any, .any, .any, .any, .any, .any, .any, .any, .any, .any, .any, .any, .any, .any, .any, .any, .any, .any, .any, .any, .any, .any, .any, .any, .any, .any, .any, .any, .any, .any, .any, .any, .any, .any, .any, .any, .any, .any, .any, .any]
def f8_r16 : List LOp := [
  ⟨some 66, .move (.tmp 7), none⟩,
  ⟨some 67, .call { callee := .builtin .len, args := #[.tmp 66], argTypes := #[55] }, none⟩,
  ⟨some 68, .move (.const (.int .i64 0)), none⟩]
def f8_r17 : List LOp := [
  ⟨some 69, .binOp .lss 3 (.tmp 68) (.tmp 67) 3, none⟩]
def f8_r18 : List LOp := [
  ⟨some 70, .indexAddr 55 (.tmp 66) (.tmp 68), none⟩,
  ⟨some 71, .load 60 (.tmp 70), none⟩,
  ⟨some 15, .alloc 60, none⟩,
  ⟨none, .store 60 (.tmp 15) (.tmp 71), none⟩]
def f8_r19 : List LOp := [
  ⟨some 73, .fieldAddr 60 (.tmp 15) 2, none⟩,
  ⟨some 74, .load 9 (.tmp 73), none⟩,
  ⟨some 75, .move (.tmp 1), none⟩,
  ⟨some 76, .move (.tmp 11), none⟩,
  ⟨some 77, .build 63 #[(0, .tmp 74), (2, .tmp 75), (3, .tmp 76)], none⟩,
  ⟨some 78, .box 63 (.tmp 77), none⟩,
  ⟨some 79, .call { callee := .value (.func 27), args := #[.tmp 78], argTypes := #[61] }, none⟩,
  ⟨some 72, .move (.tmp 79), none⟩,
  ⟨some 80, .extract (.tmp 72) 0, none⟩,
  ⟨some 81, .extract (.tmp 72) 1, none⟩,
  ⟨some 82, .extract (.tmp 72) 2, none⟩,
  ⟨some 16, .alloc 40, none⟩,
  ⟨none, .store 40 (.tmp 16) (.tmp 80), none⟩,
  ⟨some 17, .assign (.tmp 81), none⟩,
  ⟨some 18, .assign (.tmp 82), none⟩]
def f8_r20 : List LOp := [
  ⟨some 83, .move (.tmp 18), none⟩,
  ⟨some 84, .binOp .neq 27 (.tmp 83) (.const (.int .i64 0)) 27, none⟩]
def f8_r21 : List LOp := [
  ⟨some 85, .build 26 #[], none⟩,
  ⟨some 86, .fieldAddr 60 (.tmp 15) 0, none⟩,
  ⟨some 87, .load 3 (.tmp 86), none⟩,
  ⟨some 88, .fieldAddr 60 (.tmp 15) 1, none⟩,
  ⟨some 89, .load 9 (.tmp 88), none⟩,
  ⟨some 90, .call { callee := .builtin .len, args := #[.tmp 89], argTypes := #[9] }, none⟩,
  ⟨some 91, .binOp .add 3 (.tmp 87) (.tmp 90) 3, none⟩,
  ⟨some 92, .binOp .add 3 (.tmp 91) (.const (.int .i64 3)) 3, none⟩,
  ⟨some 93, .move (.tmp 17), none⟩,
  ⟨some 94, .binOp .add 3 (.tmp 92) (.tmp 93) 3, none⟩,
  ⟨some 95, .move (.tmp 18), none⟩,
  ⟨none, .store 26 (.tmp 4) (.tmp 85), none⟩,
  ⟨some 5, .assign (.tmp 94), none⟩,
  ⟨some 6, .assign (.tmp 95), none⟩]
def f8_r22 : List LOp := [
  ⟨some 96, .fieldAddr 26 (.tmp 10) 1, none⟩,
  ⟨some 97, .load 24 (.tmp 96), none⟩,
  ⟨some 98, .fieldAddr 60 (.tmp 15) 1, none⟩,
  ⟨some 99, .load 9 (.tmp 98), none⟩,
  ⟨some 100, .load 40 (.tmp 16), none⟩,
  ⟨some 101, .build 66 #[(0, .tmp 99), (1, .tmp 100)], none⟩,
  ⟨some 102, .buildSlice 24 1 #[(0, .tmp 101)], none⟩,
  ⟨some 103, .call { callee := .builtin .append, args := #[.tmp 97, .tmp 102], argTypes := #[24, 24] }, none⟩,
  ⟨some 104, .fieldAddr 26 (.tmp 10) 1, none⟩,
  ⟨none, .store 24 (.tmp 104) (.tmp 103), none⟩]
def f8_r23 : List LOp := [
  ⟨some 105, .binOp .add 3 (.tmp 68) (.const (.int .i64 1)) 3, none⟩,
  ⟨some 68, .move (.tmp 105), none⟩]
def f8_l24 : LC := (.seq (.reg f8_r17 [] none) (.seq (.cond (.tmp 69) .skip (.exit 3)) (.seq (.block 4 (.seq (.reg f8_r18 [] none) (.seq (.reg f8_r19 [5] none) (.seq (.seq (.reg f8_r20 [] none) (.cond (.tmp 84) (.seq (.regq f8_r21 [] 0 (.free [[], [], [1], [], [3], [4], [2, 5], [6], [], [7, 8], [], [0, 0], [9, 11, 0, 1, 2, 3, 4, 5, 6, 7, 8, 9, 11], [10, 12, 0, 1, 2, 3, 4, 5, 6, 7, 8, 9, 10, 11, 12]])) .ret) .skip)) (.reg f8_r22 [] none))))) (.reg f8_r23 [] none))))
def f8_i24 (t1 t4 t10 t11 t66 t67 t68 : D) : List D := [.any, t1, .any, .any, t4, .any, .any, .any, .any, .any, t10, t11, .any, .any, .any, .any, .any, .any, .any, .any, .any, .any, .any, .any, .any, .any, .any, .any, .any, .any, .any, .any, .any, .any, .any, .any, .any, .any, .any, .any, .any, .any, .any, .any, .any, .any, .any, .any, .any, .any, .any, .any, .any, .any, .any, .any, .any, .any, .any, .any, .any, .any, .any, .any, .any, .any, t66, t67, t68, .any, .any, .any, .any, .any, .any, .any, .any, .any, .any, .any, .any, .any, .any, .any, .any, .any, .any, .any, .any, .any, .any, .any, .any, .any, .any, .any, .any, .any, .any, .any, .any, .any, .any, .any, .any, .any, .any, .any, .any, .any, .any]
def f8_r25 : List LOp := [
  ⟨some 106, .load 26 (.tmp 10), none⟩,
  ⟨some 107, .call { callee := .value (.func 28), args := #[.tmp 106], argTypes := #[26] }, none⟩,
  ⟨some 108, .unOp .not 4 (.tmp 107), none⟩]
def f8_r26 : List LOp := [
  ⟨some 109, .build 26 #[], none⟩,
  ⟨none, .store 26 (.tmp 4) (.tmp 109), none⟩,
  ⟨some 5, .assign (.const (.int .i64 0)), none⟩,
  ⟨some 6, .assign (.const (.int .i64 4)), none⟩]
def f8_r27 : List LOp := [
  ⟨some 110, .load 26 (.tmp 10), none⟩,
  ⟨none, .store 26 (.tmp 4) (.tmp 110), none⟩,
  ⟨some 5, .assign (.const (.int .i64 0)), none⟩,
  ⟨some 6, .assign (.const (.int .i64 0)), none⟩]
def f8_c : LC := (.seq (.reg f8_r0 [] none) (.seq (.block 0 (.seq (.reg f8_r1 [] none) (.cond (.tmp 19) (.seq (.reg f8_r2 [] none) .ret) (.seq (.reg f8_r3 [] none) (.cond (.tmp 24) (.seq (.reg f8_r4 [] none) .ret) .skip))))) (.seq (.reg f8_r5 [] none) (.seq (.seq (.reg f8_r6 [] none) (.cond (.tmp 47) (.seq (.reg f8_r7 [] none) .ret) .skip)) (.seq (.reg f8_r8 [] none) (.seq (.reg f8_r9 [] none) (.seq (.seq (.reg f8_r10 [] none) (.block 1 (.loop f8_l15))) (.seq (.seq (.reg f8_r16 [] none) (.block 3 (.loop f8_l24))) (.seq (.seq (.reg f8_r25 [] none) (.cond (.tmp 108) (.seq (.reg f8_r26 [] none) .ret) .skip)) (.seq (.reg f8_r27 [] none) .ret))))))))))
theorem f8_lc : Tryz.f8.body.map lc = some f8_c.st := by kernel_rfl
theorem f8_res : Tryz.f8.results.toList = [.cell 4 26, .tmp 5, .tmp 6] := by kernel_rfl
theorem f8_nt : Tryz.f8.ntmps = 111 := by kernel_rfl
theorem f8_nm : (Tryz.f8.name == "runtime.NumGoroutine") = false := by kernel_rfl
/-! quill/quillref21.Read -/
def f9_r0 : List LOp := [
  ⟨some 4, .alloc 26, none⟩,
  ⟨some 5, .assign (.const (.int .i64 0)), none⟩,
  ⟨some 6, .assign (.const (.int .i64 0)), none⟩]
def f9_r1 : List LOp := [
  ⟨some 18, .build 26 #[], none⟩,
  ⟨some 7, .alloc 26, none⟩,
  ⟨none, .store 26 (.tmp 7) (.tmp 18), none⟩]
def f9_r2 : List LOp := [
  ⟨some 19, .move (.tmp 0), none⟩,
  ⟨some 20, .call { callee := .builtin .len, args := #[.tmp 19], argTypes := #[9] }, none⟩,
  ⟨some 21, .binOp .gtr 3 (.tmp 20) (.const (.int .i64 65536)) 3, none⟩]
def f9_r3 : List LOp := [
  ⟨some 22, .load 26 (.tmp 7), none⟩,
  ⟨none, .store 26 (.tmp 4) (.tmp 22), none⟩,
  ⟨some 5, .assign (.const (.int .i64 0)), none⟩,
  ⟨some 6, .assign (.const (.int .i64 3)), none⟩]
def f9_r4 : List LOp := [
  ⟨some 23, .move (.tmp 1), none⟩,
  ⟨some 24, .call { callee := .builtin .len, args := #[.tmp 23], argTypes := #[22] }, none⟩,
  ⟨some 25, .binOp .lss 3 (.tmp 24) (.const (.int .i64 1)) 3, none⟩,
  ⟨some 26, .move (.tmp 25), none⟩,
  ⟨some 27, .move (.tmp 1), some (3, false)⟩,
  ⟨some 28, .call { callee := .builtin .len, args := #[.tmp 27], argTypes := #[22] }, some (3, false)⟩,
  ⟨some 29, .binOp .gtr 3 (.tmp 28) (.const (.int .i64 100)) 3, some (3, false)⟩,
  ⟨some 30, .pick (.tmp 26) (.const (.bool true)) (.tmp 29), none⟩,
  ⟨some 31, .move (.tmp 30), none⟩,
  ⟨some 32, .move (.tmp 1), some (8, false)⟩,
  ⟨some 33, .call { callee := .value (.func 29), args := #[.tmp 32], argTypes := #[22] }, some (8, false)⟩,
  ⟨some 34, .unOp .not 4 (.tmp 33), some (8, false)⟩,
  ⟨some 35, .pick (.tmp 31) (.const (.bool true)) (.tmp 34), none⟩]
def f9_r5 : List LOp := [
  ⟨some 36, .load 26 (.tmp 7), none⟩,
  ⟨none, .store 26 (.tmp 4) (.tmp 36), none⟩,
  ⟨some 5, .assign (.const (.int .i64 0)), none⟩,
  ⟨some 6, .assign (.const (.int .i64 1)), none⟩]
def f9_r6 : List LOp := [
  ⟨some 37, .buildSlice 22 0 #[], none⟩,
  ⟨some 38, .buildSlice 22 0 #[], none⟩,
  ⟨some 39, .buildSlice 67 0 #[], none⟩,
  ⟨some 8, .assign (.tmp 37), none⟩,
  ⟨some 9, .assign (.tmp 38), none⟩,
  ⟨some 10, .assign (.tmp 39), none⟩]
def f9_r7 : List LOp := [
  ⟨some 11, .assign (.const (.int .i64 0)), none⟩]
def f9_r8 : List LOp := [
  ⟨some 40, .move (.tmp 11), none⟩,
  ⟨some 41, .move (.tmp 0), none⟩,
  ⟨some 42, .call { callee := .builtin .len, args := #[.tmp 41], argTypes := #[9] }, none⟩,
  ⟨some 43, .binOp .lss 3 (.tmp 40) (.tmp 42) 3, none⟩]
def f9_r9 : List LOp := [
  ⟨some 44, .move (.tmp 0), none⟩,
  ⟨some 45, .move (.tmp 11), none⟩,
  ⟨some 46, .call { callee := .value (.func 30), args := #[.tmp 44, .tmp 45], argTypes := #[9, 3] }, none⟩,
  ⟨some 12, .assign (.tmp 46), none⟩]
def f9_r10 : List LOp := [
  ⟨some 47, .move (.tmp 12), none⟩,
  ⟨some 48, .move (.tmp 0), none⟩,
  ⟨some 49, .call { callee := .builtin .len, args := #[.tmp 48], argTypes := #[9] }, none⟩,
  ⟨some 50, .binOp .eql 3 (.tmp 47) (.tmp 49) 3, none⟩]
def f9_r11 : List LOp := [
  ⟨some 51, .load 26 (.tmp 7), none⟩,
  ⟨some 52, .move (.tmp 12), none⟩,
  ⟨none, .store 26 (.tmp 4) (.tmp 51), none⟩,
  ⟨some 5, .assign (.tmp 52), none⟩,
  ⟨some 6, .assign (.const (.int .i64 2)), none⟩]
def f9_r12 : List LOp := [
  ⟨some 53, .move (.tmp 8), none⟩,
  ⟨some 54, .call { callee := .builtin .len, args := #[.tmp 53], argTypes := #[22] }, none⟩,
  ⟨some 55, .binOp .eql 3 (.tmp 54) (.const (.int .i64 50)) 3, none⟩]
def f9_r13 : List LOp := [
  ⟨some 56, .load 26 (.tmp 7), none⟩,
  ⟨some 57, .move (.tmp 11), none⟩,
  ⟨none, .store 26 (.tmp 4) (.tmp 56), none⟩,
  ⟨some 5, .assign (.tmp 57), none⟩,
  ⟨some 6, .assign (.const (.int .i64 4)), none⟩]
def f9_r14 : List LOp := [
  ⟨some 58, .move (.tmp 0), none⟩,
  ⟨some 59, .move (.tmp 11), none⟩,
  ⟨some 60, .move (.tmp 12), none⟩,
  ⟨some 61, .slice 9 (.tmp 58) (some (.tmp 59)) (some (.tmp 60)) none, none⟩,
  ⟨some 62, .call { callee := .value (.func 31), args := #[.tmp 61], argTypes := #[9] }, none⟩,
  ⟨some 13, .assign (.tmp 62), none⟩]
def f9_r15 : List LOp := [
  ⟨some 63, .move (.tmp 13), none⟩,
  ⟨some 64, .binOp .lss 3 (.tmp 63) (.const (.int .i64 0)) 3, none⟩,
  ⟨some 65, .move (.tmp 64), none⟩,
  ⟨some 66, .move (.tmp 1), some (2, false)⟩,
  ⟨some 67, .move (.tmp 0), some (2, false)⟩,
  ⟨some 68, .move (.tmp 11), some (2, false)⟩,
  ⟨some 69, .move (.tmp 11), some (2, false)⟩,
  ⟨some 70, .move (.tmp 13), some (2, false)⟩,
  ⟨some 71, .binOp .add 3 (.tmp 69) (.tmp 70) 3, some (2, false)⟩,
  ⟨some 72, .slice 9 (.tmp 67) (some (.tmp 68)) (some (.tmp 71)) none, some (2, false)⟩,
  ⟨some 73, .call { callee := .value (.func 32), args := #[.tmp 66, .tmp 72], argTypes := #[22, 9] }, some (2, false)⟩,
  ⟨some 74, .pick (.tmp 65) (.const (.bool true)) (.tmp 73), none⟩,
  ⟨some 75, .move (.tmp 74), none⟩,
  ⟨some 76, .move (.tmp 8), some (12, false)⟩,
  ⟨some 77, .move (.tmp 0), some (12, false)⟩,
  ⟨some 78, .move (.tmp 11), some (12, false)⟩,
  ⟨some 79, .move (.tmp 11), some (12, false)⟩,
  ⟨some 80, .move (.tmp 13), some (12, false)⟩,
  ⟨some 81, .binOp .add 3 (.tmp 79) (.tmp 80) 3, some (12, false)⟩,
  ⟨some 82, .slice 9 (.tmp 77) (some (.tmp 78)) (some (.tmp 81)) none, some (12, false)⟩,
  ⟨some 83, .call { callee := .value (.func 32), args := #[.tmp 76, .tmp 82], argTypes := #[22, 9] }, some (12, false)⟩,
  ⟨some 84, .pick (.tmp 75) (.const (.bool true)) (.tmp 83), none⟩]
def f9_r16 : List LOp := [
  ⟨some 85, .load 26 (.tmp 7), none⟩,
  ⟨some 86, .move (.tmp 11), none⟩,
  ⟨none, .store 26 (.tmp 4) (.tmp 85), none⟩,
  ⟨some 5, .assign (.tmp 86), none⟩,
  ⟨some 6, .assign (.const (.int .i64 2)), none⟩]
def f9_r17 : List LOp := [
  ⟨some 87, .move (.tmp 8), none⟩,
  ⟨some 88, .move (.tmp 0), none⟩,
  ⟨some 89, .move (.tmp 11), none⟩,
  ⟨some 90, .move (.tmp 11), none⟩,
  ⟨some 91, .move (.tmp 13), none⟩,
  ⟨some 92, .binOp .add 3 (.tmp 90) (.tmp 91) 3, none⟩,
  ⟨some 93, .slice 9 (.tmp 88) (some (.tmp 89)) (some (.tmp 92)) none, none⟩,
  ⟨some 94, .buildSlice 22 1 #[(0, .tmp 93)], none⟩,
  ⟨some 95, .call { callee := .builtin .append, args := #[.tmp 87, .tmp 94], argTypes := #[22, 22] }, none⟩,
  ⟨some 8, .assign (.tmp 95), none⟩]
def f9_r18 : List LOp := [
  ⟨some 96, .move (.tmp 9), none⟩,
  ⟨some 97, .move (.tmp 0), none⟩,
  ⟨some 98, .move (.tmp 11), none⟩,
  ⟨some 99, .move (.tmp 13), none⟩,
  ⟨some 100, .binOp .add 3 (.tmp 98) (.tmp 99) 3, none⟩,
  ⟨some 101, .binOp .add 3 (.tmp 100) (.const (.int .i64 3)) 3, none⟩,
  ⟨some 102, .move (.tmp 12), none⟩,
  ⟨some 103, .slice 9 (.tmp 97) (some (.tmp 101)) (some (.tmp 102)) none, none⟩,
  ⟨some 104, .buildSlice 22 1 #[(0, .tmp 103)], none⟩,
  ⟨some 105, .call { callee := .builtin .append, args := #[.tmp 96, .tmp 104], argTypes := #[22, 22] }, none⟩,
  ⟨some 9, .assign (.tmp 105), none⟩]
def f9_r19 : List LOp := [
  ⟨some 106, .move (.tmp 10), none⟩,
  ⟨some 107, .move (.tmp 11), none⟩,
  ⟨some 108, .move (.tmp 13), none⟩,
  ⟨some 109, .binOp .add 3 (.tmp 107) (.tmp 108) 3, none⟩,
  ⟨some 110, .binOp .add 3 (.tmp 109) (.const (.int .i64 3)) 3, none⟩,
  ⟨some 111, .buildSlice 67 1 #[(0, .tmp 110)], none⟩,
  ⟨some 112, .call { callee := .builtin .append, args := #[.tmp 106, .tmp 111], argTypes := #[67, 67] }, none⟩,
  ⟨some 10, .assign (.tmp 112), none⟩]
def f9_r20 : List LOp := [
  ⟨some 113, .move (.tmp 12), none⟩,
  ⟨some 114, .binOp .add 3 (.tmp 113) (.const (.int .i64 1)) 3, none⟩,
  ⟨some 11, .assign (.tmp 114), none⟩]
def f9_l21 : LC := (.seq (.seq (.reg f9_r8 [] none) (.cond (.tmp 43) .skip (.exit 0))) (.block 1 (.seq (.reg f9_r9 [] none) (.seq (.seq (.reg f9_r10 [] none) (.cond (.tmp 50) (.seq (.reg f9_r11 [] none) .ret) .skip)) (.seq (.seq (.reg f9_r12 [] none) (.cond (.tmp 55) (.seq (.reg f9_r13 [] none) .ret) .skip)) (.seq (.reg f9_r14 [] none) (.seq (.seq (.reg f9_r15 [] none) (.cond (.tmp 84) (.seq (.reg f9_r16 [] none) .ret) .skip)) (.seq (.reg f9_r17 [] none) (.seq (.reg f9_r18 [] none) (.seq (.reg f9_r19 [] none) (.reg f9_r20 [] none)))))))))))
def f9_i21 (t0 t1 t4 t7 t8 t9 t10 t11 : D) : List D := [t0, t1, .any, .any, t4, .any, .any, t7, t8, t9, t10, t11, .any, .any, .any, .any, .any, .any, .any, .any, .any, .any, .any, .any, .any, .any, .any, .any, .any, .any, .any, .any, .any, .any, .any, .any, .any, .any, .any, .any, .any, .any, .any, .any, .any, .any, .any, .any, .any, .any, .any, .any, .any, .any, .any, .any, .any, .any, .any, .any, .any, .any, .any, .any, .any, .any, .any, .any, .any, .any, .any, .any, .any, .any, .any, .any, .any, .any, .any, .any, .any, .any, .any, .any, .any, .any, .any, .any, .any, .any, .any, .any, .any, .any, .any, .any, .any, .any, .any, .any, .any, .any, .any, .any, .any, .any, .any, .any, .any, .any, .any, .any, .any, .any, .any, .any, .any, .any, .any, .any, .any, .any, .any, .any, .any, .any, .any, .any, .any, .any, .any, .any, .any, .any, .any, .any, .any, .any, .any, .any, .any, .any, .any, .any, .any, .any, .any, .any, .any, .any, .any, .any, .any, .any, .any, .any, .any, .any, .any, .any, .any, .any, .any, .any, .any, .any, .any, .any, .any]
def f9_r22 : List LOp := [
  ⟨some 115, .move (.tmp 8), none⟩,
  ⟨some 116, .call { callee := .builtin .len, args := #[.tmp 115], argTypes := #[22] }, none⟩,
  ⟨some 117, .binOp .eql 3 (.tmp 116) (.const (.int .i64 0)) 3, none⟩]
def f9_r23 : List LOp := [
  ⟨some 118, .load 26 (.tmp 7), none⟩,
  ⟨none, .store 26 (.tmp 4) (.tmp 118), none⟩,
  ⟨some 5, .assign (.const (.int .i64 0)), none⟩,
  ⟨some 6, .assign (.const (.int .i64 2)), none⟩]
def f9_r24 : List LOp := [
  ⟨some 119, .move (.tmp 1), none⟩,
  ⟨some 120, .build 26 #[(0, .tmp 119)], none⟩,
  ⟨some 14, .alloc 26, none⟩,
  ⟨none, .store 26 (.tmp 14) (.tmp 120), none⟩]
def f9_r25 : List LOp := [
  ⟨some 15, .assign (.const (.int .i64 0)), none⟩]
def f9_r26 : List LOp := [
  ⟨some 121, .move (.tmp 8), none⟩,
  ⟨some 122, .call { callee := .builtin .len, args := #[.tmp 121], argTypes := #[22] }, none⟩,
  ⟨some 123, .move (.const (.int .i64 0)), none⟩]
def f9_r27 : List LOp := [
  ⟨some 124, .binOp .lss 3 (.tmp 123) (.tmp 122) 3, none⟩]
def f9_r28 : List LOp := [
  ⟨some 125, .move (.tmp 123), none⟩,
  ⟨some 16, .assign (.tmp 125), none⟩]
def f9_r29 : List LOp := [
  ⟨some 126, .move (.tmp 9), none⟩,
  ⟨some 127, .move (.tmp 16), none⟩,
  ⟨some 128, .indexAddr 22 (.tmp 126) (.tmp 127), none⟩,
  ⟨some 129, .load 9 (.tmp 128), none⟩,
  ⟨some 130, .move (.tmp 1), none⟩,
  ⟨some 131, .move (.tmp 8), none⟩,
  ⟨some 132, .call { callee := .value (.func 33), args := #[.tmp 129, .tmp 130, .tmp 131], argTypes := #[9, 22, 22] }, none⟩,
  ⟨some 17, .alloc 72, none⟩,
  ⟨none, .store 72 (.tmp 17) (.tmp 132), none⟩]
def f9_r30 : List LOp := [
  ⟨some 133, .fieldAddr 72 (.tmp 17) 2, none⟩,
  ⟨some 134, .load 3 (.tmp 133), none⟩,
  ⟨some 135, .binOp .neq 3 (.tmp 134) (.const (.int .i64 0)) 3, none⟩]
def f9_r31 : List LOp := [
  ⟨some 136, .load 26 (.tmp 7), none⟩,
  ⟨some 137, .move (.tmp 10), none⟩,
  ⟨some 138, .move (.tmp 16), none⟩,
  ⟨some 139, .indexAddr 67 (.tmp 137) (.tmp 138), none⟩,
  ⟨some 140, .load 3 (.tmp 139), none⟩,
  ⟨some 141, .fieldAddr 72 (.tmp 17) 1, none⟩,
  ⟨some 142, .load 3 (.tmp 141), none⟩,
  ⟨some 143, .binOp .add 3 (.tmp 140) (.tmp 142) 3, none⟩,
  ⟨some 144, .fieldAddr 72 (.tmp 17) 2, none⟩,
  ⟨some 145, .load 3 (.tmp 144), none⟩,
  ⟨none, .store 26 (.tmp 4) (.tmp 136), none⟩,
  ⟨some 5, .assign (.tmp 143), none⟩,
  ⟨some 6, .assign (.tmp 145), none⟩]
def f9_r32 : List LOp := [
  ⟨some 146, .move (.tmp 15), none⟩,
  ⟨some 147, .fieldAddr 72 (.tmp 17) 0, none⟩,
  ⟨some 148, .load 40 (.tmp 147), none⟩,
  ⟨some 149, .call { callee := .value (.func 34), args := #[.tmp 148], argTypes := #[40] }, none⟩,
  ⟨some 150, .call { callee := .builtin .len, args := #[.tmp 149], argTypes := #[38] }, none⟩,
  ⟨some 151, .binOp .add 3 (.tmp 146) (.tmp 150) 3, none⟩,
  ⟨some 15, .assign (.tmp 151), none⟩]
def f9_r33 : List LOp := [
  ⟨some 152, .fieldAddr 26 (.tmp 14) 1, none⟩,
  ⟨some 153, .load 24 (.tmp 152), none⟩,
  ⟨some 154, .move (.tmp 8), none⟩,
  ⟨some 155, .move (.tmp 16), none⟩,
  ⟨some 156, .indexAddr 22 (.tmp 154) (.tmp 155), none⟩,
  ⟨some 157, .load 9 (.tmp 156), none⟩,
  ⟨some 158, .fieldAddr 72 (.tmp 17) 0, none⟩,
  ⟨some 159, .load 40 (.tmp 158), none⟩,
  ⟨some 160, .build 66 #[(0, .tmp 157), (1, .tmp 159)], none⟩,
  ⟨some 161, .buildSlice 24 1 #[(0, .tmp 160)], none⟩,
  ⟨some 162, .call { callee := .builtin .append, args := #[.tmp 153, .tmp 161], argTypes := #[24, 24] }, none⟩,
  ⟨some 163, .fieldAddr 26 (.tmp 14) 1, none⟩,
  ⟨none, .store 24 (.tmp 163) (.tmp 162), none⟩]
def f9_r34 : List LOp := [
  ⟨some 164, .binOp .add 3 (.tmp 123) (.const (.int .i64 1)) 3, none⟩,
  ⟨some 123, .move (.tmp 164), none⟩]
def f9_l35 : LC := (.seq (.reg f9_r27 [] none) (.seq (.cond (.tmp 124) .skip (.exit 2)) (.seq (.block 3 (.seq (.reg f9_r28 [] none) (.seq (.reg f9_r29 [] none) (.seq (.seq (.reg f9_r30 [] none) (.cond (.tmp 135) (.seq (.regq f9_r31 [] 0 (.free [[], [], [], [1, 2], [3], [], [5], [4, 6], [], [8], [0, 0], [7, 10, 0, 1, 2, 3, 4, 5, 6, 7, 10], [9, 11, 0, 1, 2, 3, 4, 5, 6, 7, 8, 9, 10, 11]])) .ret) .skip)) (.seq (.reg f9_r32 [] none) (.reg f9_r33 [] (some 10))))))) (.reg f9_r34 [] none))))
def f9_i35 (t1 t4 t7 t8 t9 t10 t14 t15 t122 t123 : D) : List D := [.any, t1, .any, .any, t4, .any, .any, t7, t8, t9, t10, .any, .any, .any, t14, t15, .any, .any, .any, .any, .any, .any, .any, .any, .any, .any, .any, .any, .any, .any, .any, .any, .any, .any, .any, .any, .any, .any, .any, .any, .any, .any, .any, .any, .any, .any, .any, .any, .any, .any, .any, .any, .any, .any, .any, .any, .any, .any, .any, .any, .any, .any, .any, .any, .any, .any, .any, .any, .any, .any, .any, .any, .any, .any, .any, .any, .any, .any, .any, .any, .any, .any, .any, .any, .any, .any, .any, .any, .any, .any, .any, .any, .any, .any, .any, .any, .any, .any, .any, .any, .any, .any, .any, .any, .any, .any, .any, .any, .any, .any, .any, .any, .any, .any, .any, .any, .any, .any, .any, .any, .any, .any, t122, t123, .any, .any, .any, .any, .any, .any, .any, .any, .any, .any, .any, .any, .any, .any, .any, .any, .any, .any, .any, .any, .any, .any, .any, .any, .any, .any, .any, .any, .any, .any, .any, .any, .any, .any, .any, .any, .any, .any, .any, .any, .any, .any, .any, .any, .any]
def f9_r36 : List LOp := [
  ⟨some 165, .move (.tmp 15), none⟩,
  ⟨some 166, .binOp .gtr 3 (.tmp 165) (.const (.int .i64 2000)) 3, none⟩]
def f9_r37 : List LOp := [
  ⟨some 167, .load 26 (.tmp 7), none⟩,
  ⟨none, .store 26 (.tmp 4) (.tmp 167), none⟩,
  ⟨some 5, .assign (.const (.int .i64 0)), none⟩,
  ⟨some 6, .assign (.const (.int .i64 4)), none⟩]
def f9_r38 : List LOp := [
  ⟨some 168, .load 26 (.tmp 14), none⟩,
  ⟨none, .store 26 (.tmp 4) (.tmp 168), none⟩,
  ⟨some 5, .assign (.const (.int .i64 0)), none⟩,
  ⟨some 6, .assign (.const (.int .i64 0)), none⟩]
def f9_c : LC := (.seq (.reg f9_r0 [] none) (.seq (.reg f9_r1 [] none) (.seq (.seq (.reg f9_r2 [] none) (.cond (.tmp 21) (.seq (.reg f9_r3 [] none) .ret) .skip)) (.seq (.seq (.reg f9_r4 [] none) (.cond (.tmp 35) (.seq (.reg f9_r5 [] none) .ret) .skip)) (.seq (.reg f9_r6 [0, 1, 2] none) (.seq (.reg f9_r7 [] none) (.seq (.block 0 (.loop f9_l21)) (.seq (.seq (.reg f9_r22 [] none) (.cond (.tmp 117) (.seq (.reg f9_r23 [] none) .ret) .skip)) (.seq (.reg f9_r24 [] none) (.seq (.reg f9_r25 [] none) (.seq (.seq (.reg f9_r26 [] none) (.block 2 (.loop f9_l35))) (.seq (.seq (.reg f9_r36 [] none) (.cond (.tmp 166) (.seq (.reg f9_r37 [] none) .ret) .skip)) (.seq (.reg f9_r38 [] none) .ret)))))))))))))
theorem f9_lc : Tryz.f9.body.map lc = some f9_c.st := by kernel_rfl
theorem f9_res : Tryz.f9.results.toList = [.cell 4 26, .tmp 5, .tmp 6] := by kernel_rfl
theorem f9_nt : Tryz.f9.ntmps = 169 := by kernel_rfl
theorem f9_nm : (Tryz.f9.name == "runtime.NumGoroutine") = false := by kernel_rfl
/-! quill/quillref21.SameAll -/
def f10_r0 : List LOp := [
  ⟨some 2, .box 26 (.tmp 0), none⟩,
  ⟨some 3, .box 26 (.tmp 1), none⟩,
  ⟨some 4, .assign (.const (.bool false)), none⟩]
def f10_r1 : List LOp := [
  ⟨some 7, .fieldAddr 26 (.tmp 2) 0, none⟩,
  ⟨some 8, .load 22 (.tmp 7), none⟩,
  ⟨some 9, .call { callee := .builtin .len, args := #[.tmp 8], argTypes := #[22] }, none⟩,
  ⟨some 10, .fieldAddr 26 (.tmp 3) 0, none⟩,
  ⟨some 11, .load 22 (.tmp 10), none⟩,
  ⟨some 12, .call { callee := .builtin .len, args := #[.tmp 11], argTypes := #[22] }, none⟩,
  ⟨some 13, .binOp .neq 3 (.tmp 9) (.tmp 12) 3, none⟩,
  ⟨some 14, .move (.tmp 13), none⟩,
  ⟨some 15, .fieldAddr 26 (.tmp 2) 1, some (7, false)⟩,
  ⟨some 16, .load 24 (.tmp 15), some (7, false)⟩,
  ⟨some 17, .call { callee := .builtin .len, args := #[.tmp 16], argTypes := #[24] }, some (7, false)⟩,
  ⟨some 18, .fieldAddr 26 (.tmp 3) 1, some (7, false)⟩,
  ⟨some 19, .load 24 (.tmp 18), some (7, false)⟩,
  ⟨some 20, .call { callee := .builtin .len, args := #[.tmp 19], argTypes := #[24] }, some (7, false)⟩,
  ⟨some 21, .binOp .neq 3 (.tmp 17) (.tmp 20) 3, some (7, false)⟩,
  ⟨some 22, .pick (.tmp 14) (.const (.bool true)) (.tmp 21), none⟩]
def f10_r2 : List LOp := [
  ⟨some 4, .assign (.const (.bool false)), none⟩]
def f10_r3 : List LOp := [
  ⟨some 23, .fieldAddr 26 (.tmp 2) 0, none⟩,
  ⟨some 24, .load 22 (.tmp 23), none⟩,
  ⟨some 25, .call { callee := .builtin .len, args := #[.tmp 24], argTypes := #[22] }, none⟩,
  ⟨some 26, .move (.const (.int .i64 0)), none⟩]
def f10_r4 : List LOp := [
  ⟨some 27, .binOp .lss 3 (.tmp 26) (.tmp 25) 3, none⟩]
def f10_r5 : List LOp := [
  ⟨some 28, .move (.tmp 26), none⟩,
  ⟨some 5, .assign (.tmp 28), none⟩]
def f10_r6 : List LOp := [
  ⟨some 29, .fieldAddr 26 (.tmp 2) 0, none⟩,
  ⟨some 30, .load 22 (.tmp 29), none⟩,
  ⟨some 31, .move (.tmp 5), none⟩,
  ⟨some 32, .indexAddr 22 (.tmp 30) (.tmp 31), none⟩,
  ⟨some 33, .load 9 (.tmp 32), none⟩,
  ⟨some 34, .fieldAddr 26 (.tmp 3) 0, none⟩,
  ⟨some 35, .load 22 (.tmp 34), none⟩,
  ⟨some 36, .move (.tmp 5), none⟩,
  ⟨some 37, .indexAddr 22 (.tmp 35) (.tmp 36), none⟩,
  ⟨some 38, .load 9 (.tmp 37), none⟩,
  ⟨some 39, .binOp .neq 9 (.tmp 33) (.tmp 38) 9, none⟩]
def f10_r7 : List LOp := [
  ⟨some 4, .assign (.const (.bool false)), none⟩]
def f10_r8 : List LOp := [
  ⟨some 40, .binOp .add 3 (.tmp 26) (.const (.int .i64 1)) 3, none⟩,
  ⟨some 26, .move (.tmp 40), none⟩]
def f10_l9 : LC := (.seq (.reg f10_r4 [] none) (.seq (.cond (.tmp 27) .skip (.exit 0)) (.seq (.block 1 (.seq (.reg f10_r5 [] none) (.seq (.reg f10_r6 [] (some 10)) (.cond (.tmp 39) (.seq (.reg f10_r7 [] none) .ret) .skip)))) (.reg f10_r8 [] none))))
def f10_i9 (t2 t3 t25 t26 : D) : List D := [.any, .any, t2, t3, .any, .any, .any, .any, .any, .any, .any, .any, .any, .any, .any, .any, .any, .any, .any, .any, .any, .any, .any, .any, .any, t25, t26, .any, .any, .any, .any, .any, .any, .any, .any, .any, .any, .any, .any, .any, .any, .any, .any, .any, .any, .any, .any, .any, .any, .any, .any, .any, .any, .any, .any, .any, .any, .any, .any, .any, .any, .any, .any, .any, .any, .any, .any, .any, .any, .any, .any, .any, .any, .any, .any, .any, .any]
def f10_r10 : List LOp := [
  ⟨some 41, .fieldAddr 26 (.tmp 2) 1, none⟩,
  ⟨some 42, .load 24 (.tmp 41), none⟩,
  ⟨some 43, .call { callee := .builtin .len, args := #[.tmp 42], argTypes := #[24] }, none⟩,
  ⟨some 44, .move (.const (.int .i64 0)), none⟩]
def f10_r11 : List LOp := [
  ⟨some 45, .binOp .lss 3 (.tmp 44) (.tmp 43) 3, none⟩]
def f10_r12 : List LOp := [
  ⟨some 46, .move (.tmp 44), none⟩,
  ⟨some 6, .assign (.tmp 46), none⟩]
def f10_r13 : List LOp := [
  ⟨some 47, .fieldAddr 26 (.tmp 2) 1, none⟩,
  ⟨some 48, .load 24 (.tmp 47), none⟩,
  ⟨some 49, .move (.tmp 6), none⟩,
  ⟨some 50, .indexAddr 24 (.tmp 48) (.tmp 49), none⟩,
  ⟨some 51, .fieldAddr 66 (.tmp 50) 0, none⟩,
  ⟨some 52, .load 9 (.tmp 51), none⟩,
  ⟨some 53, .fieldAddr 26 (.tmp 3) 1, none⟩,
  ⟨some 54, .load 24 (.tmp 53), none⟩,
  ⟨some 55, .move (.tmp 6), none⟩,
  ⟨some 56, .indexAddr 24 (.tmp 54) (.tmp 55), none⟩,
  ⟨some 57, .fieldAddr 66 (.tmp 56) 0, none⟩,
  ⟨some 58, .load 9 (.tmp 57), none⟩,
  ⟨some 59, .binOp .neq 9 (.tmp 52) (.tmp 58) 9, none⟩,
  ⟨some 60, .move (.tmp 59), none⟩,
  ⟨some 61, .fieldAddr 26 (.tmp 2) 1, some (13, false)⟩,
  ⟨some 62, .load 24 (.tmp 61), some (13, false)⟩,
  ⟨some 63, .move (.tmp 6), some (13, false)⟩,
  ⟨some 64, .indexAddr 24 (.tmp 62) (.tmp 63), some (13, false)⟩,
  ⟨some 65, .fieldAddr 66 (.tmp 64) 1, some (13, false)⟩,
  ⟨some 66, .load 40 (.tmp 65), some (13, false)⟩,
  ⟨some 67, .fieldAddr 26 (.tmp 3) 1, some (13, false)⟩,
  ⟨some 68, .load 24 (.tmp 67), some (13, false)⟩,
  ⟨some 69, .move (.tmp 6), some (13, false)⟩,
  ⟨some 70, .indexAddr 24 (.tmp 68) (.tmp 69), some (13, false)⟩,
  ⟨some 71, .fieldAddr 66 (.tmp 70) 1, some (13, false)⟩,
  ⟨some 72, .load 40 (.tmp 71), some (13, false)⟩,
  ⟨some 73, .call { callee := .value (.func 23), args := #[.tmp 66, .tmp 72], argTypes := #[40, 40] }, some (13, false)⟩,
  ⟨some 74, .unOp .not 4 (.tmp 73), some (13, false)⟩,
  ⟨some 75, .pick (.tmp 60) (.const (.bool true)) (.tmp 74), none⟩]
def f10_r14 : List LOp := [
  ⟨some 4, .assign (.const (.bool false)), none⟩]
def f10_r15 : List LOp := [
  ⟨some 76, .binOp .add 3 (.tmp 44) (.const (.int .i64 1)) 3, none⟩,
  ⟨some 44, .move (.tmp 76), none⟩]
def f10_l16 : LC := (.seq (.reg f10_r11 [] none) (.seq (.cond (.tmp 45) .skip (.exit 2)) (.seq (.block 3 (.seq (.reg f10_r12 [] none) (.seq (.reg f10_r13 [] (some 29)) (.cond (.tmp 75) (.seq (.reg f10_r14 [] none) .ret) .skip)))) (.reg f10_r15 [] none))))
def f10_i16 (t2 t3 t43 t44 : D) : List D := [.any, .any, t2, t3, .any, .any, .any, .any, .any, .any, .any, .any, .any, .any, .any, .any, .any, .any, .any, .any, .any, .any, .any, .any, .any, .any, .any, .any, .any, .any, .any, .any, .any, .any, .any, .any, .any, .any, .any, .any, .any, .any, .any, t43, t44, .any, .any, .any, .any, .any, .any, .any, .any, .any, .any, .any, .any, .any, .any, .any, .any, .any, .any, .any, .any, .any, .any, .any, .any, .any, .any, .any, .any, .any, .any, .any, .any]
def f10_r17 : List LOp := [
  ⟨some 4, .assign (.const (.bool true)), none⟩]
def f10_c : LC := (.seq (.reg f10_r0 [] none) (.seq (.seq (.reg f10_r1 [] none) (.cond (.tmp 22) (.seq (.reg f10_r2 [] none) .ret) .skip)) (.seq (.seq (.reg f10_r3 [] none) (.block 0 (.loop f10_l9))) (.seq (.seq (.reg f10_r10 [] none) (.block 2 (.loop f10_l16))) (.seq (.reg f10_r17 [] none) .ret)))))
theorem f10_lc : Tryz.f10.body.map lc = some f10_c.st := by kernel_rfl
theorem f10_res : Tryz.f10.results.toList = [.tmp 4] := by kernel_rfl
theorem f10_nt : Tryz.f10.ntmps = 77 := by kernel_rfl
theorem f10_nm : (Tryz.f10.name == "runtime.NumGoroutine") = false := by kernel_rfl
/-! quill/quillref21.Great -/
/-! quill/quillref21.May -/
/-! quill/cfx.Print -/
def f13_r0 : List LOp := [
  ⟨some 1, .box 26 (.tmp 0), none⟩,
  ⟨some 2, .assign (.const (.string { data := #[] })), none⟩,
  ⟨some 3, .assign (.const (.int .i64 0)), none⟩]
def f13_r1 : List LOp := [
  ⟨some 7, .load 26 (.tmp 1), none⟩,
  ⟨some 8, .call { callee := .value (.func 28), args := #[.tmp 7], argTypes := #[26] }, none⟩,
  ⟨some 9, .unOp .not 4 (.tmp 8), none⟩]
def f13_r2 : List LOp := [
  ⟨some 2, .assign (.const (.string { data := #[] })), none⟩,
  ⟨some 3, .assign (.const (.int .i64 1)), none⟩]
def f13_r3 : List LOp := [
  ⟨some 10, .load 26 (.tmp 1), none⟩,
  ⟨some 11, .build 84 #[(1, .tmp 10)], none⟩,
  ⟨some 12, .box 84 (.tmp 11), none⟩,
  ⟨some 4, .assign (.tmp 12), none⟩]
def f13_r4 : List LOp := [
  ⟨some 13, .fieldAddr 26 (.tmp 1) 1, none⟩,
  ⟨some 14, .load 24 (.tmp 13), none⟩,
  ⟨some 15, .call { callee := .builtin .len, args := #[.tmp 14], argTypes := #[24] }, none⟩,
  ⟨some 16, .move (.const (.int .i64 0)), none⟩]
def f13_r5 : List LOp := [
  ⟨some 17, .binOp .lss 3 (.tmp 16) (.tmp 15) 3, none⟩]
def f13_r6 : List LOp := [
  ⟨some 18, .indexAddr 24 (.tmp 14) (.tmp 16), none⟩,
  ⟨some 19, .load 66 (.tmp 18), none⟩,
  ⟨some 6, .alloc 66, none⟩,
  ⟨none, .store 66 (.tmp 6) (.tmp 19), none⟩]
def f13_r7 : List LOp := [
  ⟨some 20, .move (.tmp 4), none⟩,
  ⟨some 21, .nilCheck (.tmp 20), none⟩,
  ⟨some 22, .fieldAddr 84 (.tmp 21) 0, none⟩,
  ⟨some 23, .fieldAddr 66 (.tmp 6) 0, none⟩,
  ⟨some 24, .load 9 (.tmp 23), none⟩,
  ⟨some 25, .binOp .add 9 (.tmp 24) (.const (.string { data := #[32, 61, 32] })) 9, none⟩,
  ⟨some 26, .call { callee := .value (.func 38), args := #[.tmp 22, .tmp 25], argTypes := #[82, 9] }, none⟩]
def f13_r8 : List LOp := [
  ⟨some 27, .move (.tmp 4), none⟩,
  ⟨some 28, .fieldAddr 66 (.tmp 6) 1, none⟩,
  ⟨some 29, .load 40 (.tmp 28), none⟩,
  ⟨some 30, .call { callee := .value (.func 39), args := #[.tmp 27, .tmp 29, .const (.slice none 0 0)], argTypes := #[78, 40, 80] }, none⟩]
def f13_r9 : List LOp := [
  ⟨some 31, .move (.tmp 4), none⟩,
  ⟨some 32, .nilCheck (.tmp 31), none⟩,
  ⟨some 33, .fieldAddr 84 (.tmp 32) 0, none⟩,
  ⟨some 34, .call { callee := .value (.func 40), args := #[.tmp 33, .const (.int .u8 10)], argTypes := #[82, 5] }, none⟩]
def f13_r10 : List LOp := [
  ⟨some 35, .binOp .add 3 (.tmp 16) (.const (.int .i64 1)) 3, none⟩,
  ⟨some 16, .move (.tmp 35), none⟩]
def f13_l11 : LC := (.seq (.reg f13_r5 [] none) (.seq (.cond (.tmp 17) .skip (.exit 0)) (.seq (.block 1 (.seq (.reg f13_r6 [] none) (.seq (.reg f13_r7 [] (some 6)) (.seq (.reg f13_r8 [] none) (.reg f13_r9 [] none))))) (.reg f13_r10 [] none))))
def f13_i11 (t4 t14 t15 t16 : D) : List D := [.any, .any, .any, .any, t4, .any, .any, .any, .any, .any, .any, .any, .any, .any, t14, t15, t16, .any, .any, .any, .any, .any, .any, .any, .any, .any, .any, .any, .any, .any, .any, .any, .any, .any, .any, .any, .any, .any, .any, .any, .any, .any, .any, .any, .any]
def f13_r12 : List LOp := [
  ⟨some 36, .move (.tmp 4), none⟩,
  ⟨some 37, .nilCheck (.tmp 36), none⟩,
  ⟨some 38, .fieldAddr 84 (.tmp 37) 0, none⟩,
  ⟨some 39, .call { callee := .value (.func 41), args := #[.tmp 38], argTypes := #[82] }, none⟩,
  ⟨some 40, .binOp .gtr 3 (.tmp 39) (.const (.int .i64 65536)) 3, none⟩]
def f13_r13 : List LOp := [
  ⟨some 2, .assign (.const (.string { data := #[] })), none⟩,
  ⟨some 3, .assign (.const (.int .i64 3)), none⟩]
def f13_r14 : List LOp := [
  ⟨some 41, .move (.tmp 4), none⟩,
  ⟨some 42, .nilCheck (.tmp 41), none⟩,
  ⟨some 43, .fieldAddr 84 (.tmp 42) 0, none⟩,
  ⟨some 44, .call { callee := .value (.func 42), args := #[.tmp 43], argTypes := #[82] }, none⟩,
  ⟨some 2, .assign (.tmp 44), none⟩,
  ⟨some 3, .assign (.const (.int .i64 0)), none⟩]
def f13_c : LC := (.seq (.reg f13_r0 [] none) (.seq (.seq (.reg f13_r1 [] none) (.cond (.tmp 9) (.seq (.reg f13_r2 [] none) .ret) .skip)) (.seq (.reg f13_r3 [2] none) (.seq (.seq (.reg f13_r4 [] none) (.block 0 (.loop f13_l11))) (.seq (.seq (.reg f13_r12 [] none) (.cond (.tmp 40) (.seq (.reg f13_r13 [] none) .ret) .skip)) (.seq (.reg f13_r14 [] none) .ret))))))
theorem f13_lc : Tryz.f13.body.map lc = some f13_c.st := by kernel_rfl
theorem f13_res : Tryz.f13.results.toList = [.tmp 2, .tmp 3] := by kernel_rfl
theorem f13_nt : Tryz.f13.ntmps = 45 := by kernel_rfl
theorem f13_nm : (Tryz.f13.name == "runtime.NumGoroutine") = false := by kernel_rfl
/-! quill/quillref21.Wide -/
/-! quill/quillref21.Fits -/
/-! quill/quillref21.Text -/
/-! quill/quillref21.Print -/
/-! quill/cfx.Fits -/
/-! quill/cfx.Text -/
/-! quill/cfx.May -/
def f20_r0 : List LOp := [
  ⟨some 2, .assign (.const (.bool false)), none⟩]
def f20_r1 : List LOp := [
  ⟨some 3, .move (.tmp 0), none⟩,
  ⟨some 4, .call { callee := .value (.func 48), args := #[.tmp 3, .func 49], argTypes := #[37, 34] }, none⟩,
  ⟨some 5, .unOp .not 4 (.tmp 4), none⟩,
  ⟨some 2, .assign (.tmp 5), none⟩]
def f20_c : LC := (.seq (.reg f20_r0 [] none) (.seq (.reg f20_r1 [] none) .ret))
theorem f20_lc : Tryz.f20.body.map lc = some f20_c.st := by kernel_rfl
theorem f20_res : Tryz.f20.results.toList = [.tmp 2] := by kernel_rfl
theorem f20_nt : Tryz.f20.ntmps = 6 := by kernel_rfl
theorem f20_nm : (Tryz.f20.name == "runtime.NumGoroutine") = false := by kernel_rfl
/-! quill/cfx.One -/
/-! quill/quillref21.One -/
/-! quill/quillref21.Same -/
def f23_r0 : List LOp := [
  ⟨some 2, .box 40 (.tmp 0), none⟩,
  ⟨some 3, .box 40 (.tmp 1), none⟩,
  ⟨some 4, .assign (.const (.bool false)), none⟩]
def f23_r1 : List LOp := [
  ⟨some 6, .fieldAddr 40 (.tmp 2) 0, none⟩,
  ⟨some 7, .load 5 (.tmp 6), none⟩,
  ⟨some 8, .fieldAddr 40 (.tmp 3) 0, none⟩,
  ⟨some 9, .load 5 (.tmp 8), none⟩,
  ⟨some 10, .binOp .neq 5 (.tmp 7) (.tmp 9) 5, none⟩,
  ⟨some 11, .move (.tmp 10), none⟩,
  ⟨some 12, .fieldAddr 40 (.tmp 2) 1, some (5, false)⟩,
  ⟨some 13, .load 3 (.tmp 12), some (5, false)⟩,
  ⟨some 14, .fieldAddr 40 (.tmp 3) 1, some (5, false)⟩,
  ⟨some 15, .load 3 (.tmp 14), some (5, false)⟩,
  ⟨some 16, .binOp .neq 3 (.tmp 13) (.tmp 15) 3, some (5, false)⟩,
  ⟨some 17, .pick (.tmp 11) (.const (.bool true)) (.tmp 16), none⟩,
  ⟨some 18, .move (.tmp 17), none⟩,
  ⟨some 19, .fieldAddr 40 (.tmp 2) 2, some (12, false)⟩,
  ⟨some 20, .load 38 (.tmp 19), some (12, false)⟩,
  ⟨some 21, .call { callee := .builtin .len, args := #[.tmp 20], argTypes := #[38] }, some (12, false)⟩,
  ⟨some 22, .fieldAddr 40 (.tmp 3) 2, some (12, false)⟩,
  ⟨some 23, .load 38 (.tmp 22), some (12, false)⟩,
  ⟨some 24, .call { callee := .builtin .len, args := #[.tmp 23], argTypes := #[38] }, some (12, false)⟩,
  ⟨some 25, .binOp .neq 3 (.tmp 21) (.tmp 24) 3, some (12, false)⟩,
  ⟨some 26, .pick (.tmp 18) (.const (.bool true)) (.tmp 25), none⟩]
def f23_r2 : List LOp := [
  ⟨some 4, .assign (.const (.bool false)), none⟩]
def f23_r3 : List LOp := [
  ⟨some 27, .fieldAddr 40 (.tmp 2) 2, none⟩,
  ⟨some 28, .load 38 (.tmp 27), none⟩,
  ⟨some 29, .call { callee := .builtin .len, args := #[.tmp 28], argTypes := #[38] }, none⟩,
  ⟨some 30, .move (.const (.int .i64 0)), none⟩]
def f23_r4 : List LOp := [
  ⟨some 31, .binOp .lss 3 (.tmp 30) (.tmp 29) 3, none⟩]
def f23_r5 : List LOp := [
  ⟨some 32, .move (.tmp 30), none⟩,
  ⟨some 5, .assign (.tmp 32), none⟩]
def f23_r6 : List LOp := [
  ⟨some 33, .fieldAddr 40 (.tmp 2) 2, none⟩,
  ⟨some 34, .load 38 (.tmp 33), none⟩,
  ⟨some 35, .move (.tmp 5), none⟩,
  ⟨some 36, .indexAddr 38 (.tmp 34) (.tmp 35), none⟩,
  ⟨some 37, .load 40 (.tmp 36), none⟩,
  ⟨some 38, .fieldAddr 40 (.tmp 3) 2, none⟩,
  ⟨some 39, .load 38 (.tmp 38), none⟩,
  ⟨some 40, .move (.tmp 5), none⟩,
  ⟨some 41, .indexAddr 38 (.tmp 39) (.tmp 40), none⟩,
  ⟨some 42, .load 40 (.tmp 41), none⟩,
  ⟨some 43, .call { callee := .value (.func 23), args := #[.tmp 37, .tmp 42], argTypes := #[40, 40] }, none⟩,
  ⟨some 44, .unOp .not 4 (.tmp 43), none⟩]
def f23_r7 : List LOp := [
  ⟨some 4, .assign (.const (.bool false)), none⟩]
def f23_r8 : List LOp := [
  ⟨some 45, .binOp .add 3 (.tmp 30) (.const (.int .i64 1)) 3, none⟩,
  ⟨some 30, .move (.tmp 45), none⟩]
def f23_l9 : LC := (.seq (.reg f23_r4 [] none) (.seq (.cond (.tmp 31) .skip (.exit 0)) (.seq (.block 1 (.seq (.reg f23_r5 [] none) (.seq (.reg f23_r6 [] (some 10)) (.cond (.tmp 44) (.seq (.reg f23_r7 [] none) .ret) .skip)))) (.reg f23_r8 [] none))))
def f23_i9 (t2 t3 t29 t30 : D) : List D := [.any, .any, t2, t3, .any, .any, .any, .any, .any, .any, .any, .any, .any, .any, .any, .any, .any, .any, .any, .any, .any, .any, .any, .any, .any, .any, .any, .any, .any, t29, t30, .any, .any, .any, .any, .any, .any, .any, .any, .any, .any, .any, .any, .any, .any, .any]
def f23_r10 : List LOp := [
  ⟨some 4, .assign (.const (.bool true)), none⟩]
def f23_c : LC := (.seq (.reg f23_r0 [] none) (.seq (.seq (.reg f23_r1 [] none) (.cond (.tmp 26) (.seq (.reg f23_r2 [] none) .ret) .skip)) (.seq (.seq (.reg f23_r3 [] none) (.block 0 (.loop f23_l9))) (.seq (.reg f23_r10 [] none) .ret))))
theorem f23_lc : Tryz.f23.body.map lc = some f23_c.st := by kernel_rfl
theorem f23_res : Tryz.f23.results.toList = [.tmp 4] := by kernel_rfl
theorem f23_nt : Tryz.f23.ntmps = 46 := by kernel_rfl
theorem f23_nm : (Tryz.f23.name == "runtime.NumGoroutine") = false := by kernel_rfl
/-! quill/cfx.once -/
def f24_r0 : List LOp := [
  ⟨some 2, .assign (.const (.bool false)), none⟩]
def f24_r1 : List LOp := [
  ⟨some 3, .move (.tmp 0), none⟩,
  ⟨some 4, .call { callee := .value (.func 52), args := #[.tmp 3], argTypes := #[22] }, none⟩,
  ⟨some 5, .call { callee := .value (.func 51), args := #[.tmp 4], argTypes := #[100] }, none⟩,
  ⟨some 0, .assign (.tmp 5), none⟩]
def f24_r2 : List LOp := [
  ⟨some 6, .move (.tmp 0), none⟩,
  ⟨some 7, .call { callee := .value (.func 53), args := #[.tmp 6], argTypes := #[22] }, none⟩,
  ⟨some 8, .move (.tmp 7), none⟩,
  ⟨some 9, .move (.tmp 0), some (2, true)⟩,
  ⟨some 10, .call { callee := .value (.func 26), args := #[.tmp 9], argTypes := #[22] }, some (2, true)⟩,
  ⟨some 11, .call { callee := .value (.func 54), args := #[.tmp 10], argTypes := #[22] }, some (2, true)⟩,
  ⟨some 12, .call { callee := .builtin .len, args := #[.tmp 11], argTypes := #[22] }, some (2, true)⟩,
  ⟨some 13, .move (.tmp 0), some (2, true)⟩,
  ⟨some 14, .call { callee := .builtin .len, args := #[.tmp 13], argTypes := #[22] }, some (2, true)⟩,
  ⟨some 15, .binOp .eql 3 (.tmp 12) (.tmp 14) 3, some (2, true)⟩,
  ⟨some 16, .pick (.tmp 8) (.tmp 15) (.const (.bool false)), none⟩,
  ⟨some 2, .assign (.tmp 16), none⟩]
def f24_c : LC := (.seq (.reg f24_r0 [] none) (.seq (.reg f24_r1 [] none) (.seq (.reg f24_r2 [] none) .ret)))
theorem f24_lc : Tryz.f24.body.map lc = some f24_c.st := by kernel_rfl
theorem f24_res : Tryz.f24.results.toList = [.tmp 2] := by kernel_rfl
theorem f24_nt : Tryz.f24.ntmps = 17 := by kernel_rfl
theorem f24_nm : (Tryz.f24.name == "runtime.NumGoroutine") = false := by kernel_rfl
/-! quill/cfx.lines -/
def f25_r0 : List LOp := [
  ⟨some 2, .box 9 (.tmp 0), none⟩,
  ⟨some 4, .alloc 55, none⟩,
  ⟨some 5, .alloc 3, none⟩,
  ⟨some 6, .alloc 27, none⟩]
def f25_r1 : List LOp := [
  ⟨some 7, .alloc 55, none⟩]
def f25_r2 : List LOp := [
  ⟨some 16, .move (.tmp 1), none⟩,
  ⟨some 17, .call { callee := .value (.func 26), args := #[.tmp 16], argTypes := #[22] }, none⟩,
  ⟨some 8, .alloc 22, none⟩,
  ⟨none, .store 22 (.tmp 8) (.tmp 17), none⟩]
def f25_r3 : List LOp := [
  ⟨some 9, .alloc 3, none⟩,
  ⟨none, .store 3 (.tmp 9) (.const (.int .i64 0)), none⟩]
def f25_r4 : List LOp := [
  ⟨some 18, .load 9 (.tmp 2), none⟩,
  ⟨some 19, .call { callee := .value (.func 55), args := #[.tmp 18], argTypes := #[9] }, none⟩]
def f25_r5 : List LOp := [
  ⟨some 10, .assign (.tmp 20), none⟩]
def f25_r6 : List LOp := [
  ⟨some 22, .move (.tmp 10), none⟩,
  ⟨some 23, .call { callee := .value (.func 56), args := #[.tmp 22, .const (.string { data := #[10] })], argTypes := #[9, 9] }, none⟩,
  ⟨some 21, .move (.tmp 23), none⟩,
  ⟨some 24, .extract (.tmp 21) 0, none⟩,
  ⟨some 25, .extract (.tmp 21) 1, none⟩,
  ⟨some 11, .assign (.tmp 24), none⟩,
  ⟨some 12, .assign (.tmp 25), none⟩]
def f25_r7 : List LOp := [
  ⟨some 27, .move (.tmp 11), none⟩,
  ⟨some 28, .call { callee := .value (.func 57), args := #[.tmp 27, .const (.string { data := #[32, 61, 32] })], argTypes := #[9, 9] }, none⟩,
  ⟨some 26, .move (.tmp 28), none⟩,
  ⟨some 29, .extract (.tmp 26) 0, none⟩,
  ⟨some 30, .extract (.tmp 26) 1, none⟩,
  ⟨some 31, .extract (.tmp 26) 2, none⟩,
  ⟨some 13, .assign (.tmp 29), none⟩,
  ⟨some 14, .assign (.tmp 30), none⟩,
  ⟨some 15, .assign (.tmp 31), none⟩]
def f25_r8 : List LOp := [
  ⟨some 33, .move (.tmp 12), none⟩,
  ⟨some 34, .unOp .not 4 (.tmp 33), none⟩,
  ⟨some 32, .assign (.tmp 34), none⟩]
def f25_r9 : List LOp := [
  ⟨some 35, .load 9 (.tmp 2), none⟩,
  ⟨some 36, .call { callee := .builtin .len, args := #[.tmp 35], argTypes := #[9] }, none⟩,
  ⟨none, .store 55 (.tmp 4) (.const (.slice none 0 0)), none⟩,
  ⟨none, .store 3 (.tmp 5) (.tmp 36), none⟩,
  ⟨none, .store 27 (.tmp 6) (.const (.int .i64 2)), none⟩]
def f25_r10 : List LOp := [
  ⟨some 38, .load 55 (.tmp 7), none⟩,
  ⟨some 39, .call { callee := .builtin .len, args := #[.tmp 38], argTypes := #[55] }, none⟩,
  ⟨some 40, .binOp .geq 3 (.tmp 39) (.const (.int .i64 50)) 3, none⟩,
  ⟨some 37, .assign (.tmp 40), none⟩]
def f25_r11 : List LOp := [
  ⟨some 41, .load 3 (.tmp 9), none⟩,
  ⟨none, .store 55 (.tmp 4) (.const (.slice none 0 0)), none⟩,
  ⟨none, .store 3 (.tmp 5) (.tmp 41), none⟩,
  ⟨none, .store 27 (.tmp 6) (.const (.int .i64 4)), none⟩]
def f25_r12 : List LOp := [
  ⟨some 43, .move (.tmp 15), none⟩,
  ⟨some 44, .unOp .not 4 (.tmp 43), none⟩,
  ⟨some 45, .move (.tmp 44), none⟩,
  ⟨some 46, .move (.tmp 13), some (2, false)⟩,
  ⟨some 47, .buildSlice 22 1 #[(0, .tmp 46)], some (2, false)⟩,
  ⟨some 48, .call { callee := .value (.func 53), args := #[.tmp 47], argTypes := #[22] }, some (2, false)⟩,
  ⟨some 49, .unOp .not 4 (.tmp 48), some (2, false)⟩,
  ⟨some 50, .pick (.tmp 45) (.const (.bool true)) (.tmp 49), none⟩,
  ⟨some 51, .move (.tmp 50), none⟩,
  ⟨some 52, .load 22 (.tmp 8), some (8, false)⟩,
  ⟨some 53, .move (.tmp 13), some (8, false)⟩,
  ⟨some 54, .call { callee := .value (.func 58), args := #[.tmp 52, .tmp 53], argTypes := #[22, 9] }, some (8, false)⟩,
  ⟨some 55, .pick (.tmp 51) (.const (.bool true)) (.tmp 54), none⟩,
  ⟨some 42, .assign (.tmp 55), none⟩]
def f25_r13 : List LOp := [
  ⟨some 56, .load 3 (.tmp 9), none⟩,
  ⟨none, .store 55 (.tmp 4) (.const (.slice none 0 0)), none⟩,
  ⟨none, .store 3 (.tmp 5) (.tmp 56), none⟩,
  ⟨none, .store 27 (.tmp 6) (.const (.int .i64 2)), none⟩]
def f25_r14 : List LOp := [
  ⟨some 57, .load 22 (.tmp 8), none⟩,
  ⟨some 58, .move (.tmp 13), none⟩,
  ⟨some 59, .buildSlice 22 1 #[(0, .tmp 58)], none⟩,
  ⟨some 60, .call { callee := .builtin .append, args := #[.tmp 57, .tmp 59], argTypes := #[22, 22] }, none⟩,
  ⟨none, .store 22 (.tmp 8) (.tmp 60), none⟩]
def f25_r15 : List LOp := [
  ⟨some 61, .load 55 (.tmp 7), none⟩,
  ⟨some 62, .load 3 (.tmp 9), none⟩,
  ⟨some 63, .move (.tmp 13), none⟩,
  ⟨some 64, .move (.tmp 14), none⟩,
  ⟨some 65, .build 60 #[(0, .tmp 62), (1, .tmp 63), (2, .tmp 64)], none⟩,
  ⟨some 66, .buildSlice 55 1 #[(0, .tmp 65)], none⟩,
  ⟨some 67, .call { callee := .builtin .append, args := #[.tmp 61, .tmp 66], argTypes := #[55, 55] }, none⟩,
  ⟨none, .store 55 (.tmp 7) (.tmp 67), none⟩]
def f25_r16 : List LOp := [
  ⟨some 68, .load 3 (.tmp 9), none⟩,
  ⟨some 69, .move (.tmp 10), none⟩,
  ⟨some 70, .call { callee := .builtin .len, args := #[.tmp 69], argTypes := #[9] }, none⟩,
  ⟨some 71, .binOp .add 3 (.tmp 68) (.tmp 70) 3, none⟩,
  ⟨none, .store 3 (.tmp 9) (.tmp 71), none⟩]
def f25_a17 : LC := (.reg f25_r5 [] none)
def f25_b17 : LC := (.block 1 (.seq (.reg f25_r6 [] none) (.seq (.reg f25_r7 [] none) (.seq (.block 2 (.seq (.reg f25_r8 [] none) (.cond (.tmp 32) (.seq (.regt f25_r9 [] 0 (.both (.op 0 (.both (.op 1 (.op 2 (.op 3 (.op 4 .done)))) (.op 2 (.op 1 (.op 3 (.op 4 .done)))))) (.op 2 (.op 0 (.op 1 (.op 3 (.op 4 .done))))))) .ret) (.seq (.reg f25_r10 [] none) (.cond (.tmp 37) (.seq (.regt f25_r11 [] 0 (.both (.op 0 (.op 1 (.op 2 (.op 3 .done)))) (.op 1 (.op 0 (.op 2 (.op 3 .done)))))) .ret) (.seq (.reg f25_r12 [] none) (.cond (.tmp 42) (.seq (.regt f25_r13 [] 0 (.both (.op 0 (.op 1 (.op 2 (.op 3 .done)))) (.op 1 (.op 0 (.op 2 (.op 3 .done)))))) .ret) .skip))))))) (.seq (.reg f25_r14 [] none) (.seq (.reg f25_r15 [] none) (.reg f25_r16 [] none)))))))
def f25_r18 : List LOp := [
  ⟨some 72, .load 55 (.tmp 7), none⟩,
  ⟨some 73, .call { callee := .builtin .len, args := #[.tmp 72], argTypes := #[55] }, none⟩,
  ⟨some 74, .binOp .eql 3 (.tmp 73) (.const (.int .i64 0)) 3, none⟩]
def f25_r19 : List LOp := [
  ⟨none, .store 55 (.tmp 4) (.const (.slice none 0 0)), none⟩,
  ⟨none, .store 3 (.tmp 5) (.const (.int .i64 0)), none⟩,
  ⟨none, .store 27 (.tmp 6) (.const (.int .i64 2)), none⟩]
def f25_r20 : List LOp := [
  ⟨some 75, .load 55 (.tmp 7), none⟩,
  ⟨none, .store 55 (.tmp 4) (.tmp 75), none⟩,
  ⟨none, .store 3 (.tmp 5) (.const (.int .i64 0)), none⟩,
  ⟨none, .store 27 (.tmp 6) (.const (.int .i64 0)), none⟩]
def f25_c : LC := (.seq (.reg f25_r0 [] none) (.seq (.reg f25_r1 [] none) (.seq (.reg f25_r2 [] none) (.seq (.reg f25_r3 [] none) (.seq (.seq (.reg f25_r4 [] none) (.block 0 (.rfun (.tmp 19) [20] f25_a17 f25_b17))) (.seq (.seq (.reg f25_r18 [] none) (.cond (.tmp 74) (.seq (.reg f25_r19 [] none) .ret) .skip)) (.seq (.reg f25_r20 [] none) .ret)))))))
theorem f25_lc : Tryz.f25.body.map lc = some f25_c.st := by kernel_rfl
theorem f25_res : Tryz.f25.results.toList = [.cell 4 55, .cell 5 3, .cell 6 27] := by kernel_rfl
theorem f25_nt : Tryz.f25.ntmps = 76 := by kernel_rfl
theorem f25_nm : (Tryz.f25.name == "runtime.NumGoroutine") = false := by kernel_rfl
/-! slices.Clone[[]string,string] -/
def f26_r0 : List LOp := [
  ⟨some 2, .assign (.const (.slice none 0 0)), none⟩]
def f26_r1 : List LOp := [
  ⟨some 3, .move (.tmp 0), none⟩,
  ⟨some 4, .binOp .eql 22 (.tmp 3) (.const (.slice none 0 0)) 22, none⟩]
def f26_r2 : List LOp := [
  ⟨some 2, .assign (.const (.slice none 0 0)), none⟩]
def f26_r3 : List LOp := [
  ⟨some 5, .buildSlice 22 0 #[], none⟩,
  ⟨some 6, .move (.tmp 0), none⟩,
  ⟨some 7, .call { callee := .builtin .append, args := #[.tmp 5, .tmp 6], argTypes := #[22, 22] }, none⟩,
  ⟨some 2, .assign (.tmp 7), none⟩]
def f26_c : LC := (.seq (.reg f26_r0 [] none) (.seq (.seq (.reg f26_r1 [] none) (.cond (.tmp 4) (.seq (.reg f26_r2 [] none) .ret) .skip)) (.seq (.reg f26_r3 [0] none) .ret)))
theorem f26_lc : Tryz.f26.body.map lc = some f26_c.st := by kernel_rfl
theorem f26_res : Tryz.f26.results.toList = [.tmp 2] := by kernel_rfl
theorem f26_nt : Tryz.f26.ntmps = 8 := by kernel_rfl
theorem f26_nm : (Tryz.f26.name == "runtime.NumGoroutine") = false := by kernel_rfl
/-! (*quill/cfx.reader).whole -/
def f27_r0 : List LOp := [
  ⟨some 2, .alloc 40, none⟩,
  ⟨some 3, .alloc 3, none⟩,
  ⟨some 4, .alloc 27, none⟩]
def f27_r1 : List LOp := [
  ⟨some 5, .makeFunc (.func 59) #[] #[.tmp 2, .tmp 3, .tmp 4], none⟩,
  ⟨none, .defer { callee := .value (.tmp 5), args := #[], argTypes := #[] }, none⟩]
def f27_r2 : List LOp := [
  ⟨some 6, .move (.tmp 0), none⟩,
  ⟨some 7, .call { callee := .value (.func 60), args := #[.tmp 6], argTypes := #[61] }, none⟩,
  ⟨none, .store 40 (.tmp 2) (.tmp 7), none⟩]
def f27_r3 : List LOp := [
  ⟨some 8, .move (.tmp 0), none⟩,
  ⟨some 9, .call { callee := .value (.func 61), args := #[.tmp 8], argTypes := #[61] }, none⟩]
def f27_r4 : List LOp := [
  ⟨some 10, .move (.tmp 0), none⟩,
  ⟨some 11, .nilCheck (.tmp 10), none⟩,
  ⟨some 12, .fieldAddr 63 (.tmp 11) 1, none⟩,
  ⟨some 13, .load 3 (.tmp 12), none⟩,
  ⟨some 14, .move (.tmp 0), none⟩,
  ⟨some 15, .nilCheck (.tmp 14), none⟩,
  ⟨some 16, .fieldAddr 63 (.tmp 15) 0, none⟩,
  ⟨some 17, .load 9 (.tmp 16), none⟩,
  ⟨some 18, .call { callee := .builtin .len, args := #[.tmp 17], argTypes := #[9] }, none⟩,
  ⟨some 19, .binOp .lss 3 (.tmp 13) (.tmp 18) 3, none⟩]
def f27_r5 : List LOp := [
  ⟨some 20, .move (.tmp 0), none⟩,
  ⟨some 21, .move (.tmp 0), none⟩,
  ⟨some 22, .nilCheck (.tmp 21), none⟩,
  ⟨some 23, .fieldAddr 63 (.tmp 22) 1, none⟩,
  ⟨some 24, .load 3 (.tmp 23), none⟩,
  ⟨some 25, .call { callee := .value (.func 62), args := #[.tmp 20, .tmp 24, .const (.int .i64 2)], argTypes := #[61, 3, 27] }, none⟩]
def f27_r6 : List LOp := [
  ⟨some 26, .load 40 (.tmp 2), none⟩,
  ⟨none, .store 40 (.tmp 2) (.tmp 26), none⟩,
  ⟨none, .store 3 (.tmp 3) (.const (.int .i64 0)), none⟩,
  ⟨none, .store 27 (.tmp 4) (.const (.int .i64 0)), none⟩]
def f27_c : LC := (.seq (.reg f27_r0 [] none) (.seq (.reg f27_r1 [] none) (.seq (.reg f27_r2 [] none) (.seq (.reg f27_r3 [] none) (.seq (.seq (.reg f27_r4 [] (some 9)) (.cond (.tmp 19) (.reg f27_r5 [] none) .skip)) (.seq (.reg f27_r6 [] none) .ret))))))
theorem f27_lc : Tryz.f27.body.map lc = some f27_c.st := by kernel_rfl
theorem f27_res : Tryz.f27.results.toList = [.cell 2 40, .cell 3 3, .cell 4 27] := by kernel_rfl
theorem f27_nt : Tryz.f27.ntmps = 27 := by kernel_rfl
theorem f27_nm : (Tryz.f27.name == "runtime.NumGoroutine") = false := by kernel_rfl
/-! quill/cfx.may -/
def f28_r0 : List LOp := [
  ⟨some 1, .box 26 (.tmp 0), none⟩,
  ⟨some 2, .assign (.const (.bool false)), none⟩]
def f28_r1 : List LOp := [
  ⟨some 8, .fieldAddr 26 (.tmp 1) 0, none⟩,
  ⟨some 9, .load 22 (.tmp 8), none⟩,
  ⟨some 10, .call { callee := .builtin .len, args := #[.tmp 9], argTypes := #[22] }, none⟩,
  ⟨some 11, .fieldAddr 26 (.tmp 1) 1, none⟩,
  ⟨some 12, .load 24 (.tmp 11), none⟩,
  ⟨some 13, .call { callee := .builtin .len, args := #[.tmp 12], argTypes := #[24] }, none⟩,
  ⟨some 3, .assign (.tmp 10), none⟩,
  ⟨some 4, .assign (.tmp 13), none⟩]
def f28_r2 : List LOp := [
  ⟨some 14, .move (.tmp 3), none⟩,
  ⟨some 15, .binOp .lss 3 (.tmp 14) (.const (.int .i64 1)) 3, none⟩,
  ⟨some 16, .move (.tmp 15), none⟩,
  ⟨some 17, .move (.tmp 3), some (2, false)⟩,
  ⟨some 18, .binOp .gtr 3 (.tmp 17) (.const (.int .i64 100)) 3, some (2, false)⟩,
  ⟨some 19, .pick (.tmp 16) (.const (.bool true)) (.tmp 18), none⟩,
  ⟨some 20, .move (.tmp 19), none⟩,
  ⟨some 21, .move (.tmp 4), some (6, false)⟩,
  ⟨some 22, .binOp .lss 3 (.tmp 21) (.const (.int .i64 1)) 3, some (6, false)⟩,
  ⟨some 23, .pick (.tmp 20) (.const (.bool true)) (.tmp 22), none⟩,
  ⟨some 24, .move (.tmp 23), none⟩,
  ⟨some 25, .move (.tmp 4), some (10, false)⟩,
  ⟨some 26, .binOp .gtr 3 (.tmp 25) (.const (.int .i64 50)) 3, some (10, false)⟩,
  ⟨some 27, .pick (.tmp 24) (.const (.bool true)) (.tmp 26), none⟩,
  ⟨some 28, .move (.tmp 27), none⟩,
  ⟨some 29, .fieldAddr 26 (.tmp 1) 0, some (14, false)⟩,
  ⟨some 30, .load 22 (.tmp 29), some (14, false)⟩,
  ⟨some 31, .fieldAddr 26 (.tmp 1) 1, some (14, false)⟩,
  ⟨some 32, .load 24 (.tmp 31), some (14, false)⟩,
  ⟨some 33, .call { callee := .value (.func 50), args := #[.tmp 32], argTypes := #[24] }, some (14, false)⟩,
  ⟨some 34, .buildSlice 125 2 #[(0, .tmp 30), (1, .tmp 33)], some (14, false)⟩,
  ⟨some 35, .call { callee := .value (.func 63), args := #[.tmp 34], argTypes := #[125] }, some (14, false)⟩,
  ⟨some 36, .call { callee := .value (.func 24), args := #[.tmp 35], argTypes := #[22] }, some (14, false)⟩,
  ⟨some 37, .unOp .not 4 (.tmp 36), some (14, false)⟩,
  ⟨some 38, .pick (.tmp 28) (.const (.bool true)) (.tmp 37), none⟩]
def f28_r3 : List LOp := [
  ⟨some 2, .assign (.const (.bool false)), none⟩]
def f28_r4 : List LOp := [
  ⟨some 5, .assign (.const (.int .i64 0)), none⟩]
def f28_r5 : List LOp := [
  ⟨some 39, .fieldAddr 26 (.tmp 1) 1, none⟩,
  ⟨some 40, .load 24 (.tmp 39), none⟩,
  ⟨some 41, .call { callee := .builtin .len, args := #[.tmp 40], argTypes := #[24] }, none⟩,
  ⟨some 42, .move (.const (.int .i64 0)), none⟩]
def f28_r6 : List LOp := [
  ⟨some 43, .binOp .lss 3 (.tmp 42) (.tmp 41) 3, none⟩]
def f28_r7 : List LOp := [
  ⟨some 44, .indexAddr 24 (.tmp 40) (.tmp 42), none⟩,
  ⟨some 45, .load 66 (.tmp 44), none⟩,
  ⟨some 7, .alloc 66, none⟩,
  ⟨none, .store 66 (.tmp 7) (.tmp 45), none⟩]
def f28_r8 : List LOp := [
  ⟨some 46, .load 26 (.tmp 1), none⟩,
  ⟨some 47, .fieldAddr 66 (.tmp 7) 1, none⟩,
  ⟨some 48, .load 40 (.tmp 47), none⟩,
  ⟨some 49, .call { callee := .value (.func 46), args := #[.tmp 46, .tmp 48], argTypes := #[26, 40] }, none⟩,
  ⟨some 50, .unOp .not 4 (.tmp 49), none⟩]
def f28_r9 : List LOp := [
  ⟨some 2, .assign (.const (.bool false)), none⟩]
def f28_r10 : List LOp := [
  ⟨some 51, .move (.tmp 5), none⟩,
  ⟨some 52, .fieldAddr 66 (.tmp 7) 1, none⟩,
  ⟨some 53, .load 40 (.tmp 52), none⟩,
  ⟨some 54, .buildSlice 38 1 #[(0, .tmp 53)], none⟩,
  ⟨some 55, .call { callee := .value (.func 47), args := #[.tmp 54], argTypes := #[38] }, none⟩,
  ⟨some 56, .binOp .add 3 (.tmp 51) (.tmp 55) 3, none⟩,
  ⟨some 5, .assign (.tmp 56), none⟩]
def f28_r11 : List LOp := [
  ⟨some 57, .binOp .add 3 (.tmp 42) (.const (.int .i64 1)) 3, none⟩,
  ⟨some 42, .move (.tmp 57), none⟩]
def f28_l12 : LC := (.seq (.reg f28_r6 [] none) (.seq (.cond (.tmp 43) .skip (.exit 0)) (.seq (.block 1 (.seq (.reg f28_r7 [] none) (.seq (.seq (.reg f28_r8 [] none) (.cond (.tmp 50) (.seq (.reg f28_r9 [] none) .ret) .skip)) (.reg f28_r10 [] none)))) (.reg f28_r11 [] none))))
def f28_i12 (t1 t5 t40 t41 t42 : D) : List D := [.any, t1, .any, .any, .any, t5, .any, .any, .any, .any, .any, .any, .any, .any, .any, .any, .any, .any, .any, .any, .any, .any, .any, .any, .any, .any, .any, .any, .any, .any, .any, .any, .any, .any, .any, .any, .any, .any, .any, .any, t40, t41, t42, .any, .any, .any, .any, .any, .any, .any, .any, .any, .any, .any, .any, .any, .any, .any, .any, .any]
def f28_r13 : List LOp := [
  ⟨some 58, .move (.tmp 5), none⟩,
  ⟨some 59, .binOp .leq 3 (.tmp 58) (.const (.int .i64 2000)) 3, none⟩,
  ⟨some 2, .assign (.tmp 59), none⟩]
def f28_c : LC := (.seq (.reg f28_r0 [] none) (.seq (.regp f28_r1 [] [] 7) (.seq (.seq (.reg f28_r2 [] (some 20)) (.cond (.tmp 38) (.seq (.reg f28_r3 [] none) .ret) .skip)) (.seq (.reg f28_r4 [] none) (.seq (.seq (.reg f28_r5 [] none) (.block 0 (.loop f28_l12))) (.seq (.reg f28_r13 [] none) .ret))))))
theorem f28_lc : Tryz.f28.body.map lc = some f28_c.st := by kernel_rfl
theorem f28_res : Tryz.f28.results.toList = [.tmp 2] := by kernel_rfl
theorem f28_nt : Tryz.f28.ntmps = 60 := by kernel_rfl
theorem f28_nm : (Tryz.f28.name == "runtime.NumGoroutine") = false := by kernel_rfl
/-! quill/quillref21.Once -/
def f29_r0 : List LOp := [
  ⟨some 2, .assign (.const (.bool false)), none⟩]
def f29_r1 : List LOp := [
  ⟨some 4, .move (.tmp 0), none⟩,
  ⟨some 5, .call { callee := .builtin .len, args := #[.tmp 4], argTypes := #[22] }, none⟩,
  ⟨some 6, .move (.const (.int .i64 0)), none⟩]
def f29_r2 : List LOp := [
  ⟨some 7, .binOp .lss 3 (.tmp 6) (.tmp 5) 3, none⟩]
def f29_r3 : List LOp := [
  ⟨some 8, .move (.tmp 6), none⟩,
  ⟨some 3, .assign (.tmp 8), none⟩]
def f29_r4 : List LOp := [
  ⟨some 9, .move (.tmp 0), none⟩,
  ⟨some 10, .move (.tmp 3), none⟩,
  ⟨some 11, .indexAddr 22 (.tmp 9) (.tmp 10), none⟩,
  ⟨some 12, .load 9 (.tmp 11), none⟩,
  ⟨some 13, .call { callee := .value (.func 64), args := #[.tmp 12], argTypes := #[9] }, none⟩,
  ⟨some 14, .unOp .not 4 (.tmp 13), none⟩,
  ⟨some 15, .move (.tmp 14), none⟩,
  ⟨some 16, .move (.tmp 0), some (6, false)⟩,
  ⟨some 17, .move (.tmp 3), some (6, false)⟩,
  ⟨some 18, .slice 22 (.tmp 16) none (some (.tmp 17)) none, some (6, false)⟩,
  ⟨some 19, .move (.tmp 0), some (6, false)⟩,
  ⟨some 20, .move (.tmp 3), some (6, false)⟩,
  ⟨some 21, .indexAddr 22 (.tmp 19) (.tmp 20), some (6, false)⟩,
  ⟨some 22, .load 9 (.tmp 21), some (6, false)⟩,
  ⟨some 23, .call { callee := .value (.func 32), args := #[.tmp 18, .tmp 22], argTypes := #[22, 9] }, some (6, false)⟩,
  ⟨some 24, .pick (.tmp 15) (.const (.bool true)) (.tmp 23), none⟩]
def f29_r5 : List LOp := [
  ⟨some 2, .assign (.const (.bool false)), none⟩]
def f29_r6 : List LOp := [
  ⟨some 25, .binOp .add 3 (.tmp 6) (.const (.int .i64 1)) 3, none⟩,
  ⟨some 6, .move (.tmp 25), none⟩]
def f29_l7 : LC := (.seq (.reg f29_r2 [] none) (.seq (.cond (.tmp 7) .skip (.exit 0)) (.seq (.block 1 (.seq (.reg f29_r3 [] none) (.seq (.reg f29_r4 [] (some 14)) (.cond (.tmp 24) (.seq (.reg f29_r5 [] none) .ret) .skip)))) (.reg f29_r6 [] none))))
def f29_i7 (t0 t5 t6 : D) : List D := [t0, .any, .any, .any, .any, t5, t6, .any, .any, .any, .any, .any, .any, .any, .any, .any, .any, .any, .any, .any, .any, .any, .any, .any, .any, .any]
def f29_r8 : List LOp := [
  ⟨some 2, .assign (.const (.bool true)), none⟩]
def f29_c : LC := (.seq (.reg f29_r0 [] none) (.seq (.seq (.reg f29_r1 [] none) (.block 0 (.loop f29_l7))) (.seq (.reg f29_r8 [] none) .ret)))
theorem f29_lc : Tryz.f29.body.map lc = some f29_c.st := by kernel_rfl
theorem f29_res : Tryz.f29.results.toList = [.tmp 2] := by kernel_rfl
theorem f29_nt : Tryz.f29.ntmps = 26 := by kernel_rfl
theorem f29_nm : (Tryz.f29.name == "runtime.NumGoroutine") = false := by kernel_rfl
/-! quill/quillref21.find -/
def f30_r0 : List LOp := [
  ⟨some 4, .assign (.const (.int .i64 0)), none⟩]
def f30_r1 : List LOp := [
  ⟨some 5, .move (.tmp 1), none⟩,
  ⟨some 6, .move (.tmp 0), none⟩,
  ⟨some 7, .call { callee := .builtin .len, args := #[.tmp 6], argTypes := #[9] }, none⟩,
  ⟨some 8, .binOp .lss 3 (.tmp 5) (.tmp 7) 3, none⟩,
  ⟨some 9, .move (.tmp 8), none⟩,
  ⟨some 10, .move (.tmp 0), some (4, true)⟩,
  ⟨some 11, .move (.tmp 1), some (4, true)⟩,
  ⟨some 12, .index 9 (.tmp 10) (.tmp 11), some (4, true)⟩,
  ⟨some 13, .binOp .neq 5 (.tmp 12) (.const (.int .u8 10)) 5, some (4, true)⟩,
  ⟨some 14, .pick (.tmp 9) (.tmp 13) (.const (.bool false)), none⟩]
def f30_r2 : List LOp := [
  ⟨some 15, .move (.tmp 1), none⟩,
  ⟨some 16, .binOp .add 3 (.tmp 15) (.const (.int .i64 1)) 3, none⟩,
  ⟨some 1, .assign (.tmp 16), none⟩]
def f30_l3 : LC := (.seq (.seq (.reg f30_r1 [] none) (.cond (.tmp 14) .skip (.exit 0))) (.block 1 (.reg f30_r2 [] none)))
def f30_i3 (t0 t1 : D) : List D := [t0, t1, .any, .any, .any, .any, .any, .any, .any, .any, .any, .any, .any, .any, .any, .any, .any, .any]
def f30_r4 : List LOp := [
  ⟨some 17, .move (.tmp 1), none⟩,
  ⟨some 4, .assign (.tmp 17), none⟩]
def f30_c : LC := (.seq (.reg f30_r0 [] none) (.seq (.block 0 (.loop f30_l3)) (.seq (.reg f30_r4 [] none) .ret)))
theorem f30_lc : Tryz.f30.body.map lc = some f30_c.st := by kernel_rfl
theorem f30_res : Tryz.f30.results.toList = [.tmp 4] := by kernel_rfl
theorem f30_nt : Tryz.f30.ntmps = 18 := by kernel_rfl
theorem f30_nm : (Tryz.f30.name == "runtime.NumGoroutine") = false := by kernel_rfl
/-! quill/quillref21.head -/
def f31_r0 : List LOp := [
  ⟨some 2, .assign (.const (.int .i64 0)), none⟩]
def f31_r1 : List LOp := [
  ⟨some 3, .assign (.const (.int .i64 0)), none⟩]
def f31_r2 : List LOp := [
  ⟨some 4, .move (.tmp 3), none⟩,
  ⟨some 5, .binOp .add 3 (.tmp 4) (.const (.int .i64 3)) 3, none⟩,
  ⟨some 6, .move (.tmp 0), none⟩,
  ⟨some 7, .call { callee := .builtin .len, args := #[.tmp 6], argTypes := #[9] }, none⟩,
  ⟨some 8, .binOp .leq 3 (.tmp 5) (.tmp 7) 3, none⟩]
def f31_r3 : List LOp := [
  ⟨some 11, .move (.tmp 0), none⟩,
  ⟨some 12, .move (.tmp 3), none⟩,
  ⟨some 13, .move (.tmp 3), none⟩,
  ⟨some 14, .binOp .add 3 (.tmp 13) (.const (.int .i64 3)) 3, none⟩,
  ⟨some 15, .slice 9 (.tmp 11) (some (.tmp 12)) (some (.tmp 14)) none, none⟩,
  ⟨some 16, .binOp .eql 9 (.tmp 15) (.const (.string { data := #[32, 61, 32] })) 9, none⟩]
def f31_r4 : List LOp := [
  ⟨some 17, .move (.tmp 0), none⟩,
  ⟨some 18, .move (.tmp 3), none⟩,
  ⟨some 19, .slice 9 (.tmp 17) none (some (.tmp 18)) none, none⟩,
  ⟨some 20, .call { callee := .value (.func 64), args := #[.tmp 19], argTypes := #[9] }, none⟩]
def f31_r5 : List LOp := [
  ⟨some 21, .move (.tmp 3), none⟩,
  ⟨some 2, .assign (.tmp 21), none⟩]
def f31_r6 : List LOp := [
  ⟨some 2, .assign (.const (.int .i64 (-1))), none⟩]
def f31_r7 : List LOp := [
  ⟨some 9, .move (.tmp 3), none⟩,
  ⟨some 10, .binOp .add 3 (.tmp 9) (.const (.int .i64 1)) 3, none⟩,
  ⟨some 3, .assign (.tmp 10), none⟩]
def f31_l8 : LC := (.seq (.seq (.reg f31_r2 [] none) (.cond (.tmp 8) .skip (.exit 0))) (.seq (.block 1 (.seq (.reg f31_r3 [] none) (.cond (.tmp 16) (.seq (.seq (.reg f31_r4 [] none) (.cond (.tmp 20) (.seq (.reg f31_r5 [] none) .ret) .skip)) (.seq (.reg f31_r6 [] none) .ret)) .skip))) (.reg f31_r7 [] none)))
def f31_i8 (t0 t3 : D) : List D := [t0, .any, .any, t3, .any, .any, .any, .any, .any, .any, .any, .any, .any, .any, .any, .any, .any, .any, .any, .any, .any, .any]
def f31_r9 : List LOp := [
  ⟨some 2, .assign (.const (.int .i64 (-1))), none⟩]
def f31_c : LC := (.seq (.reg f31_r0 [] none) (.seq (.seq (.reg f31_r1 [] none) (.block 0 (.loop f31_l8))) (.seq (.reg f31_r9 [] none) .ret)))
theorem f31_lc : Tryz.f31.body.map lc = some f31_c.st := by kernel_rfl
theorem f31_res : Tryz.f31.results.toList = [.tmp 2] := by kernel_rfl
theorem f31_nt : Tryz.f31.ntmps = 22 := by kernel_rfl
theorem f31_nm : (Tryz.f31.name == "runtime.NumGoroutine") = false := by kernel_rfl
/-! quill/quillref21.in -/
def f32_r0 : List LOp := [
  ⟨some 4, .assign (.const (.bool false)), none⟩]
def f32_r1 : List LOp := [
  ⟨some 6, .move (.tmp 0), none⟩,
  ⟨some 7, .call { callee := .builtin .len, args := #[.tmp 6], argTypes := #[22] }, none⟩,
  ⟨some 8, .move (.const (.int .i64 0)), none⟩]
def f32_r2 : List LOp := [
  ⟨some 9, .binOp .lss 3 (.tmp 8) (.tmp 7) 3, none⟩]
def f32_r3 : List LOp := [
  ⟨some 10, .move (.tmp 8), none⟩,
  ⟨some 5, .assign (.tmp 10), none⟩]
def f32_r4 : List LOp := [
  ⟨some 11, .move (.tmp 0), none⟩,
  ⟨some 12, .move (.tmp 5), none⟩,
  ⟨some 13, .indexAddr 22 (.tmp 11) (.tmp 12), none⟩,
  ⟨some 14, .load 9 (.tmp 13), none⟩,
  ⟨some 15, .move (.tmp 1), none⟩,
  ⟨some 16, .binOp .eql 9 (.tmp 14) (.tmp 15) 9, none⟩]
def f32_r5 : List LOp := [
  ⟨some 4, .assign (.const (.bool true)), none⟩]
def f32_r6 : List LOp := [
  ⟨some 17, .binOp .add 3 (.tmp 8) (.const (.int .i64 1)) 3, none⟩,
  ⟨some 8, .move (.tmp 17), none⟩]
def f32_l7 : LC := (.seq (.reg f32_r2 [] none) (.seq (.cond (.tmp 9) .skip (.exit 0)) (.seq (.block 1 (.seq (.reg f32_r3 [] none) (.seq (.reg f32_r4 [] none) (.cond (.tmp 16) (.seq (.reg f32_r5 [] none) .ret) .skip)))) (.reg f32_r6 [] none))))
def f32_i7 (t0 t1 t7 t8 : D) : List D := [t0, t1, .any, .any, .any, .any, .any, t7, t8, .any, .any, .any, .any, .any, .any, .any, .any, .any]
def f32_r8 : List LOp := [
  ⟨some 4, .assign (.const (.bool false)), none⟩]
def f32_c : LC := (.seq (.reg f32_r0 [] none) (.seq (.seq (.reg f32_r1 [] none) (.block 0 (.loop f32_l7))) (.seq (.reg f32_r8 [] none) .ret)))
theorem f32_lc : Tryz.f32.body.map lc = some f32_c.st := by kernel_rfl
theorem f32_res : Tryz.f32.results.toList = [.tmp 4] := by kernel_rfl
theorem f32_nt : Tryz.f32.ntmps = 18 := by kernel_rfl
theorem f32_nm : (Tryz.f32.name == "runtime.NumGoroutine") = false := by kernel_rfl
/-! quill/quillref21.whole -/
def f33_r0 : List LOp := [
  ⟨some 6, .alloc 72, none⟩]
def f33_r1 : List LOp := [
  ⟨some 9, .move (.tmp 0), none⟩,
  ⟨some 10, .move (.tmp 1), none⟩,
  ⟨some 11, .move (.tmp 2), none⟩,
  ⟨some 12, .call { callee := .value (.func 65), args := #[.tmp 9, .const (.int .i64 0), .tmp 10, .tmp 11], argTypes := #[9, 3, 22, 22] }, none⟩,
  ⟨some 7, .alloc 72, none⟩,
  ⟨none, .store 72 (.tmp 7) (.tmp 12), none⟩]
def f33_r2 : List LOp := [
  ⟨some 13, .fieldAddr 72 (.tmp 7) 2, none⟩,
  ⟨some 14, .load 3 (.tmp 13), none⟩,
  ⟨some 15, .binOp .neq 3 (.tmp 14) (.const (.int .i64 0)) 3, none⟩]
def f33_r3 : List LOp := [
  ⟨some 16, .load 72 (.tmp 7), none⟩,
  ⟨none, .store 72 (.tmp 6) (.tmp 16), none⟩]
def f33_r4 : List LOp := [
  ⟨some 17, .move (.tmp 0), none⟩,
  ⟨some 18, .fieldAddr 72 (.tmp 7) 1, none⟩,
  ⟨some 19, .load 3 (.tmp 18), none⟩,
  ⟨some 20, .call { callee := .value (.func 66), args := #[.tmp 17, .tmp 19], argTypes := #[9, 3] }, none⟩,
  ⟨some 8, .assign (.tmp 20), none⟩]
def f33_r5 : List LOp := [
  ⟨some 21, .move (.tmp 8), none⟩,
  ⟨some 22, .move (.tmp 0), none⟩,
  ⟨some 23, .call { callee := .builtin .len, args := #[.tmp 22], argTypes := #[9] }, none⟩,
  ⟨some 24, .binOp .lss 3 (.tmp 21) (.tmp 23) 3, none⟩]
def f33_r6 : List LOp := [
  ⟨some 25, .move (.tmp 8), none⟩,
  ⟨some 26, .build 72 #[(1, .tmp 25), (2, .const (.int .i64 2))], none⟩,
  ⟨none, .store 72 (.tmp 6) (.tmp 26), none⟩]
def f33_r7 : List LOp := [
  ⟨some 27, .fieldAddr 72 (.tmp 7) 0, none⟩,
  ⟨some 28, .load 40 (.tmp 27), none⟩,
  ⟨some 29, .build 72 #[(0, .tmp 28)], none⟩,
  ⟨none, .store 72 (.tmp 6) (.tmp 29), none⟩]
def f33_c : LC := (.seq (.reg f33_r0 [] none) (.seq (.reg f33_r1 [] none) (.seq (.seq (.reg f33_r2 [] none) (.cond (.tmp 15) (.seq (.reg f33_r3 [] none) .ret) .skip)) (.seq (.reg f33_r4 [] none) (.seq (.seq (.reg f33_r5 [] none) (.cond (.tmp 24) (.seq (.reg f33_r6 [] none) .ret) .skip)) (.seq (.reg f33_r7 [] none) .ret))))))
theorem f33_lc : Tryz.f33.body.map lc = some f33_c.st := by kernel_rfl
theorem f33_res : Tryz.f33.results.toList = [.cell 6 72] := by kernel_rfl
theorem f33_nt : Tryz.f33.ntmps = 30 := by kernel_rfl
theorem f33_nm : (Tryz.f33.name == "runtime.NumGoroutine") = false := by kernel_rfl
/-! quill/quillref21.All -/
def f34_r0 : List LOp := [
  ⟨some 1, .box 40 (.tmp 0), none⟩,
  ⟨some 2, .assign (.const (.slice none 0 0)), none⟩]
def f34_r1 : List LOp := [
  ⟨some 5, .load 40 (.tmp 1), none⟩,
  ⟨some 6, .buildSlice 38 1 #[(0, .tmp 5)], none⟩,
  ⟨some 3, .assign (.tmp 6), none⟩]
def f34_r2 : List LOp := [
  ⟨some 7, .fieldAddr 40 (.tmp 1) 2, none⟩,
  ⟨some 8, .load 38 (.tmp 7), none⟩,
  ⟨some 9, .call { callee := .builtin .len, args := #[.tmp 8], argTypes := #[38] }, none⟩,
  ⟨some 10, .move (.const (.int .i64 0)), none⟩]
def f34_r3 : List LOp := [
  ⟨some 11, .binOp .lss 3 (.tmp 10) (.tmp 9) 3, none⟩]
def f34_r4 : List LOp := [
  ⟨some 12, .move (.tmp 10), none⟩,
  ⟨some 4, .assign (.tmp 12), none⟩]
def f34_r5 : List LOp := [
  ⟨some 13, .move (.tmp 3), none⟩,
  ⟨some 14, .fieldAddr 40 (.tmp 1) 2, none⟩,
  ⟨some 15, .load 38 (.tmp 14), none⟩,
  ⟨some 16, .move (.tmp 4), none⟩,
  ⟨some 17, .indexAddr 38 (.tmp 15) (.tmp 16), none⟩,
  ⟨some 18, .load 40 (.tmp 17), none⟩,
  ⟨some 19, .call { callee := .value (.func 34), args := #[.tmp 18], argTypes := #[40] }, none⟩,
  ⟨some 20, .call { callee := .builtin .append, args := #[.tmp 13, .tmp 19], argTypes := #[38, 38] }, none⟩,
  ⟨some 3, .assign (.tmp 20), none⟩]
def f34_r6 : List LOp := [
  ⟨some 21, .binOp .add 3 (.tmp 10) (.const (.int .i64 1)) 3, none⟩,
  ⟨some 10, .move (.tmp 21), none⟩]
def f34_l7 : LC := (.seq (.reg f34_r3 [] none) (.seq (.cond (.tmp 11) .skip (.exit 0)) (.seq (.block 1 (.seq (.reg f34_r4 [] none) (.reg f34_r5 [] none))) (.reg f34_r6 [] none))))
def f34_i7 (t1 t3 t9 t10 : D) : List D := [.any, t1, .any, t3, .any, .any, .any, .any, .any, t9, t10, .any, .any, .any, .any, .any, .any, .any, .any, .any, .any, .any, .any]
def f34_r8 : List LOp := [
  ⟨some 22, .move (.tmp 3), none⟩,
  ⟨some 2, .assign (.tmp 22), none⟩]
def f34_c : LC := (.seq (.reg f34_r0 [] none) (.seq (.reg f34_r1 [1] none) (.seq (.seq (.reg f34_r2 [] none) (.block 0 (.loop f34_l7))) (.seq (.reg f34_r8 [] none) .ret))))
theorem f34_lc : Tryz.f34.body.map lc = some f34_c.st := by kernel_rfl
theorem f34_res : Tryz.f34.results.toList = [.tmp 2] := by kernel_rfl
theorem f34_nt : Tryz.f34.ntmps = 23 := by kernel_rfl
theorem f34_nm : (Tryz.f34.name == "runtime.NumGoroutine") = false := by kernel_rfl
/-! quill/quillref21.count -/
/-! quill/quillref21.Names -/
/-! quill/quillref21.Of -/
/-! (*strings.Builder).WriteString -/
def f38_r0 : List LOp := [
  ⟨some 4, .assign (.const (.int .i64 0)), none⟩,
  ⟨some 5, .assign (.const .nilIface), none⟩]
def f38_r1 : List LOp := [
  ⟨some 6, .move (.tmp 0), none⟩,
  ⟨some 7, .call { callee := .value (.func 67), args := #[.tmp 6], argTypes := #[79] }, none⟩]
def f38_r2 : List LOp := [
  ⟨some 8, .move (.tmp 0), none⟩,
  ⟨some 9, .move (.tmp 0), none⟩,
  ⟨some 10, .nilCheck (.tmp 9), none⟩,
  ⟨some 11, .fieldAddr 82 (.tmp 10) 1, none⟩,
  ⟨some 12, .load 80 (.tmp 11), none⟩,
  ⟨some 13, .move (.tmp 1), none⟩,
  ⟨some 14, .call { callee := .builtin .append, args := #[.tmp 12, .tmp 13], argTypes := #[80, 9] }, none⟩,
  ⟨some 15, .nilCheck (.tmp 8), none⟩,
  ⟨some 16, .fieldAddr 82 (.tmp 15) 1, none⟩,
  ⟨none, .store 80 (.tmp 16) (.tmp 14), none⟩]
def f38_r3 : List LOp := [
  ⟨some 17, .move (.tmp 1), none⟩,
  ⟨some 18, .call { callee := .builtin .len, args := #[.tmp 17], argTypes := #[9] }, none⟩,
  ⟨some 4, .assign (.tmp 18), none⟩,
  ⟨some 5, .assign (.const .nilIface), none⟩]
def f38_c : LC := (.seq (.reg f38_r0 [] none) (.seq (.reg f38_r1 [] none) (.seq (.reg f38_r2 [] none) (.seq (.reg f38_r3 [] none) .ret))))
theorem f38_lc : Tryz.f38.body.map lc = some f38_c.st := by kernel_rfl
theorem f38_res : Tryz.f38.results.toList = [.tmp 4, .tmp 5] := by kernel_rfl
theorem f38_nt : Tryz.f38.ntmps = 19 := by kernel_rfl
theorem f38_nm : (Tryz.f38.name == "runtime.NumGoroutine") = false := by kernel_rfl
attribute [go_sem] f3_r0 f3_r1 f3_r2 f3_r3 f3_r4 f3_r5 f3_r6 f3_r7 f3_l8 f3_i8 f3_r9 f3_r10 f3_r11 f3_c f7_r0 f7_r1 f7_r2 f7_r3 f7_c f8_r0 f8_r1 f8_r2 f8_r3 f8_r4 f8_r5 f8_r6 f8_r7 f8_r8 f8_r9 f8_r10 f8_r11 f8_r12 f8_r13 f8_r14 f8_l15 f8_i15 f8_r16 f8_r17 f8_r18 f8_r19 f8_r20 f8_r21 f8_r22 f8_r23 f8_l24 f8_i24 f8_r25 f8_r26 f8_r27 f8_c f9_r0 f9_r1 f9_r2 f9_r3 f9_r4 f9_r5 f9_r6 f9_r7 f9_r8 f9_r9 f9_r10 f9_r11 f9_r12 f9_r13 f9_r14 f9_r15 f9_r16 f9_r17 f9_r18 f9_r19 f9_r20 f9_l21 f9_i21 f9_r22 f9_r23 f9_r24 f9_r25 f9_r26 f9_r27 f9_r28 f9_r29 f9_r30 f9_r31 f9_r32 f9_r33 f9_r34 f9_l35 f9_i35 f9_r36 f9_r37 f9_r38 f9_c f10_r0 f10_r1 f10_r2 f10_r3 f10_r4 f10_r5 f10_r6 f10_r7 f10_r8 f10_l9 f10_i9 f10_r10 f10_r11 f10_r12 f10_r13 f10_r14 f10_r15 f10_l16 f10_i16 f10_r17 f10_c f13_r0 f13_r1 f13_r2 f13_r3 f13_r4 f13_r5 f13_r6 f13_r7 f13_r8 f13_r9 f13_r10 f13_l11 f13_i11 f13_r12 f13_r13 f13_r14 f13_c f20_r0 f20_r1 f20_c f23_r0 f23_r1 f23_r2 f23_r3 f23_r4 f23_r5 f23_r6 f23_r7 f23_r8 f23_l9 f23_i9 f23_r10 f23_c f24_r0 f24_r1 f24_r2 f24_c f25_r0 f25_r1 f25_r2 f25_r3 f25_r4 f25_r5 f25_r6 f25_r7 f25_r8 f25_r9 f25_r10 f25_r11 f25_r12 f25_r13 f25_r14 f25_r15 f25_r16 f25_a17 f25_b17 f25_r18 f25_r19 f25_r20 f25_c f26_r0 f26_r1 f26_r2 f26_r3 f26_c f27_r0 f27_r1 f27_r2 f27_r3 f27_r4 f27_r5 f27_r6 f27_c f28_r0 f28_r1 f28_r2 f28_r3 f28_r4 f28_r5 f28_r6 f28_r7 f28_r8 f28_r9 f28_r10 f28_r11 f28_l12 f28_i12 f28_r13 f28_c f29_r0 f29_r1 f29_r2 f29_r3 f29_r4 f29_r5 f29_r6 f29_l7 f29_i7 f29_r8 f29_c f30_r0 f30_r1 f30_r2 f30_l3 f30_i3 f30_r4 f30_c f31_r0 f31_r1 f31_r2 f31_r3 f31_r4 f31_r5 f31_r6 f31_r7 f31_l8 f31_i8 f31_r9 f31_c f32_r0 f32_r1 f32_r2 f32_r3 f32_r4 f32_r5 f32_r6 f32_l7 f32_i7 f32_r8 f32_c f33_r0 f33_r1 f33_r2 f33_r3 f33_r4 f33_r5 f33_r6 f33_r7 f33_c f34_r0 f34_r1 f34_r2 f34_r3 f34_r4 f34_r5 f34_r6 f34_l7 f34_i7 f34_r8 f34_c f38_r0 f38_r1 f38_r2 f38_r3 f38_c T3 T4 T5 T9 T20 T21 T22 T24 T26 T27 T34 T37 T38 T40 T41 T55 T60 T61 T63 T66 T67 T72 T78 T79 T80 T82 T84 T100 T109 T113 T116 T125 T128 T134 T143 T151 T153 T157 T161 ti3 ti4 ti5 ti9 ti20 ti21 ti22 ti24 ti26 ti27 ti34 ti37 ti38 ti40 ti41 ti55 ti60 ti61 ti63 ti66 ti67 ti72 ti78 ti79 ti80 ti82 ti84 ti100 ti109 ti113 ti116 ti125 ti128 ti134 ti143 ti151 ti153 ti157 ti161
end Go.Proofs.YtdliolbjngcgcaaGreat.W
