/- Part of a program logic over data: rules of the walk, each proved. -/
import Derived.Test.YtdliolbjngcgcaaChecked
import Derived.Test.YtdliolbjngcgcaaLogicC
import Derived.KernelRfl
set_option linter.unusedVariables false
set_option linter.unusedSimpArgs false
set_option linter.unusedSectionVars false
set_option maxRecDepth 100000
namespace Go.Proofs.Ytdliolbjngcgcaa.W
open Go Go.Proofs Go.Proofs.Ytdliolbjngcgcaa.AWP
/-! ### types -/
def ti3 : TI := ⟨.int .i64, 1, 8, [.int .i64 0]⟩
def ti4 : TI := ⟨.bool, 1, 1, [.bool false]⟩
def ti5 : TI := ⟨.int .u8, 1, 1, [.int .u8 0]⟩
def ti9 : TI := ⟨.str, 1, 16, [.string .empty]⟩
def ti20 : TI := ⟨.other, 1, 16, [.nilIface]⟩
def ti21 : TI := ⟨.int .i32, 1, 4, [.int .i32 0]⟩
def ti22 : TI := ⟨.slice 9, 1, 24, [.slice none 0 0]⟩
def ti23 : TI := ⟨.slice 40, 1, 24, [.slice none 0 0]⟩
def ti25 : TI := ⟨.struct [(0, 22), (1, 23)], 2, 48, [.slice none 0 0, .slice none 0 0]⟩
def ti26 : TI := ⟨.other, 1, 8, [.nilFunc]⟩
def ti28 : TI := ⟨.slice 30, 1, 24, [.slice none 0 0]⟩
def ti30 : TI := ⟨.struct [(0, 5), (1, 3), (2, 28)], 3, 40, [.int .u8 0, .int .i64 0, .slice none 0 0]⟩
def ti31 : TI := ⟨.int .i64, 1, 8, [.int .i64 0]⟩
def ti34 : TI := ⟨.other, 1, 8, [.nilFunc]⟩
def ti36 : TI := ⟨.other, 1, 8, [.nilFunc]⟩
def ti40 : TI := ⟨.struct [(0, 9), (1, 30)], 4, 56, [.string .empty, .int .u8 0, .int .i64 0, .slice none 0 0]⟩
def ti47 : TI := ⟨.other, 1, 8, [.pointer none]⟩
def ti50 : TI := ⟨.struct [(0, 9), (1, 3), (2, 22), (3, 22)], 4, 72, [.string .empty, .int .i64 0, .slice none 0 0, .slice none 0 0]⟩
def ti54 : TI := ⟨.slice 59, 1, 24, [.slice none 0 0]⟩
def ti59 : TI := ⟨.struct [(0, 3), (1, 9), (2, 9)], 3, 40, [.int .i64 0, .string .empty, .string .empty]⟩
def ti60 : TI := ⟨.other, 1, 8, [.pointer none]⟩
def ti61 : TI := ⟨.other, 1, 8, [.pointer none]⟩
def ti62 : TI := ⟨.slice 5, 1, 24, [.slice none 0 0]⟩
def ti64 : TI := ⟨.struct [(0, 61), (1, 62)], 2, 32, [.pointer none, .slice none 0 0]⟩
def ti66 : TI := ⟨.struct [(0, 64), (2, 25)], 4, 80, [.pointer none, .slice none 0 0, .slice none 0 0, .slice none 0 0]⟩
def ti75 : TI := ⟨.slice 25, 1, 24, [.slice none 0 0]⟩
def ti80 : TI := ⟨.struct [(0, 3), (1, 31)], 2, 16, [.int .i64 0, .int .i64 0]⟩
def ti85 : TI := ⟨.other, 1, 8, [.nilFunc]⟩
def ti95 : TI := ⟨.other, 1, 8, [.pointer none]⟩
def ti97 : TI := ⟨.slice 22, 1, 24, [.slice none 0 0]⟩
def ti103 : TI := ⟨.other, 1, 8, [.nilFunc]⟩
def ti107 : TI := ⟨.other, 1, 8, [.pointer none]⟩
def ti117 : TI := ⟨.int .u64, 1, 8, [.int .u64 0]⟩
def ti124 : TI := ⟨.int .i64, 1, 8, [.int .i64 0]⟩
def ti132 : TI := ⟨.int .u32, 1, 4, [.int .u32 0]⟩
def ti134 : TI := ⟨.int .u64, 1, 8, [.int .u64 0]⟩
def ti136 : TI := ⟨.int .u64, 1, 8, [.int .u64 0]⟩
def ti140 : TI := ⟨.other, 1, 8, [.pointer none]⟩
def tab : List (Nat × TI) := [(3, ti3), (4, ti4), (5, ti5), (9, ti9), (20, ti20), (21, ti21), (22, ti22), (23, ti23), (25, ti25), (26, ti26), (28, ti28), (30, ti30), (31, ti31), (34, ti34), (36, ti36), (40, ti40), (47, ti47), (50, ti50), (54, ti54), (59, ti59), (60, ti60), (61, ti61), (62, ti62), (64, ti64), (66, ti66), (75, ti75), (80, ti80), (85, ti85), (95, ti95), (97, ti97), (103, ti103), (107, ti107), (117, ti117), (124, ti124), (132, ti132), (134, ti134), (136, ti136), (140, ti140)]
def T : Tab := fun t => (tab.find? fun p => p.1 == t).map (·.2)
theorem T3 : T 3 = some ti3 := rfl
theorem T4 : T 4 = some ti4 := rfl
theorem T5 : T 5 = some ti5 := rfl
theorem T9 : T 9 = some ti9 := rfl
theorem T20 : T 20 = some ti20 := rfl
theorem T21 : T 21 = some ti21 := rfl
theorem T22 : T 22 = some ti22 := rfl
theorem T23 : T 23 = some ti23 := rfl
theorem T25 : T 25 = some ti25 := rfl
theorem T26 : T 26 = some ti26 := rfl
theorem T28 : T 28 = some ti28 := rfl
theorem T30 : T 30 = some ti30 := rfl
theorem T31 : T 31 = some ti31 := rfl
theorem T34 : T 34 = some ti34 := rfl
theorem T36 : T 36 = some ti36 := rfl
theorem T40 : T 40 = some ti40 := rfl
theorem T47 : T 47 = some ti47 := rfl
theorem T50 : T 50 = some ti50 := rfl
theorem T54 : T 54 = some ti54 := rfl
theorem T59 : T 59 = some ti59 := rfl
theorem T60 : T 60 = some ti60 := rfl
theorem T61 : T 61 = some ti61 := rfl
theorem T62 : T 62 = some ti62 := rfl
theorem T64 : T 64 = some ti64 := rfl
theorem T66 : T 66 = some ti66 := rfl
theorem T75 : T 75 = some ti75 := rfl
theorem T80 : T 80 = some ti80 := rfl
theorem T85 : T 85 = some ti85 := rfl
theorem T95 : T 95 = some ti95 := rfl
theorem T97 : T 97 = some ti97 := rfl
theorem T103 : T 103 = some ti103 := rfl
theorem T107 : T 107 = some ti107 := rfl
theorem T117 : T 117 = some ti117 := rfl
theorem T124 : T 124 = some ti124 := rfl
theorem T132 : T 132 = some ti132 := rfl
theorem T134 : T 134 = some ti134 := rfl
theorem T136 : T 136 = some ti136 := rfl
theorem T140 : T 140 = some ti140 := rfl
theorem tab_ok : tabB Try.prog tab = true := by kernel_rfl
theorem hT : TabOk Try.prog T := by
  intro t i h
  unfold T at h
  simp only [Option.map_eq_some_iff] at h
  obtain ⟨p, hp, rfl⟩ := h
  have h1 := List.find?_some hp
  have h2 := List.mem_of_find?_eq_some hp
  simp only [beq_iff_eq] at h1
  obtain ⟨t', i'⟩ := p
  subst h1
  exact tabB_ok tab_ok t' i' h2
theorem hm : Try.prog.follows .mixedOrders = true := by kernel_rfl
/-! quill/quilllaw21.CfxRound -/
def f3_r0 : List LOp := [
  ⟨some 2, .box 25 (.tmp 0), none⟩,
  ⟨some 4, .assign (.const (.bool false)), none⟩]
def f3_r1 : List LOp := [
  ⟨some 11, .load 25 (.tmp 2), none⟩,
  ⟨some 12, .call { callee := .value (.func 5), args := #[.tmp 11], argTypes := #[25] }, none⟩,
  ⟨some 13, .move (.tmp 12), none⟩,
  ⟨some 14, .move (.tmp 1), some (2, false)⟩,
  ⟨some 15, .call { callee := .builtin .len, args := #[.tmp 14], argTypes := #[9] }, some (2, false)⟩,
  ⟨some 16, .binOp .gtr 3 (.tmp 15) (.const (.int .i64 200)) 3, some (2, false)⟩,
  ⟨some 17, .pick (.tmp 13) (.const (.bool true)) (.tmp 16), none⟩]
def f3_r2 : List LOp := [
  ⟨some 18, .call { callee := .value (.func 6), args := #[], argTypes := #[] }, none⟩,
  ⟨some 4, .assign (.tmp 18), none⟩]
def f3_r3 : List LOp := [
  ⟨some 20, .load 25 (.tmp 2), none⟩,
  ⟨some 21, .move (.tmp 1), none⟩,
  ⟨some 22, .call { callee := .value (.func 7), args := #[.tmp 20, .tmp 21], argTypes := #[25, 9] }, none⟩,
  ⟨some 19, .move (.tmp 22), none⟩,
  ⟨some 23, .extract (.tmp 19) 0, none⟩,
  ⟨some 24, .extract (.tmp 19) 1, none⟩,
  ⟨some 25, .extract (.tmp 19) 2, none⟩,
  ⟨some 5, .alloc 30, none⟩,
  ⟨none, .store 30 (.tmp 5) (.tmp 23), none⟩,
  ⟨some 6, .assign (.tmp 24), none⟩,
  ⟨some 7, .assign (.tmp 25), none⟩]
def f3_r4 : List LOp := [
  ⟨some 26, .move (.tmp 7), none⟩,
  ⟨some 27, .binOp .neq 31 (.tmp 26) (.const (.int .i64 0)) 31, none⟩]
def f3_r5 : List LOp := [
  ⟨some 28, .call { callee := .value (.func 6), args := #[], argTypes := #[] }, none⟩,
  ⟨some 4, .assign (.tmp 28), none⟩]
def f3_r6 : List LOp := [
  ⟨some 30, .load 25 (.tmp 2), none⟩,
  ⟨some 31, .move (.tmp 1), none⟩,
  ⟨some 32, .binOp .add 9 (.const (.string { data := #[32, 40, 32] })) (.tmp 31) 9, none⟩,
  ⟨some 33, .binOp .add 9 (.tmp 32) (.const (.string { data := #[32, 41, 32] })) 9, none⟩,
  ⟨some 34, .call { callee := .value (.func 7), args := #[.tmp 30, .tmp 33], argTypes := #[25, 9] }, none⟩,
  ⟨some 29, .move (.tmp 34), none⟩,
  ⟨some 35, .extract (.tmp 29) 0, none⟩,
  ⟨some 36, .extract (.tmp 29) 1, none⟩,
  ⟨some 37, .extract (.tmp 29) 2, none⟩,
  ⟨some 8, .alloc 30, none⟩,
  ⟨none, .store 30 (.tmp 8) (.tmp 35), none⟩,
  ⟨some 9, .assign (.tmp 36), none⟩,
  ⟨some 10, .assign (.tmp 37), none⟩]
def f3_r7 : List LOp := [
  ⟨some 38, .move (.tmp 10), none⟩,
  ⟨some 39, .binOp .eql 31 (.tmp 38) (.const (.int .i64 0)) 31, none⟩,
  ⟨some 40, .move (.tmp 39), none⟩,
  ⟨some 41, .load 30 (.tmp 8), some (2, true)⟩,
  ⟨some 42, .load 30 (.tmp 5), some (2, true)⟩,
  ⟨some 43, .call { callee := .value (.func 8), args := #[.tmp 41, .tmp 42], argTypes := #[30, 30] }, some (2, true)⟩,
  ⟨some 44, .pick (.tmp 40) (.tmp 43) (.const (.bool false)), none⟩,
  ⟨some 45, .move (.tmp 44), none⟩,
  ⟨some 46, .call { callee := .value (.func 6), args := #[], argTypes := #[] }, some (7, true)⟩,
  ⟨some 47, .pick (.tmp 45) (.tmp 46) (.const (.bool false)), none⟩,
  ⟨some 4, .assign (.tmp 47), none⟩]
def f3_c : LC := (.seq (.reg f3_r0 [] none) (.seq (.seq (.reg f3_r1 [] none) (.cond (.tmp 17) (.seq (.reg f3_r2 [] none) .ret) .skip)) (.seq (.reg f3_r3 [] none) (.seq (.seq (.reg f3_r4 [] none) (.cond (.tmp 27) (.seq (.reg f3_r5 [] none) .ret) .skip)) (.seq (.reg f3_r6 [] none) (.seq (.reg f3_r7 [] none) .ret))))))
theorem f3_lc : Try.f3.body.map lc = some f3_c.st := by kernel_rfl
theorem f3_res : Try.f3.results.toList = [.tmp 4] := by kernel_rfl
theorem f3_nt : Try.f3.ntmps = 48 := by kernel_rfl
theorem f3_nm : (Try.f3.name == "runtime.NumGoroutine") = false := by kernel_rfl
/-! quill/quilllaw21.CfxSame -/
/-! quill/quillref21.Great -/
def f5_r0 : List LOp := [
  ⟨some 1, .box 25 (.tmp 0), none⟩,
  ⟨some 2, .assign (.const (.bool false)), none⟩]
def f5_r1 : List LOp := [
  ⟨some 5, .fieldAddr 25 (.tmp 1) 0, none⟩,
  ⟨some 6, .load 22 (.tmp 5), none⟩,
  ⟨some 7, .call { callee := .builtin .len, args := #[.tmp 6], argTypes := #[22] }, none⟩,
  ⟨some 8, .binOp .gtr 3 (.tmp 7) (.const (.int .i64 12)) 3, none⟩,
  ⟨some 9, .move (.tmp 8), none⟩,
  ⟨some 10, .fieldAddr 25 (.tmp 1) 1, some (4, false)⟩,
  ⟨some 11, .load 23 (.tmp 10), some (4, false)⟩,
  ⟨some 12, .call { callee := .builtin .len, args := #[.tmp 11], argTypes := #[23] }, some (4, false)⟩,
  ⟨some 13, .binOp .gtr 3 (.tmp 12) (.const (.int .i64 12)) 3, some (4, false)⟩,
  ⟨some 14, .pick (.tmp 9) (.const (.bool true)) (.tmp 13), none⟩]
def f5_r2 : List LOp := [
  ⟨some 2, .assign (.const (.bool true)), none⟩]
def f5_r3 : List LOp := [
  ⟨some 15, .fieldAddr 25 (.tmp 1) 0, none⟩,
  ⟨some 16, .load 22 (.tmp 15), none⟩,
  ⟨some 17, .call { callee := .builtin .len, args := #[.tmp 16], argTypes := #[22] }, none⟩,
  ⟨some 18, .move (.const (.int .i64 0)), none⟩]
def f5_r4 : List LOp := [
  ⟨some 19, .binOp .lss 3 (.tmp 18) (.tmp 17) 3, none⟩]
def f5_r5 : List LOp := [
  ⟨some 20, .move (.tmp 18), none⟩,
  ⟨some 3, .assign (.tmp 20), none⟩]
def f5_r6 : List LOp := [
  ⟨some 21, .fieldAddr 25 (.tmp 1) 0, none⟩,
  ⟨some 22, .load 22 (.tmp 21), none⟩,
  ⟨some 23, .move (.tmp 3), none⟩,
  ⟨some 24, .indexAddr 22 (.tmp 22) (.tmp 23), none⟩,
  ⟨some 25, .load 9 (.tmp 24), none⟩,
  ⟨some 26, .call { callee := .builtin .len, args := #[.tmp 25], argTypes := #[9] }, none⟩,
  ⟨some 27, .binOp .gtr 3 (.tmp 26) (.const (.int .i64 100)) 3, none⟩]
def f5_r7 : List LOp := [
  ⟨some 2, .assign (.const (.bool true)), none⟩]
def f5_r8 : List LOp := [
  ⟨some 28, .binOp .add 3 (.tmp 18) (.const (.int .i64 1)) 3, none⟩,
  ⟨some 18, .move (.tmp 28), none⟩]
def f5_l9 : LC := (.seq (.reg f5_r4 [] none) (.seq (.cond (.tmp 19) .skip (.exit 0)) (.seq (.block 1 (.seq (.reg f5_r5 [] none) (.seq (.reg f5_r6 [] none) (.cond (.tmp 27) (.seq (.reg f5_r7 [] none) .ret) .skip)))) (.reg f5_r8 [] none))))
def f5_i9 (t1 t17 t18 : D) : List D := [.any, t1, .any, .any, .any, .any, .any, .any, .any, .any, .any, .any, .any, .any, .any, .any, .any, t17, t18, .any, .any, .any, .any, .any, .any, .any, .any, .any, .any, .any, .any, .any, .any, .any, .any, .any, .any, .any, .any, .any, .any, .any, .any, .any, .any, .any, .any, .any, .any, .any, .any, .any, .any, .any]
def f5_r10 : List LOp := [
  ⟨some 29, .fieldAddr 25 (.tmp 1) 1, none⟩,
  ⟨some 30, .load 23 (.tmp 29), none⟩,
  ⟨some 31, .call { callee := .builtin .len, args := #[.tmp 30], argTypes := #[23] }, none⟩,
  ⟨some 32, .move (.const (.int .i64 0)), none⟩]
def f5_r11 : List LOp := [
  ⟨some 33, .binOp .lss 3 (.tmp 32) (.tmp 31) 3, none⟩]
def f5_r12 : List LOp := [
  ⟨some 34, .move (.tmp 32), none⟩,
  ⟨some 4, .assign (.tmp 34), none⟩]
def f5_r13 : List LOp := [
  ⟨some 35, .fieldAddr 25 (.tmp 1) 1, none⟩,
  ⟨some 36, .load 23 (.tmp 35), none⟩,
  ⟨some 37, .move (.tmp 4), none⟩,
  ⟨some 38, .indexAddr 23 (.tmp 36) (.tmp 37), none⟩,
  ⟨some 39, .fieldAddr 40 (.tmp 38) 0, none⟩,
  ⟨some 40, .load 9 (.tmp 39), none⟩,
  ⟨some 41, .call { callee := .builtin .len, args := #[.tmp 40], argTypes := #[9] }, none⟩,
  ⟨some 42, .binOp .gtr 3 (.tmp 41) (.const (.int .i64 100)) 3, none⟩,
  ⟨some 43, .move (.tmp 42), none⟩,
  ⟨some 44, .fieldAddr 25 (.tmp 1) 1, some (8, false)⟩,
  ⟨some 45, .load 23 (.tmp 44), some (8, false)⟩,
  ⟨some 46, .move (.tmp 4), some (8, false)⟩,
  ⟨some 47, .indexAddr 23 (.tmp 45) (.tmp 46), some (8, false)⟩,
  ⟨some 48, .fieldAddr 40 (.tmp 47) 1, some (8, false)⟩,
  ⟨some 49, .load 30 (.tmp 48), some (8, false)⟩,
  ⟨some 50, .call { callee := .value (.func 13), args := #[.tmp 49, .const (.int .i64 60)], argTypes := #[30, 3] }, some (8, false)⟩,
  ⟨some 51, .binOp .gtr 3 (.tmp 50) (.const (.int .i64 60)) 3, some (8, false)⟩,
  ⟨some 52, .pick (.tmp 43) (.const (.bool true)) (.tmp 51), none⟩]
def f5_r14 : List LOp := [
  ⟨some 2, .assign (.const (.bool true)), none⟩]
def f5_r15 : List LOp := [
  ⟨some 53, .binOp .add 3 (.tmp 32) (.const (.int .i64 1)) 3, none⟩,
  ⟨some 32, .move (.tmp 53), none⟩]
def f5_l16 : LC := (.seq (.reg f5_r11 [] none) (.seq (.cond (.tmp 33) .skip (.exit 2)) (.seq (.block 3 (.seq (.reg f5_r12 [] none) (.seq (.reg f5_r13 [] none) (.cond (.tmp 52) (.seq (.reg f5_r14 [] none) .ret) .skip)))) (.reg f5_r15 [] none))))
def f5_i16 (t1 t31 t32 : D) : List D := [.any, t1, .any, .any, .any, .any, .any, .any, .any, .any, .any, .any, .any, .any, .any, .any, .any, .any, .any, .any, .any, .any, .any, .any, .any, .any, .any, .any, .any, .any, .any, t31, t32, .any, .any, .any, .any, .any, .any, .any, .any, .any, .any, .any, .any, .any, .any, .any, .any, .any, .any, .any, .any, .any]
def f5_r17 : List LOp := [
  ⟨some 2, .assign (.const (.bool false)), none⟩]
def f5_c : LC := (.seq (.reg f5_r0 [] none) (.seq (.seq (.reg f5_r1 [] none) (.cond (.tmp 14) (.seq (.reg f5_r2 [] none) .ret) .skip)) (.seq (.seq (.reg f5_r3 [] none) (.block 0 (.loop f5_l9))) (.seq (.seq (.reg f5_r10 [] none) (.block 2 (.loop f5_l16))) (.seq (.reg f5_r17 [] none) .ret)))))
theorem f5_lc : Try.f5.body.map lc = some f5_c.st := by kernel_rfl
theorem f5_res : Try.f5.results.toList = [.tmp 2] := by kernel_rfl
theorem f5_nt : Try.f5.ntmps = 54 := by kernel_rfl
theorem f5_nm : (Try.f5.name == "runtime.NumGoroutine") = false := by kernel_rfl
/-! quill/quilllaw21.awake -/
def f6_r0 : List LOp := [
  ⟨some 0, .assign (.const (.bool false)), none⟩]
def f6_r1 : List LOp := [
  ⟨some 7, .buildSlice 22 2 #[(0, .const (.string { data := #[97] })), (1, .const (.string { data := #[98] }))], none⟩,
  ⟨some 8, .call { callee := .value (.func 14), args := #[.const (.string { data := #[115, 32, 61, 32, 97, 32, 115, 32, 98, 32, 124, 32, 40, 41, 10] }), .tmp 7], argTypes := #[9, 22] }, none⟩,
  ⟨some 6, .move (.tmp 8), none⟩,
  ⟨some 9, .extract (.tmp 6) 0, none⟩,
  ⟨some 10, .extract (.tmp 6) 1, none⟩,
  ⟨some 11, .extract (.tmp 6) 2, none⟩,
  ⟨some 1, .alloc 25, none⟩,
  ⟨none, .store 25 (.tmp 1) (.tmp 9), none⟩,
  ⟨some 2, .assign (.tmp 10), none⟩,
  ⟨some 3, .assign (.tmp 11), none⟩]
def f6_r2 : List LOp := [
  ⟨some 13, .load 25 (.tmp 1), none⟩,
  ⟨some 14, .call { callee := .value (.func 15), args := #[.tmp 13], argTypes := #[25] }, none⟩,
  ⟨some 12, .move (.tmp 14), none⟩,
  ⟨some 15, .extract (.tmp 12) 0, none⟩,
  ⟨some 16, .extract (.tmp 12) 1, none⟩,
  ⟨some 4, .assign (.tmp 15), none⟩,
  ⟨some 5, .assign (.tmp 16), none⟩]
def f6_r3 : List LOp := [
  ⟨some 17, .move (.tmp 3), none⟩,
  ⟨some 18, .binOp .eql 31 (.tmp 17) (.const (.int .i64 0)) 31, none⟩,
  ⟨some 19, .move (.tmp 18), none⟩,
  ⟨some 20, .move (.tmp 5), some (2, true)⟩,
  ⟨some 21, .binOp .eql 31 (.tmp 20) (.const (.int .i64 0)) 31, some (2, true)⟩,
  ⟨some 22, .pick (.tmp 19) (.tmp 21) (.const (.bool false)), none⟩,
  ⟨some 23, .move (.tmp 22), none⟩,
  ⟨some 24, .move (.tmp 4), some (6, true)⟩,
  ⟨some 25, .binOp .eql 9 (.tmp 24) (.const (.string { data := #[115, 32, 61, 32, 97, 32, 115, 32, 98, 32, 124, 32, 40, 41, 10] })) 9, some (6, true)⟩,
  ⟨some 26, .pick (.tmp 23) (.tmp 25) (.const (.bool false)), none⟩,
  ⟨some 27, .move (.tmp 26), none⟩,
  ⟨some 28, .load 25 (.tmp 1), some (10, true)⟩,
  ⟨some 29, .buildSlice 75 1 #[(0, .tmp 28)], some (10, true)⟩,
  ⟨some 30, .call { callee := .value (.func 16), args := #[.tmp 29], argTypes := #[75] }, some (10, true)⟩,
  ⟨some 31, .pick (.tmp 27) (.tmp 30) (.const (.bool false)), none⟩,
  ⟨some 0, .assign (.tmp 31), none⟩]
def f6_c : LC := (.seq (.reg f6_r0 [] none) (.seq (.reg f6_r1 [] none) (.seq (.reg f6_r2 [] none) (.seq (.reg f6_r3 [] none) .ret))))
theorem f6_lc : Try.f6.body.map lc = some f6_c.st := by kernel_rfl
theorem f6_res : Try.f6.results.toList = [.tmp 0] := by kernel_rfl
theorem f6_nt : Try.f6.ntmps = 32 := by kernel_rfl
theorem f6_nm : (Try.f6.name == "runtime.NumGoroutine") = false := by kernel_rfl
/-! quill/cfx.One -/
def f7_r0 : List LOp := [
  ⟨some 2, .box 25 (.tmp 0), none⟩,
  ⟨some 4, .alloc 30, none⟩,
  ⟨some 5, .assign (.const (.int .i64 0)), none⟩,
  ⟨some 6, .assign (.const (.int .i64 0)), none⟩]
def f7_r1 : List LOp := [
  ⟨some 11, .load 25 (.tmp 2), none⟩,
  ⟨some 12, .call { callee := .value (.func 17), args := #[.tmp 11], argTypes := #[25] }, none⟩,
  ⟨some 13, .unOp .not 4 (.tmp 12), none⟩,
  ⟨some 10, .assign (.tmp 13), none⟩]
def f7_r2 : List LOp := [
  ⟨some 14, .build 30 #[], none⟩,
  ⟨none, .store 30 (.tmp 4) (.tmp 14), none⟩,
  ⟨some 5, .assign (.const (.int .i64 0)), none⟩,
  ⟨some 6, .assign (.const (.int .i64 1)), none⟩]
def f7_r3 : List LOp := [
  ⟨some 16, .move (.tmp 1), none⟩,
  ⟨some 17, .call { callee := .builtin .len, args := #[.tmp 16], argTypes := #[9] }, none⟩,
  ⟨some 18, .binOp .gtr 3 (.tmp 17) (.const (.int .i64 65536)) 3, none⟩,
  ⟨some 15, .assign (.tmp 18), none⟩]
def f7_r4 : List LOp := [
  ⟨some 19, .build 30 #[], none⟩,
  ⟨none, .store 30 (.tmp 4) (.tmp 19), none⟩,
  ⟨some 5, .assign (.const (.int .i64 0)), none⟩,
  ⟨some 6, .assign (.const (.int .i64 3)), none⟩]
def f7_r5 : List LOp := [
  ⟨some 21, .move (.tmp 1), none⟩,
  ⟨some 22, .fieldAddr 25 (.tmp 2) 0, none⟩,
  ⟨some 23, .load 22 (.tmp 22), none⟩,
  ⟨some 24, .fieldAddr 25 (.tmp 2) 1, none⟩,
  ⟨some 25, .load 23 (.tmp 24), none⟩,
  ⟨some 26, .call { callee := .value (.func 18), args := #[.tmp 25], argTypes := #[23] }, none⟩,
  ⟨some 27, .build 50 #[(0, .tmp 21), (2, .tmp 23), (3, .tmp 26)], none⟩,
  ⟨some 28, .box 50 (.tmp 27), none⟩,
  ⟨some 29, .call { callee := .value (.func 19), args := #[.tmp 28], argTypes := #[47] }, none⟩,
  ⟨some 20, .move (.tmp 29), none⟩,
  ⟨some 30, .extract (.tmp 20) 0, none⟩,
  ⟨some 31, .extract (.tmp 20) 1, none⟩,
  ⟨some 32, .extract (.tmp 20) 2, none⟩,
  ⟨some 7, .alloc 30, none⟩,
  ⟨none, .store 30 (.tmp 7) (.tmp 30), none⟩,
  ⟨some 8, .assign (.tmp 31), none⟩,
  ⟨some 9, .assign (.tmp 32), none⟩]
def f7_r6 : List LOp := [
  ⟨some 33, .move (.tmp 9), none⟩,
  ⟨some 34, .binOp .eql 31 (.tmp 33) (.const (.int .i64 0)) 31, none⟩,
  ⟨some 35, .move (.tmp 34), none⟩,
  ⟨some 36, .load 30 (.tmp 7), some (2, true)⟩,
  ⟨some 37, .buildSlice 28 1 #[(0, .tmp 36)], some (2, true)⟩,
  ⟨some 38, .call { callee := .value (.func 11), args := #[.tmp 37], argTypes := #[28] }, some (2, true)⟩,
  ⟨some 39, .binOp .gtr 3 (.tmp 38) (.const (.int .i64 2000)) 3, some (2, true)⟩,
  ⟨some 40, .pick (.tmp 35) (.tmp 39) (.const (.bool false)), none⟩]
def f7_r7 : List LOp := [
  ⟨some 41, .build 30 #[], none⟩,
  ⟨none, .store 30 (.tmp 4) (.tmp 41), none⟩,
  ⟨some 5, .assign (.const (.int .i64 0)), none⟩,
  ⟨some 6, .assign (.const (.int .i64 4)), none⟩]
def f7_r8 : List LOp := [
  ⟨some 42, .load 30 (.tmp 7), none⟩,
  ⟨some 43, .move (.tmp 8), none⟩,
  ⟨some 44, .move (.tmp 9), none⟩,
  ⟨none, .store 30 (.tmp 4) (.tmp 42), none⟩,
  ⟨some 5, .assign (.tmp 43), none⟩,
  ⟨some 6, .assign (.tmp 44), none⟩]
def f7_c : LC := (.seq (.reg f7_r0 [] none) (.seq (.block 0 (.seq (.reg f7_r1 [] none) (.cond (.tmp 10) (.seq (.reg f7_r2 [] none) .ret) (.seq (.reg f7_r3 [] none) (.cond (.tmp 15) (.seq (.reg f7_r4 [] none) .ret) .skip))))) (.seq (.regq f7_r5 [7] 0 (.free [[], [], [1], [], [3], [4], [0, 2, 5], [6], [7, 5], [8], [9], [9], [9], [], [13, 10, 8, 0, 1, 2, 3, 4, 5, 6, 7, 8, 9, 10, 13], [11, 14, 0, 1, 2, 3, 4, 5, 6, 7, 8, 9, 10, 11, 13, 14], [12, 15, 0, 1, 2, 3, 4, 5, 6, 7, 8, 9, 10, 11, 12, 13, 14, 15]])) (.seq (.seq (.reg f7_r6 [] none) (.cond (.tmp 40) (.seq (.reg f7_r7 [] none) .ret) .skip)) (.seq (.reg f7_r8 [] none) .ret)))))
theorem f7_lc : Try.f7.body.map lc = some f7_c.st := by kernel_rfl
theorem f7_res : Try.f7.results.toList = [.cell 4 30, .tmp 5, .tmp 6] := by kernel_rfl
theorem f7_nt : Try.f7.ntmps = 45 := by kernel_rfl
theorem f7_nm : (Try.f7.name == "runtime.NumGoroutine") = false := by kernel_rfl
/-! quill/quillref21.Same -/
def f8_r0 : List LOp := [
  ⟨some 2, .box 30 (.tmp 0), none⟩,
  ⟨some 3, .box 30 (.tmp 1), none⟩,
  ⟨some 4, .assign (.const (.bool false)), none⟩]
def f8_r1 : List LOp := [
  ⟨some 6, .fieldAddr 30 (.tmp 2) 0, none⟩,
  ⟨some 7, .load 5 (.tmp 6), none⟩,
  ⟨some 8, .fieldAddr 30 (.tmp 3) 0, none⟩,
  ⟨some 9, .load 5 (.tmp 8), none⟩,
  ⟨some 10, .binOp .neq 5 (.tmp 7) (.tmp 9) 5, none⟩,
  ⟨some 11, .move (.tmp 10), none⟩,
  ⟨some 12, .fieldAddr 30 (.tmp 2) 1, some (5, false)⟩,
  ⟨some 13, .load 3 (.tmp 12), some (5, false)⟩,
  ⟨some 14, .fieldAddr 30 (.tmp 3) 1, some (5, false)⟩,
  ⟨some 15, .load 3 (.tmp 14), some (5, false)⟩,
  ⟨some 16, .binOp .neq 3 (.tmp 13) (.tmp 15) 3, some (5, false)⟩,
  ⟨some 17, .pick (.tmp 11) (.const (.bool true)) (.tmp 16), none⟩,
  ⟨some 18, .move (.tmp 17), none⟩,
  ⟨some 19, .fieldAddr 30 (.tmp 2) 2, some (12, false)⟩,
  ⟨some 20, .load 28 (.tmp 19), some (12, false)⟩,
  ⟨some 21, .call { callee := .builtin .len, args := #[.tmp 20], argTypes := #[28] }, some (12, false)⟩,
  ⟨some 22, .fieldAddr 30 (.tmp 3) 2, some (12, false)⟩,
  ⟨some 23, .load 28 (.tmp 22), some (12, false)⟩,
  ⟨some 24, .call { callee := .builtin .len, args := #[.tmp 23], argTypes := #[28] }, some (12, false)⟩,
  ⟨some 25, .binOp .neq 3 (.tmp 21) (.tmp 24) 3, some (12, false)⟩,
  ⟨some 26, .pick (.tmp 18) (.const (.bool true)) (.tmp 25), none⟩]
def f8_r2 : List LOp := [
  ⟨some 4, .assign (.const (.bool false)), none⟩]
def f8_r3 : List LOp := [
  ⟨some 27, .fieldAddr 30 (.tmp 2) 2, none⟩,
  ⟨some 28, .load 28 (.tmp 27), none⟩,
  ⟨some 29, .call { callee := .builtin .len, args := #[.tmp 28], argTypes := #[28] }, none⟩,
  ⟨some 30, .move (.const (.int .i64 0)), none⟩]
def f8_r4 : List LOp := [
  ⟨some 31, .binOp .lss 3 (.tmp 30) (.tmp 29) 3, none⟩]
def f8_r5 : List LOp := [
  ⟨some 32, .move (.tmp 30), none⟩,
  ⟨some 5, .assign (.tmp 32), none⟩]
def f8_r6 : List LOp := [
  ⟨some 33, .fieldAddr 30 (.tmp 2) 2, none⟩,
  ⟨some 34, .load 28 (.tmp 33), none⟩,
  ⟨some 35, .move (.tmp 5), none⟩,
  ⟨some 36, .indexAddr 28 (.tmp 34) (.tmp 35), none⟩,
  ⟨some 37, .load 30 (.tmp 36), none⟩,
  ⟨some 38, .fieldAddr 30 (.tmp 3) 2, none⟩,
  ⟨some 39, .load 28 (.tmp 38), none⟩,
  ⟨some 40, .move (.tmp 5), none⟩,
  ⟨some 41, .indexAddr 28 (.tmp 39) (.tmp 40), none⟩,
  ⟨some 42, .load 30 (.tmp 41), none⟩,
  ⟨some 43, .call { callee := .value (.func 8), args := #[.tmp 37, .tmp 42], argTypes := #[30, 30] }, none⟩,
  ⟨some 44, .unOp .not 4 (.tmp 43), none⟩]
def f8_r7 : List LOp := [
  ⟨some 4, .assign (.const (.bool false)), none⟩]
def f8_r8 : List LOp := [
  ⟨some 45, .binOp .add 3 (.tmp 30) (.const (.int .i64 1)) 3, none⟩,
  ⟨some 30, .move (.tmp 45), none⟩]
def f8_l9 : LC := (.seq (.reg f8_r4 [] none) (.seq (.cond (.tmp 31) .skip (.exit 0)) (.seq (.block 1 (.seq (.reg f8_r5 [] none) (.seq (.reg f8_r6 [] (some 10)) (.cond (.tmp 44) (.seq (.reg f8_r7 [] none) .ret) .skip)))) (.reg f8_r8 [] none))))
def f8_i9 (t2 t3 t29 t30 : D) : List D := [.any, .any, t2, t3, .any, .any, .any, .any, .any, .any, .any, .any, .any, .any, .any, .any, .any, .any, .any, .any, .any, .any, .any, .any, .any, .any, .any, .any, .any, t29, t30, .any, .any, .any, .any, .any, .any, .any, .any, .any, .any, .any, .any, .any, .any, .any]
def f8_r10 : List LOp := [
  ⟨some 4, .assign (.const (.bool true)), none⟩]
def f8_c : LC := (.seq (.reg f8_r0 [] none) (.seq (.seq (.reg f8_r1 [] none) (.cond (.tmp 26) (.seq (.reg f8_r2 [] none) .ret) .skip)) (.seq (.seq (.reg f8_r3 [] none) (.block 0 (.loop f8_l9))) (.seq (.reg f8_r10 [] none) .ret))))
theorem f8_lc : Try.f8.body.map lc = some f8_c.st := by kernel_rfl
theorem f8_res : Try.f8.results.toList = [.tmp 4] := by kernel_rfl
theorem f8_nt : Try.f8.ntmps = 46 := by kernel_rfl
theorem f8_nm : (Try.f8.name == "runtime.NumGoroutine") = false := by kernel_rfl
/-! quill/quillref21.Wide -/
/-! quill/cfx.Same -/
/-! quill/cfx.Size -/
def f11_r0 : List LOp := [
  ⟨some 2, .assign (.const (.int .i64 0)), none⟩]
def f11_r1 : List LOp := [
  ⟨some 6, .move (.tmp 0), none⟩,
  ⟨some 7, .call { callee := .builtin .len, args := #[.tmp 6], argTypes := #[28] }, none⟩,
  ⟨some 3, .assign (.tmp 7), none⟩]
def f11_r2 : List LOp := [
  ⟨some 8, .move (.tmp 0), none⟩,
  ⟨some 9, .call { callee := .builtin .len, args := #[.tmp 8], argTypes := #[28] }, none⟩,
  ⟨some 10, .move (.const (.int .i64 0)), none⟩]
def f11_r3 : List LOp := [
  ⟨some 11, .binOp .lss 3 (.tmp 10) (.tmp 9) 3, none⟩]
def f11_r4 : List LOp := [
  ⟨some 12, .indexAddr 28 (.tmp 8) (.tmp 10), none⟩,
  ⟨some 13, .load 30 (.tmp 12), none⟩,
  ⟨some 5, .alloc 30, none⟩,
  ⟨none, .store 30 (.tmp 5) (.tmp 13), none⟩]
def f11_r5 : List LOp := [
  ⟨some 14, .move (.tmp 3), none⟩,
  ⟨some 15, .fieldAddr 30 (.tmp 5) 2, none⟩,
  ⟨some 16, .load 28 (.tmp 15), none⟩,
  ⟨some 17, .call { callee := .value (.func 11), args := #[.tmp 16], argTypes := #[28] }, none⟩,
  ⟨some 18, .binOp .add 3 (.tmp 14) (.tmp 17) 3, none⟩,
  ⟨some 3, .assign (.tmp 18), none⟩]
def f11_r6 : List LOp := [
  ⟨some 19, .binOp .add 3 (.tmp 10) (.const (.int .i64 1)) 3, none⟩,
  ⟨some 10, .move (.tmp 19), none⟩]
def f11_l7 : LC := (.seq (.reg f11_r3 [] none) (.seq (.cond (.tmp 11) .skip (.exit 0)) (.seq (.block 1 (.seq (.reg f11_r4 [] none) (.reg f11_r5 [] none))) (.reg f11_r6 [] none))))
def f11_i7 (t3 t8 t9 t10 : D) : List D := [.any, .any, .any, t3, .any, .any, .any, .any, t8, t9, t10, .any, .any, .any, .any, .any, .any, .any, .any, .any, .any]
def f11_r8 : List LOp := [
  ⟨some 20, .move (.tmp 3), none⟩,
  ⟨some 2, .assign (.tmp 20), none⟩]
def f11_c : LC := (.seq (.reg f11_r0 [] none) (.seq (.reg f11_r1 [] none) (.seq (.seq (.reg f11_r2 [] none) (.block 0 (.loop f11_l7))) (.seq (.reg f11_r8 [] none) .ret))))
theorem f11_lc : Try.f11.body.map lc = some f11_c.st := by kernel_rfl
theorem f11_res : Try.f11.results.toList = [.tmp 2] := by kernel_rfl
theorem f11_nt : Try.f11.ntmps = 21 := by kernel_rfl
theorem f11_nm : (Try.f11.name == "runtime.NumGoroutine") = false := by kernel_rfl
/-! quill/quillref21.All -/
/-! quill/quillref21.count -/
def f13_r0 : List LOp := [
  ⟨some 2, .box 30 (.tmp 0), none⟩,
  ⟨some 4, .assign (.const (.int .i64 0)), none⟩]
def f13_r1 : List LOp := [
  ⟨some 5, .assign (.const (.int .i64 1)), none⟩]
def f13_r2 : List LOp := [
  ⟨some 7, .fieldAddr 30 (.tmp 2) 2, none⟩,
  ⟨some 8, .load 28 (.tmp 7), none⟩,
  ⟨some 9, .call { callee := .builtin .len, args := #[.tmp 8], argTypes := #[28] }, none⟩,
  ⟨some 10, .move (.const (.int .i64 0)), none⟩]
def f13_r3 : List LOp := [
  ⟨some 11, .binOp .lss 3 (.tmp 10) (.tmp 9) 3, none⟩]
def f13_r4 : List LOp := [
  ⟨some 12, .move (.tmp 10), none⟩,
  ⟨some 6, .assign (.tmp 12), none⟩]
def f13_r5 : List LOp := [
  ⟨some 13, .move (.tmp 5), none⟩,
  ⟨some 14, .move (.tmp 1), none⟩,
  ⟨some 15, .binOp .gtr 3 (.tmp 13) (.tmp 14) 3, none⟩]
def f13_r6 : List LOp := [
  ⟨some 16, .move (.tmp 5), none⟩,
  ⟨some 4, .assign (.tmp 16), none⟩]
def f13_r7 : List LOp := [
  ⟨some 17, .move (.tmp 5), none⟩,
  ⟨some 18, .fieldAddr 30 (.tmp 2) 2, none⟩,
  ⟨some 19, .load 28 (.tmp 18), none⟩,
  ⟨some 20, .move (.tmp 6), none⟩,
  ⟨some 21, .indexAddr 28 (.tmp 19) (.tmp 20), none⟩,
  ⟨some 22, .load 30 (.tmp 21), none⟩,
  ⟨some 23, .move (.tmp 1), none⟩,
  ⟨some 24, .call { callee := .value (.func 13), args := #[.tmp 22, .tmp 23], argTypes := #[30, 3] }, none⟩,
  ⟨some 25, .binOp .add 3 (.tmp 17) (.tmp 24) 3, none⟩,
  ⟨some 5, .assign (.tmp 25), none⟩]
def f13_r8 : List LOp := [
  ⟨some 26, .binOp .add 3 (.tmp 10) (.const (.int .i64 1)) 3, none⟩,
  ⟨some 10, .move (.tmp 26), none⟩]
def f13_l9 : LC := (.seq (.reg f13_r3 [] none) (.seq (.cond (.tmp 11) .skip (.exit 0)) (.seq (.block 1 (.seq (.reg f13_r4 [] none) (.seq (.seq (.reg f13_r5 [] none) (.cond (.tmp 15) (.seq (.reg f13_r6 [] none) .ret) .skip)) (.reg f13_r7 [] none)))) (.reg f13_r8 [] none))))
def f13_i9 (t1 t2 t5 t9 t10 : D) : List D := [.any, t1, t2, .any, .any, t5, .any, .any, .any, t9, t10, .any, .any, .any, .any, .any, .any, .any, .any, .any, .any, .any, .any, .any, .any, .any, .any, .any]
def f13_r10 : List LOp := [
  ⟨some 27, .move (.tmp 5), none⟩,
  ⟨some 4, .assign (.tmp 27), none⟩]
def f13_c : LC := (.seq (.reg f13_r0 [] none) (.seq (.reg f13_r1 [] none) (.seq (.seq (.reg f13_r2 [] none) (.block 0 (.loop f13_l9))) (.seq (.reg f13_r10 [] none) .ret))))
theorem f13_lc : Try.f13.body.map lc = some f13_c.st := by kernel_rfl
theorem f13_res : Try.f13.results.toList = [.tmp 4] := by kernel_rfl
theorem f13_nt : Try.f13.ntmps = 28 := by kernel_rfl
theorem f13_nm : (Try.f13.name == "runtime.NumGoroutine") = false := by kernel_rfl
/-! quill/cfx.Read -/
def f14_r0 : List LOp := [
  ⟨some 4, .alloc 25, none⟩,
  ⟨some 5, .assign (.const (.int .i64 0)), none⟩,
  ⟨some 6, .assign (.const (.int .i64 0)), none⟩]
def f14_r1 : List LOp := [
  ⟨some 20, .move (.tmp 0), none⟩,
  ⟨some 21, .call { callee := .builtin .len, args := #[.tmp 20], argTypes := #[9] }, none⟩,
  ⟨some 22, .binOp .gtr 3 (.tmp 21) (.const (.int .i64 65536)) 3, none⟩,
  ⟨some 19, .assign (.tmp 22), none⟩]
def f14_r2 : List LOp := [
  ⟨some 23, .build 25 #[], none⟩,
  ⟨none, .store 25 (.tmp 4) (.tmp 23), none⟩,
  ⟨some 5, .assign (.const (.int .i64 0)), none⟩,
  ⟨some 6, .assign (.const (.int .i64 3)), none⟩]
def f14_r3 : List LOp := [
  ⟨some 25, .move (.tmp 1), none⟩,
  ⟨some 26, .call { callee := .builtin .len, args := #[.tmp 25], argTypes := #[22] }, none⟩,
  ⟨some 27, .binOp .lss 3 (.tmp 26) (.const (.int .i64 1)) 3, none⟩,
  ⟨some 28, .move (.tmp 27), none⟩,
  ⟨some 29, .move (.tmp 1), some (3, false)⟩,
  ⟨some 30, .call { callee := .builtin .len, args := #[.tmp 29], argTypes := #[22] }, some (3, false)⟩,
  ⟨some 31, .binOp .gtr 3 (.tmp 30) (.const (.int .i64 100)) 3, some (3, false)⟩,
  ⟨some 32, .pick (.tmp 28) (.const (.bool true)) (.tmp 31), none⟩,
  ⟨some 33, .move (.tmp 32), none⟩,
  ⟨some 34, .move (.tmp 1), some (8, false)⟩,
  ⟨some 35, .call { callee := .value (.func 21), args := #[.tmp 34], argTypes := #[22] }, some (8, false)⟩,
  ⟨some 36, .unOp .not 4 (.tmp 35), some (8, false)⟩,
  ⟨some 37, .pick (.tmp 33) (.const (.bool true)) (.tmp 36), none⟩,
  ⟨some 24, .assign (.tmp 37), none⟩]
def f14_r4 : List LOp := [
  ⟨some 38, .build 25 #[], none⟩,
  ⟨none, .store 25 (.tmp 4) (.tmp 38), none⟩,
  ⟨some 5, .assign (.const (.int .i64 0)), none⟩,
  ⟨some 6, .assign (.const (.int .i64 1)), none⟩]
def f14_r5 : List LOp := [
  ⟨some 40, .move (.tmp 0), none⟩,
  ⟨some 41, .move (.tmp 1), none⟩,
  ⟨some 42, .call { callee := .value (.func 22), args := #[.tmp 40, .tmp 41], argTypes := #[9, 22] }, none⟩,
  ⟨some 39, .move (.tmp 42), none⟩,
  ⟨some 43, .extract (.tmp 39) 0, none⟩,
  ⟨some 44, .extract (.tmp 39) 1, none⟩,
  ⟨some 45, .extract (.tmp 39) 2, none⟩,
  ⟨some 7, .assign (.tmp 43), none⟩,
  ⟨some 8, .assign (.tmp 44), none⟩,
  ⟨some 9, .assign (.tmp 45), none⟩]
def f14_r6 : List LOp := [
  ⟨some 46, .move (.tmp 9), none⟩,
  ⟨some 47, .binOp .neq 31 (.tmp 46) (.const (.int .i64 0)) 31, none⟩]
def f14_r7 : List LOp := [
  ⟨some 48, .build 25 #[], none⟩,
  ⟨some 49, .move (.tmp 8), none⟩,
  ⟨some 50, .move (.tmp 9), none⟩,
  ⟨none, .store 25 (.tmp 4) (.tmp 48), none⟩,
  ⟨some 5, .assign (.tmp 49), none⟩,
  ⟨some 6, .assign (.tmp 50), none⟩]
def f14_r8 : List LOp := [
  ⟨some 51, .move (.tmp 1), none⟩,
  ⟨some 52, .call { callee := .value (.func 23), args := #[.tmp 51], argTypes := #[22] }, none⟩,
  ⟨some 53, .build 25 #[(0, .tmp 52)], none⟩,
  ⟨some 10, .alloc 25, none⟩,
  ⟨none, .store 25 (.tmp 10) (.tmp 53), none⟩]
def f14_r9 : List LOp := [
  ⟨some 11, .assign (.const (.slice none 0 0)), none⟩]
def f14_r10 : List LOp := [
  ⟨some 54, .move (.tmp 7), none⟩,
  ⟨some 55, .call { callee := .builtin .len, args := #[.tmp 54], argTypes := #[54] }, none⟩,
  ⟨some 56, .move (.const (.int .i64 0)), none⟩]
def f14_r11 : List LOp := [
  ⟨some 57, .binOp .lss 3 (.tmp 56) (.tmp 55) 3, none⟩]
def f14_r12 : List LOp := [
  ⟨some 58, .indexAddr 54 (.tmp 54) (.tmp 56), none⟩,
  ⟨some 59, .load 59 (.tmp 58), none⟩,
  ⟨some 13, .alloc 59, none⟩,
  ⟨none, .store 59 (.tmp 13) (.tmp 59), none⟩]
def f14_r13 : List LOp := [
  ⟨some 60, .move (.tmp 11), none⟩,
  ⟨some 61, .fieldAddr 59 (.tmp 13) 1, none⟩,
  ⟨some 62, .load 9 (.tmp 61), none⟩,
  ⟨some 63, .buildSlice 22 1 #[(0, .tmp 62)], none⟩,
  ⟨some 64, .call { callee := .builtin .append, args := #[.tmp 60, .tmp 63], argTypes := #[22, 22] }, none⟩,
  ⟨some 11, .assign (.tmp 64), none⟩]
def f14_r14 : List LOp := [
  ⟨some 65, .binOp .add 3 (.tmp 56) (.const (.int .i64 1)) 3, none⟩,
  ⟨some 56, .move (.tmp 65), none⟩]
def f14_l15 : LC := (.seq (.reg f14_r11 [] none) (.seq (.cond (.tmp 57) .skip (.exit 1)) (.seq (.block 2 (.seq (.reg f14_r12 [] none) (.reg f14_r13 [] none))) (.reg f14_r14 [] none))))
def f14_i15 (t1 t4 t7 t10 t11 t54 t55 t56 : D) : List D := [.any, t1, .any, .any, t4, .any, .any, t7, .any, .any, t10, t11, .any, .any, .any, .any, .any, .any, .any, .any, .any, .any, .any, .any, .any, .any, .any, .any, .any, .any, .any, .any, .any, .any, .any, .any, .any, .any, .any, .any, .any, .any, .any, .any, .any, .any, .any, .any, .any, .any, .any, .any, .any, .any, t54, t55, t56, .any, .any, .any, .any, .any, .any, .any, .any, .any, .any, .any, .any, .any, .any, .any, .any, .any, .any, .any, .any, .any, .any, .any, .any, .any, .any, .any, .any, .any, .any, .any, .any, .any, .any, .any, .any, .any, .any, .any, .any, .any, .any, .any, .any, .any, .any, .any, .any, .any, .any, .any, .any, .any, .any]
def f14_r16 : List LOp := [
  ⟨some 66, .move (.tmp 7), none⟩,
  ⟨some 67, .call { callee := .builtin .len, args := #[.tmp 66], argTypes := #[54] }, none⟩,
  ⟨some 68, .move (.const (.int .i64 0)), none⟩]
def f14_r17 : List LOp := [
  ⟨some 69, .binOp .lss 3 (.tmp 68) (.tmp 67) 3, none⟩]
def f14_r18 : List LOp := [
  ⟨some 70, .indexAddr 54 (.tmp 66) (.tmp 68), none⟩,
  ⟨some 71, .load 59 (.tmp 70), none⟩,
  ⟨some 15, .alloc 59, none⟩,
  ⟨none, .store 59 (.tmp 15) (.tmp 71), none⟩]
def f14_r19 : List LOp := [
  ⟨some 73, .fieldAddr 59 (.tmp 15) 2, none⟩,
  ⟨some 74, .load 9 (.tmp 73), none⟩,
  ⟨some 75, .move (.tmp 1), none⟩,
  ⟨some 76, .move (.tmp 11), none⟩,
  ⟨some 77, .build 50 #[(0, .tmp 74), (2, .tmp 75), (3, .tmp 76)], none⟩,
  ⟨some 78, .box 50 (.tmp 77), none⟩,
  ⟨some 79, .call { callee := .value (.func 19), args := #[.tmp 78], argTypes := #[47] }, none⟩,
  ⟨some 72, .move (.tmp 79), none⟩,
  ⟨some 80, .extract (.tmp 72) 0, none⟩,
  ⟨some 81, .extract (.tmp 72) 1, none⟩,
  ⟨some 82, .extract (.tmp 72) 2, none⟩,
  ⟨some 16, .alloc 30, none⟩,
  ⟨none, .store 30 (.tmp 16) (.tmp 80), none⟩,
  ⟨some 17, .assign (.tmp 81), none⟩,
  ⟨some 18, .assign (.tmp 82), none⟩]
def f14_r20 : List LOp := [
  ⟨some 83, .move (.tmp 18), none⟩,
  ⟨some 84, .binOp .neq 31 (.tmp 83) (.const (.int .i64 0)) 31, none⟩]
def f14_r21 : List LOp := [
  ⟨some 85, .build 25 #[], none⟩,
  ⟨some 86, .fieldAddr 59 (.tmp 15) 0, none⟩,
  ⟨some 87, .load 3 (.tmp 86), none⟩,
  ⟨some 88, .fieldAddr 59 (.tmp 15) 1, none⟩,
  ⟨some 89, .load 9 (.tmp 88), none⟩,
  ⟨some 90, .call { callee := .builtin .len, args := #[.tmp 89], argTypes := #[9] }, none⟩,
  ⟨some 91, .binOp .add 3 (.tmp 87) (.tmp 90) 3, none⟩,
  ⟨some 92, .binOp .add 3 (.tmp 91) (.const (.int .i64 3)) 3, none⟩,
  ⟨some 93, .move (.tmp 17), none⟩,
  ⟨some 94, .binOp .add 3 (.tmp 92) (.tmp 93) 3, none⟩,
  ⟨some 95, .move (.tmp 18), none⟩,
  ⟨none, .store 25 (.tmp 4) (.tmp 85), none⟩,
  ⟨some 5, .assign (.tmp 94), none⟩,
  ⟨some 6, .assign (.tmp 95), none⟩]
def f14_r22 : List LOp := [
  ⟨some 96, .fieldAddr 25 (.tmp 10) 1, none⟩,
  ⟨some 97, .load 23 (.tmp 96), none⟩,
  ⟨some 98, .fieldAddr 59 (.tmp 15) 1, none⟩,
  ⟨some 99, .load 9 (.tmp 98), none⟩,
  ⟨some 100, .load 30 (.tmp 16), none⟩,
  ⟨some 101, .build 40 #[(0, .tmp 99), (1, .tmp 100)], none⟩,
  ⟨some 102, .buildSlice 23 1 #[(0, .tmp 101)], none⟩,
  ⟨some 103, .call { callee := .builtin .append, args := #[.tmp 97, .tmp 102], argTypes := #[23, 23] }, none⟩,
  ⟨some 104, .fieldAddr 25 (.tmp 10) 1, none⟩,
  ⟨none, .store 23 (.tmp 104) (.tmp 103), none⟩]
def f14_r23 : List LOp := [
  ⟨some 105, .binOp .add 3 (.tmp 68) (.const (.int .i64 1)) 3, none⟩,
  ⟨some 68, .move (.tmp 105), none⟩]
def f14_l24 : LC := (.seq (.reg f14_r17 [] none) (.seq (.cond (.tmp 69) .skip (.exit 3)) (.seq (.block 4 (.seq (.reg f14_r18 [] none) (.seq (.reg f14_r19 [5] none) (.seq (.seq (.reg f14_r20 [] none) (.cond (.tmp 84) (.seq (.regq f14_r21 [] 0 (.free [[], [], [1], [], [3], [4], [2, 5], [6], [], [7, 8], [], [0, 0], [9, 11, 0, 1, 2, 3, 4, 5, 6, 7, 8, 9, 11], [10, 12, 0, 1, 2, 3, 4, 5, 6, 7, 8, 9, 10, 11, 12]])) .ret) .skip)) (.reg f14_r22 [] none))))) (.reg f14_r23 [] none))))
def f14_i24 (t1 t4 t10 t11 t66 t67 t68 : D) : List D := [.any, t1, .any, .any, t4, .any, .any, .any, .any, .any, t10, t11, .any, .any, .any, .any, .any, .any, .any, .any, .any, .any, .any, .any, .any, .any, .any, .any, .any, .any, .any, .any, .any, .any, .any, .any, .any, .any, .any, .any, .any, .any, .any, .any, .any, .any, .any, .any, .any, .any, .any, .any, .any, .any, .any, .any, .any, .any, .any, .any, .any, .any, .any, .any, .any, .any, t66, t67, t68, .any, .any, .any, .any, .any, .any, .any, .any, .any, .any, .any, .any, .any, .any, .any, .any, .any, .any, .any, .any, .any, .any, .any, .any, .any, .any, .any, .any, .any, .any, .any, .any, .any, .any, .any, .any, .any, .any, .any, .any, .any, .any]
def f14_r25 : List LOp := [
  ⟨some 106, .load 25 (.tmp 10), none⟩,
  ⟨some 107, .call { callee := .value (.func 17), args := #[.tmp 106], argTypes := #[25] }, none⟩,
  ⟨some 108, .unOp .not 4 (.tmp 107), none⟩]
def f14_r26 : List LOp := [
  ⟨some 109, .build 25 #[], none⟩,
  ⟨none, .store 25 (.tmp 4) (.tmp 109), none⟩,
  ⟨some 5, .assign (.const (.int .i64 0)), none⟩,
  ⟨some 6, .assign (.const (.int .i64 4)), none⟩]
def f14_r27 : List LOp := [
  ⟨some 110, .load 25 (.tmp 10), none⟩,
  ⟨none, .store 25 (.tmp 4) (.tmp 110), none⟩,
  ⟨some 5, .assign (.const (.int .i64 0)), none⟩,
  ⟨some 6, .assign (.const (.int .i64 0)), none⟩]
def f14_c : LC := (.seq (.reg f14_r0 [] none) (.seq (.block 0 (.seq (.reg f14_r1 [] none) (.cond (.tmp 19) (.seq (.reg f14_r2 [] none) .ret) (.seq (.reg f14_r3 [] none) (.cond (.tmp 24) (.seq (.reg f14_r4 [] none) .ret) .skip))))) (.seq (.reg f14_r5 [] none) (.seq (.seq (.reg f14_r6 [] none) (.cond (.tmp 47) (.seq (.reg f14_r7 [] none) .ret) .skip)) (.seq (.reg f14_r8 [] none) (.seq (.reg f14_r9 [] none) (.seq (.seq (.reg f14_r10 [] none) (.block 1 (.loop f14_l15))) (.seq (.seq (.reg f14_r16 [] none) (.block 3 (.loop f14_l24))) (.seq (.seq (.reg f14_r25 [] none) (.cond (.tmp 108) (.seq (.reg f14_r26 [] none) .ret) .skip)) (.seq (.reg f14_r27 [] none) .ret))))))))))
theorem f14_lc : Try.f14.body.map lc = some f14_c.st := by kernel_rfl
theorem f14_res : Try.f14.results.toList = [.cell 4 25, .tmp 5, .tmp 6] := by kernel_rfl
theorem f14_nt : Try.f14.ntmps = 111 := by kernel_rfl
theorem f14_nm : (Try.f14.name == "runtime.NumGoroutine") = false := by kernel_rfl
/-! quill/cfx.Print -/
def f15_r0 : List LOp := [
  ⟨some 1, .box 25 (.tmp 0), none⟩,
  ⟨some 2, .assign (.const (.string { data := #[] })), none⟩,
  ⟨some 3, .assign (.const (.int .i64 0)), none⟩]
def f15_r1 : List LOp := [
  ⟨some 7, .load 25 (.tmp 1), none⟩,
  ⟨some 8, .call { callee := .value (.func 17), args := #[.tmp 7], argTypes := #[25] }, none⟩,
  ⟨some 9, .unOp .not 4 (.tmp 8), none⟩]
def f15_r2 : List LOp := [
  ⟨some 2, .assign (.const (.string { data := #[] })), none⟩,
  ⟨some 3, .assign (.const (.int .i64 1)), none⟩]
def f15_r3 : List LOp := [
  ⟨some 10, .load 25 (.tmp 1), none⟩,
  ⟨some 11, .build 66 #[(1, .tmp 10)], none⟩,
  ⟨some 12, .box 66 (.tmp 11), none⟩,
  ⟨some 4, .assign (.tmp 12), none⟩]
def f15_r4 : List LOp := [
  ⟨some 13, .fieldAddr 25 (.tmp 1) 1, none⟩,
  ⟨some 14, .load 23 (.tmp 13), none⟩,
  ⟨some 15, .call { callee := .builtin .len, args := #[.tmp 14], argTypes := #[23] }, none⟩,
  ⟨some 16, .move (.const (.int .i64 0)), none⟩]
def f15_r5 : List LOp := [
  ⟨some 17, .binOp .lss 3 (.tmp 16) (.tmp 15) 3, none⟩]
def f15_r6 : List LOp := [
  ⟨some 18, .indexAddr 23 (.tmp 14) (.tmp 16), none⟩,
  ⟨some 19, .load 40 (.tmp 18), none⟩,
  ⟨some 6, .alloc 40, none⟩,
  ⟨none, .store 40 (.tmp 6) (.tmp 19), none⟩]
def f15_r7 : List LOp := [
  ⟨some 20, .move (.tmp 4), none⟩,
  ⟨some 21, .nilCheck (.tmp 20), none⟩,
  ⟨some 22, .fieldAddr 66 (.tmp 21) 0, none⟩,
  ⟨some 23, .fieldAddr 40 (.tmp 6) 0, none⟩,
  ⟨some 24, .load 9 (.tmp 23), none⟩,
  ⟨some 25, .binOp .add 9 (.tmp 24) (.const (.string { data := #[32, 61, 32] })) 9, none⟩,
  ⟨some 26, .call { callee := .value (.func 24), args := #[.tmp 22, .tmp 25], argTypes := #[64, 9] }, none⟩]
def f15_r8 : List LOp := [
  ⟨some 27, .move (.tmp 4), none⟩,
  ⟨some 28, .fieldAddr 40 (.tmp 6) 1, none⟩,
  ⟨some 29, .load 30 (.tmp 28), none⟩,
  ⟨some 30, .call { callee := .value (.func 25), args := #[.tmp 27, .tmp 29, .const (.slice none 0 0)], argTypes := #[60, 30, 62] }, none⟩]
def f15_r9 : List LOp := [
  ⟨some 31, .move (.tmp 4), none⟩,
  ⟨some 32, .nilCheck (.tmp 31), none⟩,
  ⟨some 33, .fieldAddr 66 (.tmp 32) 0, none⟩,
  ⟨some 34, .call { callee := .value (.func 26), args := #[.tmp 33, .const (.int .u8 10)], argTypes := #[64, 5] }, none⟩]
def f15_r10 : List LOp := [
  ⟨some 35, .binOp .add 3 (.tmp 16) (.const (.int .i64 1)) 3, none⟩,
  ⟨some 16, .move (.tmp 35), none⟩]
def f15_l11 : LC := (.seq (.reg f15_r5 [] none) (.seq (.cond (.tmp 17) .skip (.exit 0)) (.seq (.block 1 (.seq (.reg f15_r6 [] none) (.seq (.reg f15_r7 [] (some 6)) (.seq (.reg f15_r8 [] none) (.reg f15_r9 [] none))))) (.reg f15_r10 [] none))))
def f15_i11 (t4 t14 t15 t16 : D) : List D := [.any, .any, .any, .any, t4, .any, .any, .any, .any, .any, .any, .any, .any, .any, t14, t15, t16, .any, .any, .any, .any, .any, .any, .any, .any, .any, .any, .any, .any, .any, .any, .any, .any, .any, .any, .any, .any, .any, .any, .any, .any, .any, .any, .any, .any]
def f15_r12 : List LOp := [
  ⟨some 36, .move (.tmp 4), none⟩,
  ⟨some 37, .nilCheck (.tmp 36), none⟩,
  ⟨some 38, .fieldAddr 66 (.tmp 37) 0, none⟩,
  ⟨some 39, .call { callee := .value (.func 27), args := #[.tmp 38], argTypes := #[64] }, none⟩,
  ⟨some 40, .binOp .gtr 3 (.tmp 39) (.const (.int .i64 65536)) 3, none⟩]
def f15_r13 : List LOp := [
  ⟨some 2, .assign (.const (.string { data := #[] })), none⟩,
  ⟨some 3, .assign (.const (.int .i64 3)), none⟩]
def f15_r14 : List LOp := [
  ⟨some 41, .move (.tmp 4), none⟩,
  ⟨some 42, .nilCheck (.tmp 41), none⟩,
  ⟨some 43, .fieldAddr 66 (.tmp 42) 0, none⟩,
  ⟨some 44, .call { callee := .value (.func 28), args := #[.tmp 43], argTypes := #[64] }, none⟩,
  ⟨some 2, .assign (.tmp 44), none⟩,
  ⟨some 3, .assign (.const (.int .i64 0)), none⟩]
def f15_c : LC := (.seq (.reg f15_r0 [] none) (.seq (.seq (.reg f15_r1 [] none) (.cond (.tmp 9) (.seq (.reg f15_r2 [] none) .ret) .skip)) (.seq (.reg f15_r3 [2] none) (.seq (.seq (.reg f15_r4 [] none) (.block 0 (.loop f15_l11))) (.seq (.seq (.reg f15_r12 [] none) (.cond (.tmp 40) (.seq (.reg f15_r13 [] none) .ret) .skip)) (.seq (.reg f15_r14 [] none) .ret))))))
theorem f15_lc : Try.f15.body.map lc = some f15_c.st := by kernel_rfl
theorem f15_res : Try.f15.results.toList = [.tmp 2, .tmp 3] := by kernel_rfl
theorem f15_nt : Try.f15.ntmps = 45 := by kernel_rfl
theorem f15_nm : (Try.f15.name == "runtime.NumGoroutine") = false := by kernel_rfl
/-! quill/cfx.May -/
def f16_r0 : List LOp := [
  ⟨some 2, .assign (.const (.bool false)), none⟩]
def f16_r1 : List LOp := [
  ⟨some 3, .move (.tmp 0), none⟩,
  ⟨some 4, .call { callee := .value (.func 29), args := #[.tmp 3, .func 30], argTypes := #[75, 26] }, none⟩,
  ⟨some 5, .unOp .not 4 (.tmp 4), none⟩,
  ⟨some 2, .assign (.tmp 5), none⟩]
def f16_c : LC := (.seq (.reg f16_r0 [] none) (.seq (.reg f16_r1 [] none) .ret))
theorem f16_lc : Try.f16.body.map lc = some f16_c.st := by kernel_rfl
theorem f16_res : Try.f16.results.toList = [.tmp 2] := by kernel_rfl
theorem f16_nt : Try.f16.ntmps = 6 := by kernel_rfl
theorem f16_nm : (Try.f16.name == "runtime.NumGoroutine") = false := by kernel_rfl
/-! quill/cfx.may -/
def f17_r0 : List LOp := [
  ⟨some 1, .box 25 (.tmp 0), none⟩,
  ⟨some 2, .assign (.const (.bool false)), none⟩]
def f17_r1 : List LOp := [
  ⟨some 8, .fieldAddr 25 (.tmp 1) 0, none⟩,
  ⟨some 9, .load 22 (.tmp 8), none⟩,
  ⟨some 10, .call { callee := .builtin .len, args := #[.tmp 9], argTypes := #[22] }, none⟩,
  ⟨some 11, .fieldAddr 25 (.tmp 1) 1, none⟩,
  ⟨some 12, .load 23 (.tmp 11), none⟩,
  ⟨some 13, .call { callee := .builtin .len, args := #[.tmp 12], argTypes := #[23] }, none⟩,
  ⟨some 3, .assign (.tmp 10), none⟩,
  ⟨some 4, .assign (.tmp 13), none⟩]
def f17_r2 : List LOp := [
  ⟨some 14, .move (.tmp 3), none⟩,
  ⟨some 15, .binOp .lss 3 (.tmp 14) (.const (.int .i64 1)) 3, none⟩,
  ⟨some 16, .move (.tmp 15), none⟩,
  ⟨some 17, .move (.tmp 3), some (2, false)⟩,
  ⟨some 18, .binOp .gtr 3 (.tmp 17) (.const (.int .i64 100)) 3, some (2, false)⟩,
  ⟨some 19, .pick (.tmp 16) (.const (.bool true)) (.tmp 18), none⟩,
  ⟨some 20, .move (.tmp 19), none⟩,
  ⟨some 21, .move (.tmp 4), some (6, false)⟩,
  ⟨some 22, .binOp .lss 3 (.tmp 21) (.const (.int .i64 1)) 3, some (6, false)⟩,
  ⟨some 23, .pick (.tmp 20) (.const (.bool true)) (.tmp 22), none⟩,
  ⟨some 24, .move (.tmp 23), none⟩,
  ⟨some 25, .move (.tmp 4), some (10, false)⟩,
  ⟨some 26, .binOp .gtr 3 (.tmp 25) (.const (.int .i64 50)) 3, some (10, false)⟩,
  ⟨some 27, .pick (.tmp 24) (.const (.bool true)) (.tmp 26), none⟩,
  ⟨some 28, .move (.tmp 27), none⟩,
  ⟨some 29, .fieldAddr 25 (.tmp 1) 0, some (14, false)⟩,
  ⟨some 30, .load 22 (.tmp 29), some (14, false)⟩,
  ⟨some 31, .fieldAddr 25 (.tmp 1) 1, some (14, false)⟩,
  ⟨some 32, .load 23 (.tmp 31), some (14, false)⟩,
  ⟨some 33, .call { callee := .value (.func 18), args := #[.tmp 32], argTypes := #[23] }, some (14, false)⟩,
  ⟨some 34, .buildSlice 97 2 #[(0, .tmp 30), (1, .tmp 33)], some (14, false)⟩,
  ⟨some 35, .call { callee := .value (.func 31), args := #[.tmp 34], argTypes := #[97] }, some (14, false)⟩,
  ⟨some 36, .call { callee := .value (.func 21), args := #[.tmp 35], argTypes := #[22] }, some (14, false)⟩,
  ⟨some 37, .unOp .not 4 (.tmp 36), some (14, false)⟩,
  ⟨some 38, .pick (.tmp 28) (.const (.bool true)) (.tmp 37), none⟩]
def f17_r3 : List LOp := [
  ⟨some 2, .assign (.const (.bool false)), none⟩]
def f17_r4 : List LOp := [
  ⟨some 5, .assign (.const (.int .i64 0)), none⟩]
def f17_r5 : List LOp := [
  ⟨some 39, .fieldAddr 25 (.tmp 1) 1, none⟩,
  ⟨some 40, .load 23 (.tmp 39), none⟩,
  ⟨some 41, .call { callee := .builtin .len, args := #[.tmp 40], argTypes := #[23] }, none⟩,
  ⟨some 42, .move (.const (.int .i64 0)), none⟩]
def f17_r6 : List LOp := [
  ⟨some 43, .binOp .lss 3 (.tmp 42) (.tmp 41) 3, none⟩]
def f17_r7 : List LOp := [
  ⟨some 44, .indexAddr 23 (.tmp 40) (.tmp 42), none⟩,
  ⟨some 45, .load 40 (.tmp 44), none⟩,
  ⟨some 7, .alloc 40, none⟩,
  ⟨none, .store 40 (.tmp 7) (.tmp 45), none⟩]
def f17_r8 : List LOp := [
  ⟨some 46, .load 25 (.tmp 1), none⟩,
  ⟨some 47, .fieldAddr 40 (.tmp 7) 1, none⟩,
  ⟨some 48, .load 30 (.tmp 47), none⟩,
  ⟨some 49, .call { callee := .value (.func 32), args := #[.tmp 46, .tmp 48], argTypes := #[25, 30] }, none⟩,
  ⟨some 50, .unOp .not 4 (.tmp 49), none⟩]
def f17_r9 : List LOp := [
  ⟨some 2, .assign (.const (.bool false)), none⟩]
def f17_r10 : List LOp := [
  ⟨some 51, .move (.tmp 5), none⟩,
  ⟨some 52, .fieldAddr 40 (.tmp 7) 1, none⟩,
  ⟨some 53, .load 30 (.tmp 52), none⟩,
  ⟨some 54, .buildSlice 28 1 #[(0, .tmp 53)], none⟩,
  ⟨some 55, .call { callee := .value (.func 11), args := #[.tmp 54], argTypes := #[28] }, none⟩,
  ⟨some 56, .binOp .add 3 (.tmp 51) (.tmp 55) 3, none⟩,
  ⟨some 5, .assign (.tmp 56), none⟩]
def f17_r11 : List LOp := [
  ⟨some 57, .binOp .add 3 (.tmp 42) (.const (.int .i64 1)) 3, none⟩,
  ⟨some 42, .move (.tmp 57), none⟩]
def f17_l12 : LC := (.seq (.reg f17_r6 [] none) (.seq (.cond (.tmp 43) .skip (.exit 0)) (.seq (.block 1 (.seq (.reg f17_r7 [] none) (.seq (.seq (.reg f17_r8 [] none) (.cond (.tmp 50) (.seq (.reg f17_r9 [] none) .ret) .skip)) (.reg f17_r10 [] none)))) (.reg f17_r11 [] none))))
def f17_i12 (t1 t5 t40 t41 t42 : D) : List D := [.any, t1, .any, .any, .any, t5, .any, .any, .any, .any, .any, .any, .any, .any, .any, .any, .any, .any, .any, .any, .any, .any, .any, .any, .any, .any, .any, .any, .any, .any, .any, .any, .any, .any, .any, .any, .any, .any, .any, .any, t40, t41, t42, .any, .any, .any, .any, .any, .any, .any, .any, .any, .any, .any, .any, .any, .any, .any, .any, .any]
def f17_r13 : List LOp := [
  ⟨some 58, .move (.tmp 5), none⟩,
  ⟨some 59, .binOp .leq 3 (.tmp 58) (.const (.int .i64 2000)) 3, none⟩,
  ⟨some 2, .assign (.tmp 59), none⟩]
def f17_c : LC := (.seq (.reg f17_r0 [] none) (.seq (.regp f17_r1 [] [] 7) (.seq (.seq (.reg f17_r2 [] (some 20)) (.cond (.tmp 38) (.seq (.reg f17_r3 [] none) .ret) .skip)) (.seq (.reg f17_r4 [] none) (.seq (.seq (.reg f17_r5 [] none) (.block 0 (.loop f17_l12))) (.seq (.reg f17_r13 [] none) .ret))))))
theorem f17_lc : Try.f17.body.map lc = some f17_c.st := by kernel_rfl
theorem f17_res : Try.f17.results.toList = [.tmp 2] := by kernel_rfl
theorem f17_nt : Try.f17.ntmps = 60 := by kernel_rfl
theorem f17_nm : (Try.f17.name == "runtime.NumGoroutine") = false := by kernel_rfl
/-! quill/cfx.names -/
def f18_r0 : List LOp := [
  ⟨some 2, .assign (.const (.slice none 0 0)), none⟩]
def f18_r1 : List LOp := [
  ⟨some 3, .assign (.const (.slice none 0 0)), none⟩]
def f18_r2 : List LOp := [
  ⟨some 6, .move (.tmp 0), none⟩,
  ⟨some 7, .call { callee := .builtin .len, args := #[.tmp 6], argTypes := #[23] }, none⟩,
  ⟨some 8, .move (.const (.int .i64 0)), none⟩]
def f18_r3 : List LOp := [
  ⟨some 9, .binOp .lss 3 (.tmp 8) (.tmp 7) 3, none⟩]
def f18_r4 : List LOp := [
  ⟨some 10, .indexAddr 23 (.tmp 6) (.tmp 8), none⟩,
  ⟨some 11, .load 40 (.tmp 10), none⟩,
  ⟨some 5, .alloc 40, none⟩,
  ⟨none, .store 40 (.tmp 5) (.tmp 11), none⟩]
def f18_r5 : List LOp := [
  ⟨some 12, .move (.tmp 3), none⟩,
  ⟨some 13, .fieldAddr 40 (.tmp 5) 0, none⟩,
  ⟨some 14, .load 9 (.tmp 13), none⟩,
  ⟨some 15, .buildSlice 22 1 #[(0, .tmp 14)], none⟩,
  ⟨some 16, .call { callee := .builtin .append, args := #[.tmp 12, .tmp 15], argTypes := #[22, 22] }, none⟩,
  ⟨some 3, .assign (.tmp 16), none⟩]
def f18_r6 : List LOp := [
  ⟨some 17, .binOp .add 3 (.tmp 8) (.const (.int .i64 1)) 3, none⟩,
  ⟨some 8, .move (.tmp 17), none⟩]
def f18_l7 : LC := (.seq (.reg f18_r3 [] none) (.seq (.cond (.tmp 9) .skip (.exit 0)) (.seq (.block 1 (.seq (.reg f18_r4 [] none) (.reg f18_r5 [] none))) (.reg f18_r6 [] none))))
def f18_i7 (t3 t6 t7 t8 : D) : List D := [.any, .any, .any, t3, .any, .any, t6, t7, t8, .any, .any, .any, .any, .any, .any, .any, .any, .any, .any]
def f18_r8 : List LOp := [
  ⟨some 18, .move (.tmp 3), none⟩,
  ⟨some 2, .assign (.tmp 18), none⟩]
def f18_c : LC := (.seq (.reg f18_r0 [] none) (.seq (.reg f18_r1 [] none) (.seq (.seq (.reg f18_r2 [] none) (.block 0 (.loop f18_l7))) (.seq (.reg f18_r8 [] none) .ret))))
theorem f18_lc : Try.f18.body.map lc = some f18_c.st := by kernel_rfl
theorem f18_res : Try.f18.results.toList = [.tmp 2] := by kernel_rfl
theorem f18_nt : Try.f18.ntmps = 19 := by kernel_rfl
theorem f18_nm : (Try.f18.name == "runtime.NumGoroutine") = false := by kernel_rfl
/-! (*quill/cfx.reader).whole -/
def f19_r0 : List LOp := [
  ⟨some 2, .alloc 30, none⟩,
  ⟨some 3, .alloc 3, none⟩,
  ⟨some 4, .alloc 31, none⟩]
def f19_r1 : List LOp := [
  ⟨some 5, .makeFunc (.func 33) #[] #[.tmp 2, .tmp 3, .tmp 4], none⟩,
  ⟨none, .defer { callee := .value (.tmp 5), args := #[], argTypes := #[] }, none⟩]
def f19_r2 : List LOp := [
  ⟨some 6, .move (.tmp 0), none⟩,
  ⟨some 7, .call { callee := .value (.func 34), args := #[.tmp 6], argTypes := #[47] }, none⟩,
  ⟨none, .store 30 (.tmp 2) (.tmp 7), none⟩]
def f19_r3 : List LOp := [
  ⟨some 8, .move (.tmp 0), none⟩,
  ⟨some 9, .call { callee := .value (.func 35), args := #[.tmp 8], argTypes := #[47] }, none⟩]
def f19_r4 : List LOp := [
  ⟨some 10, .move (.tmp 0), none⟩,
  ⟨some 11, .nilCheck (.tmp 10), none⟩,
  ⟨some 12, .fieldAddr 50 (.tmp 11) 1, none⟩,
  ⟨some 13, .load 3 (.tmp 12), none⟩,
  ⟨some 14, .move (.tmp 0), none⟩,
  ⟨some 15, .nilCheck (.tmp 14), none⟩,
  ⟨some 16, .fieldAddr 50 (.tmp 15) 0, none⟩,
  ⟨some 17, .load 9 (.tmp 16), none⟩,
  ⟨some 18, .call { callee := .builtin .len, args := #[.tmp 17], argTypes := #[9] }, none⟩,
  ⟨some 19, .binOp .lss 3 (.tmp 13) (.tmp 18) 3, none⟩]
def f19_r5 : List LOp := [
  ⟨some 20, .move (.tmp 0), none⟩,
  ⟨some 21, .move (.tmp 0), none⟩,
  ⟨some 22, .nilCheck (.tmp 21), none⟩,
  ⟨some 23, .fieldAddr 50 (.tmp 22) 1, none⟩,
  ⟨some 24, .load 3 (.tmp 23), none⟩,
  ⟨some 25, .call { callee := .value (.func 36), args := #[.tmp 20, .tmp 24, .const (.int .i64 2)], argTypes := #[47, 3, 31] }, none⟩]
def f19_r6 : List LOp := [
  ⟨some 26, .load 30 (.tmp 2), none⟩,
  ⟨none, .store 30 (.tmp 2) (.tmp 26), none⟩,
  ⟨none, .store 3 (.tmp 3) (.const (.int .i64 0)), none⟩,
  ⟨none, .store 31 (.tmp 4) (.const (.int .i64 0)), none⟩]
def f19_c : LC := (.seq (.reg f19_r0 [] none) (.seq (.reg f19_r1 [] none) (.seq (.reg f19_r2 [] none) (.seq (.reg f19_r3 [] none) (.seq (.seq (.reg f19_r4 [] (some 9)) (.cond (.tmp 19) (.reg f19_r5 [] none) .skip)) (.seq (.reg f19_r6 [] none) .ret))))))
theorem f19_lc : Try.f19.body.map lc = some f19_c.st := by kernel_rfl
theorem f19_res : Try.f19.results.toList = [.cell 2 30, .cell 3 3, .cell 4 31] := by kernel_rfl
theorem f19_nt : Try.f19.ntmps = 27 := by kernel_rfl
theorem f19_nm : (Try.f19.name == "runtime.NumGoroutine") = false := by kernel_rfl
/-! slices.EqualFunc[[]quill/api.Cf,[]quill/api.Cf,quill/api.Cf,quill/api.Cf] -/
/-! quill/cfx.once -/
def f21_r0 : List LOp := [
  ⟨some 2, .assign (.const (.bool false)), none⟩]
def f21_r1 : List LOp := [
  ⟨some 3, .move (.tmp 0), none⟩,
  ⟨some 4, .call { callee := .value (.func 38), args := #[.tmp 3], argTypes := #[22] }, none⟩,
  ⟨some 5, .call { callee := .value (.func 37), args := #[.tmp 4], argTypes := #[85] }, none⟩,
  ⟨some 0, .assign (.tmp 5), none⟩]
def f21_r2 : List LOp := [
  ⟨some 6, .move (.tmp 0), none⟩,
  ⟨some 7, .call { callee := .value (.func 39), args := #[.tmp 6], argTypes := #[22] }, none⟩,
  ⟨some 8, .move (.tmp 7), none⟩,
  ⟨some 9, .move (.tmp 0), some (2, true)⟩,
  ⟨some 10, .call { callee := .value (.func 23), args := #[.tmp 9], argTypes := #[22] }, some (2, true)⟩,
  ⟨some 11, .call { callee := .value (.func 40), args := #[.tmp 10], argTypes := #[22] }, some (2, true)⟩,
  ⟨some 12, .call { callee := .builtin .len, args := #[.tmp 11], argTypes := #[22] }, some (2, true)⟩,
  ⟨some 13, .move (.tmp 0), some (2, true)⟩,
  ⟨some 14, .call { callee := .builtin .len, args := #[.tmp 13], argTypes := #[22] }, some (2, true)⟩,
  ⟨some 15, .binOp .eql 3 (.tmp 12) (.tmp 14) 3, some (2, true)⟩,
  ⟨some 16, .pick (.tmp 8) (.tmp 15) (.const (.bool false)), none⟩,
  ⟨some 2, .assign (.tmp 16), none⟩]
def f21_c : LC := (.seq (.reg f21_r0 [] none) (.seq (.reg f21_r1 [] none) (.seq (.reg f21_r2 [] none) .ret)))
theorem f21_lc : Try.f21.body.map lc = some f21_c.st := by kernel_rfl
theorem f21_res : Try.f21.results.toList = [.tmp 2] := by kernel_rfl
theorem f21_nt : Try.f21.ntmps = 17 := by kernel_rfl
theorem f21_nm : (Try.f21.name == "runtime.NumGoroutine") = false := by kernel_rfl
/-! quill/cfx.lines -/
def f22_r0 : List LOp := [
  ⟨some 2, .box 9 (.tmp 0), none⟩,
  ⟨some 4, .alloc 54, none⟩,
  ⟨some 5, .alloc 3, none⟩,
  ⟨some 6, .alloc 31, none⟩]
def f22_r1 : List LOp := [
  ⟨some 7, .alloc 54, none⟩]
def f22_r2 : List LOp := [
  ⟨some 16, .move (.tmp 1), none⟩,
  ⟨some 17, .call { callee := .value (.func 23), args := #[.tmp 16], argTypes := #[22] }, none⟩,
  ⟨some 8, .alloc 22, none⟩,
  ⟨none, .store 22 (.tmp 8) (.tmp 17), none⟩]
def f22_r3 : List LOp := [
  ⟨some 9, .alloc 3, none⟩,
  ⟨none, .store 3 (.tmp 9) (.const (.int .i64 0)), none⟩]
def f22_r4 : List LOp := [
  ⟨some 18, .load 9 (.tmp 2), none⟩,
  ⟨some 19, .call { callee := .value (.func 41), args := #[.tmp 18], argTypes := #[9] }, none⟩]
def f22_r5 : List LOp := [
  ⟨some 10, .assign (.tmp 20), none⟩]
def f22_r6 : List LOp := [
  ⟨some 22, .move (.tmp 10), none⟩,
  ⟨some 23, .call { callee := .value (.func 42), args := #[.tmp 22, .const (.string { data := #[10] })], argTypes := #[9, 9] }, none⟩,
  ⟨some 21, .move (.tmp 23), none⟩,
  ⟨some 24, .extract (.tmp 21) 0, none⟩,
  ⟨some 25, .extract (.tmp 21) 1, none⟩,
  ⟨some 11, .assign (.tmp 24), none⟩,
  ⟨some 12, .assign (.tmp 25), none⟩]
def f22_r7 : List LOp := [
  ⟨some 27, .move (.tmp 11), none⟩,
  ⟨some 28, .call { callee := .value (.func 43), args := #[.tmp 27, .const (.string { data := #[32, 61, 32] })], argTypes := #[9, 9] }, none⟩,
  ⟨some 26, .move (.tmp 28), none⟩,
  ⟨some 29, .extract (.tmp 26) 0, none⟩,
  ⟨some 30, .extract (.tmp 26) 1, none⟩,
  ⟨some 31, .extract (.tmp 26) 2, none⟩,
  ⟨some 13, .assign (.tmp 29), none⟩,
  ⟨some 14, .assign (.tmp 30), none⟩,
  ⟨some 15, .assign (.tmp 31), none⟩]
def f22_r8 : List LOp := [
  ⟨some 33, .move (.tmp 12), none⟩,
  ⟨some 34, .unOp .not 4 (.tmp 33), none⟩,
  ⟨some 32, .assign (.tmp 34), none⟩]
def f22_r9 : List LOp := [
  ⟨some 35, .load 9 (.tmp 2), none⟩,
  ⟨some 36, .call { callee := .builtin .len, args := #[.tmp 35], argTypes := #[9] }, none⟩,
  ⟨none, .store 54 (.tmp 4) (.const (.slice none 0 0)), none⟩,
  ⟨none, .store 3 (.tmp 5) (.tmp 36), none⟩,
  ⟨none, .store 31 (.tmp 6) (.const (.int .i64 2)), none⟩]
def f22_r10 : List LOp := [
  ⟨some 38, .load 54 (.tmp 7), none⟩,
  ⟨some 39, .call { callee := .builtin .len, args := #[.tmp 38], argTypes := #[54] }, none⟩,
  ⟨some 40, .binOp .geq 3 (.tmp 39) (.const (.int .i64 50)) 3, none⟩,
  ⟨some 37, .assign (.tmp 40), none⟩]
def f22_r11 : List LOp := [
  ⟨some 41, .load 3 (.tmp 9), none⟩,
  ⟨none, .store 54 (.tmp 4) (.const (.slice none 0 0)), none⟩,
  ⟨none, .store 3 (.tmp 5) (.tmp 41), none⟩,
  ⟨none, .store 31 (.tmp 6) (.const (.int .i64 4)), none⟩]
def f22_r12 : List LOp := [
  ⟨some 43, .move (.tmp 15), none⟩,
  ⟨some 44, .unOp .not 4 (.tmp 43), none⟩,
  ⟨some 45, .move (.tmp 44), none⟩,
  ⟨some 46, .move (.tmp 13), some (2, false)⟩,
  ⟨some 47, .buildSlice 22 1 #[(0, .tmp 46)], some (2, false)⟩,
  ⟨some 48, .call { callee := .value (.func 39), args := #[.tmp 47], argTypes := #[22] }, some (2, false)⟩,
  ⟨some 49, .unOp .not 4 (.tmp 48), some (2, false)⟩,
  ⟨some 50, .pick (.tmp 45) (.const (.bool true)) (.tmp 49), none⟩,
  ⟨some 51, .move (.tmp 50), none⟩,
  ⟨some 52, .load 22 (.tmp 8), some (8, false)⟩,
  ⟨some 53, .move (.tmp 13), some (8, false)⟩,
  ⟨some 54, .call { callee := .value (.func 44), args := #[.tmp 52, .tmp 53], argTypes := #[22, 9] }, some (8, false)⟩,
  ⟨some 55, .pick (.tmp 51) (.const (.bool true)) (.tmp 54), none⟩,
  ⟨some 42, .assign (.tmp 55), none⟩]
def f22_r13 : List LOp := [
  ⟨some 56, .load 3 (.tmp 9), none⟩,
  ⟨none, .store 54 (.tmp 4) (.const (.slice none 0 0)), none⟩,
  ⟨none, .store 3 (.tmp 5) (.tmp 56), none⟩,
  ⟨none, .store 31 (.tmp 6) (.const (.int .i64 2)), none⟩]
def f22_r14 : List LOp := [
  ⟨some 57, .load 22 (.tmp 8), none⟩,
  ⟨some 58, .move (.tmp 13), none⟩,
  ⟨some 59, .buildSlice 22 1 #[(0, .tmp 58)], none⟩,
  ⟨some 60, .call { callee := .builtin .append, args := #[.tmp 57, .tmp 59], argTypes := #[22, 22] }, none⟩,
  ⟨none, .store 22 (.tmp 8) (.tmp 60), none⟩]
def f22_r15 : List LOp := [
  ⟨some 61, .load 54 (.tmp 7), none⟩,
  ⟨some 62, .load 3 (.tmp 9), none⟩,
  ⟨some 63, .move (.tmp 13), none⟩,
  ⟨some 64, .move (.tmp 14), none⟩,
  ⟨some 65, .build 59 #[(0, .tmp 62), (1, .tmp 63), (2, .tmp 64)], none⟩,
  ⟨some 66, .buildSlice 54 1 #[(0, .tmp 65)], none⟩,
  ⟨some 67, .call { callee := .builtin .append, args := #[.tmp 61, .tmp 66], argTypes := #[54, 54] }, none⟩,
  ⟨none, .store 54 (.tmp 7) (.tmp 67), none⟩]
def f22_r16 : List LOp := [
  ⟨some 68, .load 3 (.tmp 9), none⟩,
  ⟨some 69, .move (.tmp 10), none⟩,
  ⟨some 70, .call { callee := .builtin .len, args := #[.tmp 69], argTypes := #[9] }, none⟩,
  ⟨some 71, .binOp .add 3 (.tmp 68) (.tmp 70) 3, none⟩,
  ⟨none, .store 3 (.tmp 9) (.tmp 71), none⟩]
def f22_a17 : LC := (.reg f22_r5 [] none)
def f22_b17 : LC := (.block 1 (.seq (.reg f22_r6 [] none) (.seq (.reg f22_r7 [] none) (.seq (.block 2 (.seq (.reg f22_r8 [] none) (.cond (.tmp 32) (.seq (.regt f22_r9 [] 0 (.both (.op 0 (.both (.op 1 (.op 2 (.op 3 (.op 4 .done)))) (.op 2 (.op 1 (.op 3 (.op 4 .done)))))) (.op 2 (.op 0 (.op 1 (.op 3 (.op 4 .done))))))) .ret) (.seq (.reg f22_r10 [] none) (.cond (.tmp 37) (.seq (.regt f22_r11 [] 0 (.both (.op 0 (.op 1 (.op 2 (.op 3 .done)))) (.op 1 (.op 0 (.op 2 (.op 3 .done)))))) .ret) (.seq (.reg f22_r12 [] none) (.cond (.tmp 42) (.seq (.regt f22_r13 [] 0 (.both (.op 0 (.op 1 (.op 2 (.op 3 .done)))) (.op 1 (.op 0 (.op 2 (.op 3 .done)))))) .ret) .skip))))))) (.seq (.reg f22_r14 [] none) (.seq (.reg f22_r15 [] none) (.reg f22_r16 [] none)))))))
def f22_r18 : List LOp := [
  ⟨some 72, .load 54 (.tmp 7), none⟩,
  ⟨some 73, .call { callee := .builtin .len, args := #[.tmp 72], argTypes := #[54] }, none⟩,
  ⟨some 74, .binOp .eql 3 (.tmp 73) (.const (.int .i64 0)) 3, none⟩]
def f22_r19 : List LOp := [
  ⟨none, .store 54 (.tmp 4) (.const (.slice none 0 0)), none⟩,
  ⟨none, .store 3 (.tmp 5) (.const (.int .i64 0)), none⟩,
  ⟨none, .store 31 (.tmp 6) (.const (.int .i64 2)), none⟩]
def f22_r20 : List LOp := [
  ⟨some 75, .load 54 (.tmp 7), none⟩,
  ⟨none, .store 54 (.tmp 4) (.tmp 75), none⟩,
  ⟨none, .store 3 (.tmp 5) (.const (.int .i64 0)), none⟩,
  ⟨none, .store 31 (.tmp 6) (.const (.int .i64 0)), none⟩]
def f22_c : LC := (.seq (.reg f22_r0 [] none) (.seq (.reg f22_r1 [] none) (.seq (.reg f22_r2 [] none) (.seq (.reg f22_r3 [] none) (.seq (.seq (.reg f22_r4 [] none) (.block 0 (.rfun (.tmp 19) [20] f22_a17 f22_b17))) (.seq (.seq (.reg f22_r18 [] none) (.cond (.tmp 74) (.seq (.reg f22_r19 [] none) .ret) .skip)) (.seq (.reg f22_r20 [] none) .ret)))))))
theorem f22_lc : Try.f22.body.map lc = some f22_c.st := by kernel_rfl
theorem f22_res : Try.f22.results.toList = [.cell 4 54, .cell 5 3, .cell 6 31] := by kernel_rfl
theorem f22_nt : Try.f22.ntmps = 76 := by kernel_rfl
theorem f22_nm : (Try.f22.name == "runtime.NumGoroutine") = false := by kernel_rfl
/-! slices.Clone[[]string,string] -/
def f23_r0 : List LOp := [
  ⟨some 2, .assign (.const (.slice none 0 0)), none⟩]
def f23_r1 : List LOp := [
  ⟨some 3, .move (.tmp 0), none⟩,
  ⟨some 4, .binOp .eql 22 (.tmp 3) (.const (.slice none 0 0)) 22, none⟩]
def f23_r2 : List LOp := [
  ⟨some 2, .assign (.const (.slice none 0 0)), none⟩]
def f23_r3 : List LOp := [
  ⟨some 5, .buildSlice 22 0 #[], none⟩,
  ⟨some 6, .move (.tmp 0), none⟩,
  ⟨some 7, .call { callee := .builtin .append, args := #[.tmp 5, .tmp 6], argTypes := #[22, 22] }, none⟩,
  ⟨some 2, .assign (.tmp 7), none⟩]
def f23_c : LC := (.seq (.reg f23_r0 [] none) (.seq (.seq (.reg f23_r1 [] none) (.cond (.tmp 4) (.seq (.reg f23_r2 [] none) .ret) .skip)) (.seq (.reg f23_r3 [0] none) .ret)))
theorem f23_lc : Try.f23.body.map lc = some f23_c.st := by kernel_rfl
theorem f23_res : Try.f23.results.toList = [.tmp 2] := by kernel_rfl
theorem f23_nt : Try.f23.ntmps = 8 := by kernel_rfl
theorem f23_nm : (Try.f23.name == "runtime.NumGoroutine") = false := by kernel_rfl
/-! (*strings.Builder).WriteString -/
def f24_r0 : List LOp := [
  ⟨some 4, .assign (.const (.int .i64 0)), none⟩,
  ⟨some 5, .assign (.const .nilIface), none⟩]
def f24_r1 : List LOp := [
  ⟨some 6, .move (.tmp 0), none⟩,
  ⟨some 7, .call { callee := .value (.func 45), args := #[.tmp 6], argTypes := #[61] }, none⟩]
def f24_r2 : List LOp := [
  ⟨some 8, .move (.tmp 0), none⟩,
  ⟨some 9, .move (.tmp 0), none⟩,
  ⟨some 10, .nilCheck (.tmp 9), none⟩,
  ⟨some 11, .fieldAddr 64 (.tmp 10) 1, none⟩,
  ⟨some 12, .load 62 (.tmp 11), none⟩,
  ⟨some 13, .move (.tmp 1), none⟩,
  ⟨some 14, .call { callee := .builtin .append, args := #[.tmp 12, .tmp 13], argTypes := #[62, 9] }, none⟩,
  ⟨some 15, .nilCheck (.tmp 8), none⟩,
  ⟨some 16, .fieldAddr 64 (.tmp 15) 1, none⟩,
  ⟨none, .store 62 (.tmp 16) (.tmp 14), none⟩]
def f24_r3 : List LOp := [
  ⟨some 17, .move (.tmp 1), none⟩,
  ⟨some 18, .call { callee := .builtin .len, args := #[.tmp 17], argTypes := #[9] }, none⟩,
  ⟨some 4, .assign (.tmp 18), none⟩,
  ⟨some 5, .assign (.const .nilIface), none⟩]
def f24_c : LC := (.seq (.reg f24_r0 [] none) (.seq (.reg f24_r1 [] none) (.seq (.reg f24_r2 [] none) (.seq (.reg f24_r3 [] none) .ret))))
theorem f24_lc : Try.f24.body.map lc = some f24_c.st := by kernel_rfl
theorem f24_res : Try.f24.results.toList = [.tmp 4, .tmp 5] := by kernel_rfl
theorem f24_nt : Try.f24.ntmps = 19 := by kernel_rfl
theorem f24_nm : (Try.f24.name == "runtime.NumGoroutine") = false := by kernel_rfl
/-! (*quill/cfx.page).put -/
def f25_r0 : List LOp := [
  ⟨some 4, .box 30 (.tmp 1), none⟩]
def f25_r1 : List LOp := [
  ⟨some 7, .move (.tmp 2), none⟩,
  ⟨some 8, .fieldAddr 30 (.tmp 4) 0, none⟩,
  ⟨some 9, .load 5 (.tmp 8), none⟩,
  ⟨some 10, .call { callee := .value (.func 46), args := #[.tmp 7, .tmp 9], argTypes := #[62, 5] }, none⟩,
  ⟨some 6, .assign (.tmp 10), none⟩]
def f25_r2 : List LOp := [
  ⟨some 11, .move (.tmp 6), none⟩]
def f25_r3 : List LOp := [
  ⟨some 12, .move (.tmp 0), none⟩,
  ⟨some 13, .nilCheck (.tmp 12), none⟩,
  ⟨some 14, .fieldAddr 66 (.tmp 13) 0, none⟩,
  ⟨some 15, .call { callee := .value (.func 26), args := #[.tmp 14, .const (.int .u8 40)], argTypes := #[64, 5] }, none⟩]
def f25_r4 : List LOp := [
  ⟨some 16, .fieldAddr 30 (.tmp 4) 0, none⟩,
  ⟨some 17, .load 5 (.tmp 16), none⟩]
def f25_r5 : List LOp := [
  ⟨some 19, .binOp .eql 5 (.tmp 17) (.const (.int .u8 1)) 5, none⟩,
  ⟨some 18, .assign (.tmp 19), none⟩]
def f25_r6 : List LOp := [
  ⟨some 20, .move (.tmp 0), none⟩,
  ⟨some 21, .nilCheck (.tmp 20), none⟩,
  ⟨some 22, .fieldAddr 66 (.tmp 21) 0, none⟩,
  ⟨some 23, .call { callee := .value (.func 24), args := #[.tmp 22, .const (.string { data := #[91, 93] })], argTypes := #[64, 9] }, none⟩]
def f25_r7 : List LOp := [
  ⟨some 25, .binOp .eql 5 (.tmp 17) (.const (.int .u8 2)) 5, none⟩,
  ⟨some 24, .assign (.tmp 25), none⟩]
def f25_r8 : List LOp := [
  ⟨some 26, .move (.tmp 0), none⟩,
  ⟨some 27, .nilCheck (.tmp 26), none⟩,
  ⟨some 28, .fieldAddr 66 (.tmp 27) 0, none⟩,
  ⟨some 29, .call { callee := .value (.func 24), args := #[.tmp 28, .const (.string { data := #[40, 41] })], argTypes := #[64, 9] }, none⟩]
def f25_r9 : List LOp := [
  ⟨some 31, .binOp .eql 5 (.tmp 17) (.const (.int .u8 3)) 5, none⟩,
  ⟨some 30, .assign (.tmp 31), none⟩]
def f25_r10 : List LOp := [
  ⟨some 32, .move (.tmp 0), none⟩,
  ⟨some 33, .nilCheck (.tmp 32), none⟩,
  ⟨some 34, .fieldAddr 66 (.tmp 33) 0, none⟩,
  ⟨some 35, .move (.tmp 0), none⟩,
  ⟨some 36, .nilCheck (.tmp 35), none⟩,
  ⟨some 37, .fieldAddr 66 (.tmp 36) 1, none⟩,
  ⟨some 38, .fieldAddr 25 (.tmp 37) 0, none⟩,
  ⟨some 39, .load 22 (.tmp 38), none⟩,
  ⟨some 40, .fieldAddr 30 (.tmp 4) 1, none⟩,
  ⟨some 41, .load 3 (.tmp 40), none⟩,
  ⟨some 42, .indexAddr 22 (.tmp 39) (.tmp 41), none⟩,
  ⟨some 43, .load 9 (.tmp 42), none⟩,
  ⟨some 44, .call { callee := .value (.func 24), args := #[.tmp 34, .tmp 43], argTypes := #[64, 9] }, none⟩]
def f25_r11 : List LOp := [
  ⟨some 46, .binOp .eql 5 (.tmp 17) (.const (.int .u8 6)) 5, none⟩,
  ⟨some 45, .assign (.tmp 46), none⟩]
def f25_r12 : List LOp := [
  ⟨some 47, .move (.tmp 0), none⟩,
  ⟨some 48, .nilCheck (.tmp 47), none⟩,
  ⟨some 49, .fieldAddr 66 (.tmp 48) 0, none⟩,
  ⟨some 50, .move (.tmp 0), none⟩,
  ⟨some 51, .nilCheck (.tmp 50), none⟩,
  ⟨some 52, .fieldAddr 66 (.tmp 51) 1, none⟩,
  ⟨some 53, .fieldAddr 25 (.tmp 52) 1, none⟩,
  ⟨some 54, .load 23 (.tmp 53), none⟩,
  ⟨some 55, .fieldAddr 30 (.tmp 4) 1, none⟩,
  ⟨some 56, .load 3 (.tmp 55), none⟩,
  ⟨some 57, .indexAddr 23 (.tmp 54) (.tmp 56), none⟩,
  ⟨some 58, .fieldAddr 40 (.tmp 57) 0, none⟩,
  ⟨some 59, .load 9 (.tmp 58), none⟩,
  ⟨some 60, .call { callee := .value (.func 24), args := #[.tmp 49, .tmp 59], argTypes := #[64, 9] }, none⟩]
def f25_r13 : List LOp := [
  ⟨some 62, .binOp .eql 5 (.tmp 17) (.const (.int .u8 4)) 5, none⟩,
  ⟨some 61, .assign (.tmp 62), none⟩]
def f25_r14 : List LOp := [
  ⟨some 63, .move (.tmp 0), none⟩,
  ⟨some 64, .fieldAddr 30 (.tmp 4) 2, none⟩,
  ⟨some 65, .load 28 (.tmp 64), none⟩,
  ⟨some 66, .indexAddr 28 (.tmp 65) (.const (.int .i64 0)), none⟩,
  ⟨some 67, .load 30 (.tmp 66), none⟩,
  ⟨some 68, .buildSlice 62 2 #[(0, .const (.int .u8 4)), (1, .const (.int .u8 5))], none⟩,
  ⟨some 69, .call { callee := .value (.func 25), args := #[.tmp 63, .tmp 67, .tmp 68], argTypes := #[60, 30, 62] }, none⟩]
def f25_r15 : List LOp := [
  ⟨some 70, .move (.tmp 0), none⟩,
  ⟨some 71, .nilCheck (.tmp 70), none⟩,
  ⟨some 72, .fieldAddr 66 (.tmp 71) 0, none⟩,
  ⟨some 73, .call { callee := .value (.func 26), args := #[.tmp 72, .const (.int .u8 32)], argTypes := #[64, 5] }, none⟩]
def f25_r16 : List LOp := [
  ⟨some 74, .move (.tmp 0), none⟩,
  ⟨some 75, .fieldAddr 30 (.tmp 4) 2, none⟩,
  ⟨some 76, .load 28 (.tmp 75), none⟩,
  ⟨some 77, .indexAddr 28 (.tmp 76) (.const (.int .i64 1)), none⟩,
  ⟨some 78, .load 30 (.tmp 77), none⟩,
  ⟨some 79, .buildSlice 62 1 #[(0, .const (.int .u8 5))], none⟩,
  ⟨some 80, .call { callee := .value (.func 25), args := #[.tmp 74, .tmp 78, .tmp 79], argTypes := #[60, 30, 62] }, none⟩]
def f25_r17 : List LOp := [
  ⟨some 82, .binOp .eql 5 (.tmp 17) (.const (.int .u8 5)) 5, none⟩,
  ⟨some 81, .assign (.tmp 82), none⟩]
def f25_r18 : List LOp := [
  ⟨some 83, .move (.tmp 0), none⟩,
  ⟨some 84, .fieldAddr 30 (.tmp 4) 2, none⟩,
  ⟨some 85, .load 28 (.tmp 84), none⟩,
  ⟨some 86, .indexAddr 28 (.tmp 85) (.const (.int .i64 0)), none⟩,
  ⟨some 87, .load 30 (.tmp 86), none⟩,
  ⟨some 88, .buildSlice 62 1 #[(0, .const (.int .u8 5))], none⟩,
  ⟨some 89, .call { callee := .value (.func 25), args := #[.tmp 83, .tmp 87, .tmp 88], argTypes := #[60, 30, 62] }, none⟩]
def f25_r19 : List LOp := [
  ⟨some 90, .move (.tmp 0), none⟩,
  ⟨some 91, .nilCheck (.tmp 90), none⟩,
  ⟨some 92, .fieldAddr 66 (.tmp 91) 0, none⟩,
  ⟨some 93, .call { callee := .value (.func 24), args := #[.tmp 92, .const (.string { data := #[32, 124, 32] })], argTypes := #[64, 9] }, none⟩]
def f25_r20 : List LOp := [
  ⟨some 94, .move (.tmp 0), none⟩,
  ⟨some 95, .fieldAddr 30 (.tmp 4) 2, none⟩,
  ⟨some 96, .load 28 (.tmp 95), none⟩,
  ⟨some 97, .indexAddr 28 (.tmp 96) (.const (.int .i64 1)), none⟩,
  ⟨some 98, .load 30 (.tmp 97), none⟩,
  ⟨some 99, .call { callee := .value (.func 25), args := #[.tmp 94, .tmp 98, .const (.slice none 0 0)], argTypes := #[60, 30, 62] }, none⟩]
def f25_r21 : List LOp := [
  ⟨some 100, .move (.tmp 6), none⟩]
def f25_r22 : List LOp := [
  ⟨some 101, .move (.tmp 0), none⟩,
  ⟨some 102, .nilCheck (.tmp 101), none⟩,
  ⟨some 103, .fieldAddr 66 (.tmp 102) 0, none⟩,
  ⟨some 104, .call { callee := .value (.func 26), args := #[.tmp 103, .const (.int .u8 41)], argTypes := #[64, 5] }, none⟩]
def f25_c : LC := (.seq (.reg f25_r0 [] none) (.seq (.reg f25_r1 [] none) (.seq (.seq (.reg f25_r2 [] none) (.cond (.tmp 11) (.reg f25_r3 [] none) .skip)) (.seq (.seq (.reg f25_r4 [] none) (.block 0 (.seq (.reg f25_r5 [] none) (.cond (.tmp 18) (.reg f25_r6 [] none) (.seq (.reg f25_r7 [] none) (.cond (.tmp 24) (.reg f25_r8 [] none) (.seq (.reg f25_r9 [] none) (.cond (.tmp 30) (.reg f25_r10 [] (some 12)) (.seq (.reg f25_r11 [] none) (.cond (.tmp 45) (.reg f25_r12 [] (some 13)) (.seq (.reg f25_r13 [] none) (.cond (.tmp 61) (.seq (.reg f25_r14 [] none) (.seq (.reg f25_r15 [] none) (.reg f25_r16 [] none))) (.seq (.reg f25_r17 [] none) (.cond (.tmp 81) (.seq (.reg f25_r18 [] none) (.seq (.reg f25_r19 [] none) (.reg f25_r20 [] none))) .skip)))))))))))))) (.seq (.reg f25_r21 [] none) (.cond (.tmp 100) (.reg f25_r22 [] none) .skip))))))
theorem f25_lc : Try.f25.body.map lc = some f25_c.st := by kernel_rfl
theorem f25_res : Try.f25.results.toList = [] := by kernel_rfl
theorem f25_nt : Try.f25.ntmps = 105 := by kernel_rfl
theorem f25_nm : (Try.f25.name == "runtime.NumGoroutine") = false := by kernel_rfl
/-! (*strings.Builder).WriteByte -/
def f26_r0 : List LOp := [
  ⟨some 4, .assign (.const .nilIface), none⟩]
def f26_r1 : List LOp := [
  ⟨some 5, .move (.tmp 0), none⟩,
  ⟨some 6, .call { callee := .value (.func 45), args := #[.tmp 5], argTypes := #[61] }, none⟩]
def f26_r2 : List LOp := [
  ⟨some 7, .move (.tmp 0), none⟩,
  ⟨some 8, .move (.tmp 0), none⟩,
  ⟨some 9, .nilCheck (.tmp 8), none⟩,
  ⟨some 10, .fieldAddr 64 (.tmp 9) 1, none⟩,
  ⟨some 11, .load 62 (.tmp 10), none⟩,
  ⟨some 12, .move (.tmp 1), none⟩,
  ⟨some 13, .buildSlice 62 1 #[(0, .tmp 12)], none⟩,
  ⟨some 14, .call { callee := .builtin .append, args := #[.tmp 11, .tmp 13], argTypes := #[62, 62] }, none⟩,
  ⟨some 15, .nilCheck (.tmp 7), none⟩,
  ⟨some 16, .fieldAddr 64 (.tmp 15) 1, none⟩,
  ⟨none, .store 62 (.tmp 16) (.tmp 14), none⟩]
def f26_r3 : List LOp := [
  ⟨some 4, .assign (.const .nilIface), none⟩]
def f26_c : LC := (.seq (.reg f26_r0 [] none) (.seq (.reg f26_r1 [] none) (.seq (.reg f26_r2 [] none) (.seq (.reg f26_r3 [] none) .ret))))
theorem f26_lc : Try.f26.body.map lc = some f26_c.st := by kernel_rfl
theorem f26_res : Try.f26.results.toList = [.tmp 4] := by kernel_rfl
theorem f26_nt : Try.f26.ntmps = 17 := by kernel_rfl
theorem f26_nm : (Try.f26.name == "runtime.NumGoroutine") = false := by kernel_rfl
/-! (*strings.Builder).Len -/
def f27_r0 : List LOp := [
  ⟨some 2, .assign (.const (.int .i64 0)), none⟩]
def f27_r1 : List LOp := [
  ⟨some 3, .move (.tmp 0), none⟩,
  ⟨some 4, .nilCheck (.tmp 3), none⟩,
  ⟨some 5, .fieldAddr 64 (.tmp 4) 1, none⟩,
  ⟨some 6, .load 62 (.tmp 5), none⟩,
  ⟨some 7, .call { callee := .builtin .len, args := #[.tmp 6], argTypes := #[62] }, none⟩,
  ⟨some 2, .assign (.tmp 7), none⟩]
def f27_c : LC := (.seq (.reg f27_r0 [] none) (.seq (.reg f27_r1 [] none) .ret))
theorem f27_lc : Try.f27.body.map lc = some f27_c.st := by kernel_rfl
theorem f27_res : Try.f27.results.toList = [.tmp 2] := by kernel_rfl
theorem f27_nt : Try.f27.ntmps = 8 := by kernel_rfl
theorem f27_nm : (Try.f27.name == "runtime.NumGoroutine") = false := by kernel_rfl
/-! (*strings.Builder).String -/
/-! slices.ContainsFunc[[]quill/api.Grammar,quill/api.Grammar] -/
def f29_r0 : List LOp := [
  ⟨some 4, .assign (.const (.bool false)), none⟩]
def f29_r1 : List LOp := [
  ⟨some 5, .move (.tmp 0), none⟩,
  ⟨some 6, .move (.tmp 1), none⟩,
  ⟨some 7, .call { callee := .value (.func 47), args := #[.tmp 5, .tmp 6], argTypes := #[75, 26] }, none⟩,
  ⟨some 8, .binOp .geq 3 (.tmp 7) (.const (.int .i64 0)) 3, none⟩,
  ⟨some 4, .assign (.tmp 8), none⟩]
def f29_c : LC := (.seq (.reg f29_r0 [] none) (.seq (.reg f29_r1 [] none) .ret))
theorem f29_lc : Try.f29.body.map lc = some f29_c.st := by kernel_rfl
theorem f29_res : Try.f29.results.toList = [.tmp 4] := by kernel_rfl
theorem f29_nt : Try.f29.ntmps = 9 := by kernel_rfl
theorem f29_nm : (Try.f29.name == "runtime.NumGoroutine") = false := by kernel_rfl
/-! quill/cfx.May$1 -/
def f30_r0 : List LOp := [
  ⟨some 1, .box 25 (.tmp 0), none⟩,
  ⟨some 2, .assign (.const (.bool false)), none⟩]
def f30_r1 : List LOp := [
  ⟨some 3, .load 25 (.tmp 1), none⟩,
  ⟨some 4, .call { callee := .value (.func 17), args := #[.tmp 3], argTypes := #[25] }, none⟩,
  ⟨some 5, .unOp .not 4 (.tmp 4), none⟩,
  ⟨some 2, .assign (.tmp 5), none⟩]
def f30_c : LC := (.seq (.reg f30_r0 [] none) (.seq (.reg f30_r1 [] none) .ret))
theorem f30_lc : Try.f30.body.map lc = some f30_c.st := by kernel_rfl
theorem f30_res : Try.f30.results.toList = [.tmp 2] := by kernel_rfl
theorem f30_nt : Try.f30.ntmps = 6 := by kernel_rfl
theorem f30_nm : (Try.f30.name == "runtime.NumGoroutine") = false := by kernel_rfl
/-! slices.Concat[[]string,string] -/
def f31_r0 : List LOp := [
  ⟨some 2, .assign (.const (.slice none 0 0)), none⟩]
def f31_r1 : List LOp := [
  ⟨some 3, .assign (.const (.int .i64 0)), none⟩]
def f31_r2 : List LOp := [
  ⟨some 9, .move (.tmp 0), none⟩,
  ⟨some 10, .call { callee := .builtin .len, args := #[.tmp 9], argTypes := #[97] }, none⟩,
  ⟨some 11, .move (.const (.int .i64 0)), none⟩]
def f31_r3 : List LOp := [
  ⟨some 12, .binOp .lss 3 (.tmp 11) (.tmp 10) 3, none⟩]
def f31_r4 : List LOp := [
  ⟨some 13, .indexAddr 97 (.tmp 9) (.tmp 11), none⟩,
  ⟨some 14, .load 22 (.tmp 13), none⟩,
  ⟨some 5, .assign (.tmp 14), none⟩]
def f31_r5 : List LOp := [
  ⟨some 15, .move (.tmp 3), none⟩,
  ⟨some 16, .move (.tmp 5), none⟩,
  ⟨some 17, .call { callee := .builtin .len, args := #[.tmp 16], argTypes := #[22] }, none⟩,
  ⟨some 18, .binOp .add 3 (.tmp 15) (.tmp 17) 3, none⟩,
  ⟨some 3, .assign (.tmp 18), none⟩]
def f31_r6 : List LOp := [
  ⟨some 19, .move (.tmp 3), none⟩,
  ⟨some 20, .binOp .lss 3 (.tmp 19) (.const (.int .i64 0)) 3, none⟩]
def f31_r7 : List LOp := [
  ⟨some 21, .makeInterface 9 (.const (.string { data := #[108, 101, 110, 32, 111, 117, 116, 32, 111, 102, 32, 114, 97, 110, 103, 101] })), none⟩,
  ⟨none, .panic (.tmp 21), none⟩]
def f31_r8 : List LOp := [
  ⟨some 22, .binOp .add 3 (.tmp 11) (.const (.int .i64 1)) 3, none⟩,
  ⟨some 11, .move (.tmp 22), none⟩]
def f31_l9 : LC := (.seq (.reg f31_r3 [] none) (.seq (.cond (.tmp 12) .skip (.exit 0)) (.seq (.block 1 (.seq (.reg f31_r4 [] none) (.seq (.reg f31_r5 [] none) (.seq (.reg f31_r6 [] none) (.cond (.tmp 20) (.reg f31_r7 [] none) .skip))))) (.reg f31_r8 [] none))))
def f31_i9 (t0 t3 t9 t10 t11 : D) : List D := [t0, .any, .any, t3, .any, .any, .any, .any, .any, t9, t10, t11, .any, .any, .any, .any, .any, .any, .any, .any, .any, .any, .any, .any, .any, .any, .any, .any, .any, .any, .any, .any, .any, .any, .any, .any]
def f31_r10 : List LOp := [
  ⟨some 23, .move (.tmp 3), none⟩,
  ⟨some 24, .call { callee := .value (.func 48), args := #[.const (.slice none 0 0), .tmp 23], argTypes := #[22, 3] }, none⟩,
  ⟨some 6, .assign (.tmp 24), none⟩]
def f31_r11 : List LOp := [
  ⟨some 25, .move (.tmp 0), none⟩,
  ⟨some 26, .call { callee := .builtin .len, args := #[.tmp 25], argTypes := #[97] }, none⟩,
  ⟨some 27, .move (.const (.int .i64 0)), none⟩]
def f31_r12 : List LOp := [
  ⟨some 28, .binOp .lss 3 (.tmp 27) (.tmp 26) 3, none⟩]
def f31_r13 : List LOp := [
  ⟨some 29, .indexAddr 97 (.tmp 25) (.tmp 27), none⟩,
  ⟨some 30, .load 22 (.tmp 29), none⟩,
  ⟨some 8, .assign (.tmp 30), none⟩]
def f31_r14 : List LOp := [
  ⟨some 31, .move (.tmp 6), none⟩,
  ⟨some 32, .move (.tmp 8), none⟩,
  ⟨some 33, .call { callee := .builtin .append, args := #[.tmp 31, .tmp 32], argTypes := #[22, 22] }, none⟩,
  ⟨some 6, .assign (.tmp 33), none⟩]
def f31_r15 : List LOp := [
  ⟨some 34, .binOp .add 3 (.tmp 27) (.const (.int .i64 1)) 3, none⟩,
  ⟨some 27, .move (.tmp 34), none⟩]
def f31_l16 : LC := (.seq (.reg f31_r12 [] none) (.seq (.cond (.tmp 28) .skip (.exit 2)) (.seq (.block 3 (.seq (.reg f31_r13 [] none) (.reg f31_r14 [] none))) (.reg f31_r15 [] none))))
def f31_i16 (t6 t25 t26 t27 : D) : List D := [.any, .any, .any, .any, .any, .any, t6, .any, .any, .any, .any, .any, .any, .any, .any, .any, .any, .any, .any, .any, .any, .any, .any, .any, .any, t25, t26, t27, .any, .any, .any, .any, .any, .any, .any, .any]
def f31_r17 : List LOp := [
  ⟨some 35, .move (.tmp 6), none⟩,
  ⟨some 2, .assign (.tmp 35), none⟩]
def f31_c : LC := (.seq (.reg f31_r0 [] none) (.seq (.reg f31_r1 [] none) (.seq (.seq (.reg f31_r2 [] none) (.block 0 (.loop f31_l9))) (.seq (.reg f31_r10 [] none) (.seq (.seq (.reg f31_r11 [] none) (.block 2 (.loop f31_l16))) (.seq (.reg f31_r17 [] none) .ret))))))
theorem f31_lc : Try.f31.body.map lc = some f31_c.st := by kernel_rfl
theorem f31_res : Try.f31.results.toList = [.tmp 2] := by kernel_rfl
theorem f31_nt : Try.f31.ntmps = 36 := by kernel_rfl
theorem f31_nm : (Try.f31.name == "runtime.NumGoroutine") = false := by kernel_rfl
attribute [go_sem] f3_r0 f3_r1 f3_r2 f3_r3 f3_r4 f3_r5 f3_r6 f3_r7 f3_c f5_r0 f5_r1 f5_r2 f5_r3 f5_r4 f5_r5 f5_r6 f5_r7 f5_r8 f5_l9 f5_i9 f5_r10 f5_r11 f5_r12 f5_r13 f5_r14 f5_r15 f5_l16 f5_i16 f5_r17 f5_c f6_r0 f6_r1 f6_r2 f6_r3 f6_c f7_r0 f7_r1 f7_r2 f7_r3 f7_r4 f7_r5 f7_r6 f7_r7 f7_r8 f7_c f8_r0 f8_r1 f8_r2 f8_r3 f8_r4 f8_r5 f8_r6 f8_r7 f8_r8 f8_l9 f8_i9 f8_r10 f8_c f11_r0 f11_r1 f11_r2 f11_r3 f11_r4 f11_r5 f11_r6 f11_l7 f11_i7 f11_r8 f11_c f13_r0 f13_r1 f13_r2 f13_r3 f13_r4 f13_r5 f13_r6 f13_r7 f13_r8 f13_l9 f13_i9 f13_r10 f13_c f14_r0 f14_r1 f14_r2 f14_r3 f14_r4 f14_r5 f14_r6 f14_r7 f14_r8 f14_r9 f14_r10 f14_r11 f14_r12 f14_r13 f14_r14 f14_l15 f14_i15 f14_r16 f14_r17 f14_r18 f14_r19 f14_r20 f14_r21 f14_r22 f14_r23 f14_l24 f14_i24 f14_r25 f14_r26 f14_r27 f14_c f15_r0 f15_r1 f15_r2 f15_r3 f15_r4 f15_r5 f15_r6 f15_r7 f15_r8 f15_r9 f15_r10 f15_l11 f15_i11 f15_r12 f15_r13 f15_r14 f15_c f16_r0 f16_r1 f16_c f17_r0 f17_r1 f17_r2 f17_r3 f17_r4 f17_r5 f17_r6 f17_r7 f17_r8 f17_r9 f17_r10 f17_r11 f17_l12 f17_i12 f17_r13 f17_c f18_r0 f18_r1 f18_r2 f18_r3 f18_r4 f18_r5 f18_r6 f18_l7 f18_i7 f18_r8 f18_c f19_r0 f19_r1 f19_r2 f19_r3 f19_r4 f19_r5 f19_r6 f19_c f21_r0 f21_r1 f21_r2 f21_c f22_r0 f22_r1 f22_r2 f22_r3 f22_r4 f22_r5 f22_r6 f22_r7 f22_r8 f22_r9 f22_r10 f22_r11 f22_r12 f22_r13 f22_r14 f22_r15 f22_r16 f22_a17 f22_b17 f22_r18 f22_r19 f22_r20 f22_c f23_r0 f23_r1 f23_r2 f23_r3 f23_c f24_r0 f24_r1 f24_r2 f24_r3 f24_c f25_r0 f25_r1 f25_r2 f25_r3 f25_r4 f25_r5 f25_r6 f25_r7 f25_r8 f25_r9 f25_r10 f25_r11 f25_r12 f25_r13 f25_r14 f25_r15 f25_r16 f25_r17 f25_r18 f25_r19 f25_r20 f25_r21 f25_r22 f25_c f26_r0 f26_r1 f26_r2 f26_r3 f26_c f27_r0 f27_r1 f27_c f29_r0 f29_r1 f29_c f30_r0 f30_r1 f30_c f31_r0 f31_r1 f31_r2 f31_r3 f31_r4 f31_r5 f31_r6 f31_r7 f31_r8 f31_l9 f31_i9 f31_r10 f31_r11 f31_r12 f31_r13 f31_r14 f31_r15 f31_l16 f31_i16 f31_r17 f31_c T3 T4 T5 T9 T20 T21 T22 T23 T25 T26 T28 T30 T31 T34 T36 T40 T47 T50 T54 T59 T60 T61 T62 T64 T66 T75 T80 T85 T95 T97 T103 T107 T117 T124 T132 T134 T136 T140 ti3 ti4 ti5 ti9 ti20 ti21 ti22 ti23 ti25 ti26 ti28 ti30 ti31 ti34 ti36 ti40 ti47 ti50 ti54 ti59 ti60 ti61 ti62 ti64 ti66 ti75 ti80 ti85 ti95 ti97 ti103 ti107 ti117 ti124 ti132 ti134 ti136 ti140
end Go.Proofs.Ytdliolbjngcgcaa.W
set_option maxRecDepth 100000
namespace Go.Proofs.Ytdliolbjngcgcaa.W
open Go Go.Proofs Go.Proofs.Ytdliolbjngcgcaa.AWP
/-! quill/cfx.nodes -/
def f32_r0 : List LOp := [
  ⟨some 2, .box 25 (.tmp 0), none⟩,
  ⟨some 3, .box 30 (.tmp 1), none⟩,
  ⟨some 4, .assign (.const (.bool false)), none⟩]
def f32_r1 : List LOp := [
  ⟨some 5, .assign (.const (.int .i64 0)), none⟩,
  ⟨some 6, .assign (.const (.int .i64 1)), none⟩]
def f32_r2 : List LOp := [
  ⟨some 7, .fieldAddr 30 (.tmp 3) 0, none⟩,
  ⟨some 8, .load 5 (.tmp 7), none⟩]
def f32_r3 : List LOp := [
  ⟨some 10, .binOp .eql 5 (.tmp 8) (.const (.int .u8 1)) 5, none⟩,
  ⟨some 9, .assign (.tmp 10), none⟩]
def f32_r4 : List LOp := [
  ⟨some 11, .binOp .eql 5 (.tmp 8) (.const (.int .u8 2)) 5, none⟩,
  ⟨some 9, .assign (.tmp 11), none⟩]
def f32_r5 : List LOp := [
  ⟨some 13, .binOp .eql 5 (.tmp 8) (.const (.int .u8 3)) 5, none⟩,
  ⟨some 12, .assign (.tmp 13), none⟩]
def f32_r6 : List LOp := [
  ⟨some 14, .fieldAddr 25 (.tmp 2) 0, none⟩,
  ⟨some 15, .load 22 (.tmp 14), none⟩,
  ⟨some 16, .call { callee := .builtin .len, args := #[.tmp 15], argTypes := #[22] }, none⟩,
  ⟨some 6, .assign (.tmp 16), none⟩]
def f32_r7 : List LOp := [
  ⟨some 18, .binOp .eql 5 (.tmp 8) (.const (.int .u8 6)) 5, none⟩,
  ⟨some 17, .assign (.tmp 18), none⟩]
def f32_r8 : List LOp := [
  ⟨some 19, .fieldAddr 25 (.tmp 2) 1, none⟩,
  ⟨some 20, .load 23 (.tmp 19), none⟩,
  ⟨some 21, .call { callee := .builtin .len, args := #[.tmp 20], argTypes := #[23] }, none⟩,
  ⟨some 6, .assign (.tmp 21), none⟩]
def f32_r9 : List LOp := [
  ⟨some 23, .binOp .eql 5 (.tmp 8) (.const (.int .u8 4)) 5, none⟩,
  ⟨some 22, .assign (.tmp 23), none⟩]
def f32_r10 : List LOp := [
  ⟨some 24, .binOp .eql 5 (.tmp 8) (.const (.int .u8 5)) 5, none⟩,
  ⟨some 22, .assign (.tmp 24), none⟩]
def f32_r11 : List LOp := [
  ⟨some 5, .assign (.const (.int .i64 2)), none⟩]
def f32_r12 : List LOp := [
  ⟨some 4, .assign (.const (.bool false)), none⟩]
def f32_r13 : List LOp := [
  ⟨some 25, .fieldAddr 30 (.tmp 3) 1, none⟩,
  ⟨some 26, .load 3 (.tmp 25), none⟩,
  ⟨some 27, .binOp .geq 3 (.tmp 26) (.const (.int .i64 0)) 3, none⟩,
  ⟨some 28, .move (.tmp 27), none⟩,
  ⟨some 29, .fieldAddr 30 (.tmp 3) 1, some (3, true)⟩,
  ⟨some 30, .load 3 (.tmp 29), some (3, true)⟩,
  ⟨some 31, .move (.tmp 6), some (3, true)⟩,
  ⟨some 32, .binOp .lss 3 (.tmp 30) (.tmp 31) 3, some (3, true)⟩,
  ⟨some 33, .pick (.tmp 28) (.tmp 32) (.const (.bool false)), none⟩,
  ⟨some 34, .move (.tmp 33), none⟩,
  ⟨some 35, .fieldAddr 30 (.tmp 3) 2, some (9, true)⟩,
  ⟨some 36, .load 28 (.tmp 35), some (9, true)⟩,
  ⟨some 37, .call { callee := .builtin .len, args := #[.tmp 36], argTypes := #[28] }, some (9, true)⟩,
  ⟨some 38, .move (.tmp 5), some (9, true)⟩,
  ⟨some 39, .binOp .eql 3 (.tmp 37) (.tmp 38) 3, some (9, true)⟩,
  ⟨some 40, .pick (.tmp 34) (.tmp 39) (.const (.bool false)), none⟩,
  ⟨some 41, .move (.tmp 40), none⟩,
  ⟨some 42, .fieldAddr 30 (.tmp 3) 2, some (16, true)⟩,
  ⟨some 43, .load 28 (.tmp 42), some (16, true)⟩,
  ⟨some 44, .makeFunc (.func 50) #[] #[.tmp 2], some (16, true)⟩,
  ⟨some 45, .call { callee := .value (.func 49), args := #[.tmp 43, .tmp 44], argTypes := #[28, 36] }, some (16, true)⟩,
  ⟨some 46, .unOp .not 4 (.tmp 45), some (16, true)⟩,
  ⟨some 47, .pick (.tmp 41) (.tmp 46) (.const (.bool false)), none⟩,
  ⟨some 4, .assign (.tmp 47), none⟩]
def f32_c : LC := (.seq (.reg f32_r0 [] none) (.seq (.reg f32_r1 [] none) (.seq (.seq (.reg f32_r2 [] none) (.block 0 (.seq (.seq (.reg f32_r3 [] none) (.cond (.tmp 9) .skip (.reg f32_r4 [] none))) (.cond (.tmp 9) .skip (.seq (.reg f32_r5 [] none) (.cond (.tmp 12) (.reg f32_r6 [] none) (.seq (.reg f32_r7 [] none) (.cond (.tmp 17) (.reg f32_r8 [] none) (.seq (.seq (.reg f32_r9 [] none) (.cond (.tmp 22) .skip (.reg f32_r10 [] none))) (.cond (.tmp 22) (.reg f32_r11 [] none) (.seq (.reg f32_r12 [] none) .ret))))))))))) (.seq (.reg f32_r13 [] none) .ret))))
theorem f32_lc : Try.f32.body.map lc = some f32_c.st := by kernel_rfl
theorem f32_res : Try.f32.results.toList = [.tmp 4] := by kernel_rfl
theorem f32_nt : Try.f32.ntmps = 48 := by kernel_rfl
theorem f32_nm : (Try.f32.name == "runtime.NumGoroutine") = false := by kernel_rfl
/-! (*quill/cfx.reader).whole$1 -/
def f33_r0 : List LOp := [
  ⟨some 6, .call { callee := .builtin .recover, args := #[], argTypes := #[] }, none⟩]
def f33_r1 : List LOp := [
  ⟨some 8, .binOp .eql 20 (.tmp 6) (.const .nilIface) 20, none⟩]
def f33_r2 : List LOp := [
  ⟨some 3, .assign (.tmp 6), none⟩]
def f33_r3 : List LOp := [
  ⟨some 9, .typeAssert (.tmp 6) 20 80 true, none⟩,
  ⟨some 10, .extract (.tmp 9) 1, none⟩,
  ⟨some 11, .extract (.tmp 9) 0, none⟩]
def f33_r4 : List LOp := [
  ⟨some 4, .alloc 80, none⟩,
  ⟨none, .store 80 (.tmp 4) (.tmp 11), none⟩]
def f33_r5 : List LOp := [
  ⟨some 12, .build 30 #[], none⟩,
  ⟨some 13, .fieldAddr 80 (.tmp 4) 0, none⟩,
  ⟨some 14, .load 3 (.tmp 13), none⟩,
  ⟨some 15, .fieldAddr 80 (.tmp 4) 1, none⟩,
  ⟨some 16, .load 31 (.tmp 15), none⟩,
  ⟨none, .store 30 (.tmp 0) (.tmp 12), none⟩,
  ⟨none, .store 3 (.tmp 1) (.tmp 14), none⟩,
  ⟨none, .store 31 (.tmp 2) (.tmp 16), none⟩]
def f33_r6 : List LOp := [
  ⟨some 5, .assign (.tmp 6), none⟩]
def f33_r7 : List LOp := [
  ⟨some 7, .move (.tmp 5), none⟩,
  ⟨none, .panic (.tmp 7), none⟩]
def f33_c : LC := (.seq (.reg f33_r0 [] none) (.block 0 (.seq (.reg f33_r1 [] none) (.cond (.tmp 8) (.reg f33_r2 [] none) (.seq (.reg f33_r3 [] none) (.cond (.tmp 10) (.seq (.reg f33_r4 [] none) (.regq f33_r5 [] 0 (.free [[], [], [1], [], [3], [0, 0], [2, 5, 0, 1, 2, 5], [4, 6, 0, 1, 2, 3, 4, 5, 6]]))) (.seq (.reg f33_r6 [] none) (.reg f33_r7 [] none))))))))
theorem f33_lc : Try.f33.body.map lc = some f33_c.st := by kernel_rfl
theorem f33_res : Try.f33.results.toList = [] := by kernel_rfl
theorem f33_nt : Try.f33.ntmps = 17 := by kernel_rfl
theorem f33_nm : (Try.f33.name == "runtime.NumGoroutine") = false := by kernel_rfl
/-! (*quill/cfx.reader).or -/
def f34_r0 : List LOp := [
  ⟨some 2, .alloc 30, none⟩]
def f34_r1 : List LOp := [
  ⟨some 4, .move (.tmp 0), none⟩,
  ⟨some 5, .call { callee := .value (.func 51), args := #[.tmp 4], argTypes := #[47] }, none⟩,
  ⟨some 6, .buildSlice 28 1 #[(0, .tmp 5)], none⟩,
  ⟨some 3, .assign (.tmp 6), none⟩]
def f34_r2 : List LOp := [
  ⟨some 7, .move (.tmp 0), none⟩,
  ⟨some 8, .call { callee := .value (.func 52), args := #[.tmp 7, .const (.int .u8 124)], argTypes := #[47, 5] }, none⟩]
def f34_r3 : List LOp := [
  ⟨some 9, .move (.tmp 0), none⟩,
  ⟨some 10, .nilCheck (.tmp 9), none⟩,
  ⟨some 11, .fieldAddr 50 (.tmp 10) 1, none⟩,
  ⟨some 12, .load 3 (.tmp 11), none⟩,
  ⟨some 13, .binOp .add 3 (.tmp 12) (.const (.int .i64 1)) 3, none⟩,
  ⟨some 14, .nilCheck (.tmp 9), none⟩,
  ⟨some 15, .fieldAddr 50 (.tmp 14) 1, none⟩,
  ⟨none, .store 3 (.tmp 15) (.tmp 13), none⟩]
def f34_r4 : List LOp := [
  ⟨some 16, .move (.tmp 3), none⟩,
  ⟨some 17, .move (.tmp 0), none⟩,
  ⟨some 18, .call { callee := .value (.func 51), args := #[.tmp 17], argTypes := #[47] }, none⟩,
  ⟨some 19, .buildSlice 28 1 #[(0, .tmp 18)], none⟩,
  ⟨some 20, .call { callee := .builtin .append, args := #[.tmp 16, .tmp 19], argTypes := #[28, 28] }, none⟩,
  ⟨some 3, .assign (.tmp 20), none⟩]
def f34_l5 : LC := (.seq (.seq (.reg f34_r2 [] none) (.cond (.tmp 8) .skip (.exit 0))) (.block 1 (.seq (.reg f34_r3 [] none) (.reg f34_r4 [] none))))
def f34_i5 (t0 t2 t3 : D) : List D := [t0, .any, t2, t3, .any, .any, .any, .any, .any, .any, .any, .any, .any, .any, .any, .any, .any, .any, .any, .any, .any, .any, .any]
def f34_r6 : List LOp := [
  ⟨some 21, .move (.tmp 3), none⟩,
  ⟨some 22, .call { callee := .value (.func 53), args := #[.const (.int .u8 5), .tmp 21], argTypes := #[5, 28] }, none⟩,
  ⟨none, .store 30 (.tmp 2) (.tmp 22), none⟩]
def f34_c : LC := (.seq (.reg f34_r0 [] none) (.seq (.reg f34_r1 [2] none) (.seq (.block 0 (.loop f34_l5)) (.seq (.reg f34_r6 [] none) .ret))))
theorem f34_lc : Try.f34.body.map lc = some f34_c.st := by kernel_rfl
theorem f34_res : Try.f34.results.toList = [.cell 2 30] := by kernel_rfl
theorem f34_nt : Try.f34.ntmps = 23 := by kernel_rfl
theorem f34_nm : (Try.f34.name == "runtime.NumGoroutine") = false := by kernel_rfl
/-! (*quill/cfx.reader).blanks -/
def f35_r0 : List LOp := [
  ⟨some 2, .move (.tmp 0), none⟩,
  ⟨some 3, .nilCheck (.tmp 2), none⟩,
  ⟨some 4, .fieldAddr 50 (.tmp 3) 1, none⟩,
  ⟨some 5, .load 3 (.tmp 4), none⟩,
  ⟨some 6, .move (.tmp 0), none⟩,
  ⟨some 7, .nilCheck (.tmp 6), none⟩,
  ⟨some 8, .fieldAddr 50 (.tmp 7) 0, none⟩,
  ⟨some 9, .load 9 (.tmp 8), none⟩,
  ⟨some 10, .call { callee := .builtin .len, args := #[.tmp 9], argTypes := #[9] }, none⟩,
  ⟨some 11, .binOp .lss 3 (.tmp 5) (.tmp 10) 3, none⟩,
  ⟨some 12, .move (.tmp 11), none⟩,
  ⟨some 13, .move (.tmp 0), some (10, true)⟩,
  ⟨some 14, .nilCheck (.tmp 13), some (10, true)⟩,
  ⟨some 15, .fieldAddr 50 (.tmp 14) 0, some (10, true)⟩,
  ⟨some 16, .load 9 (.tmp 15), some (10, true)⟩,
  ⟨some 17, .move (.tmp 0), some (10, true)⟩,
  ⟨some 18, .nilCheck (.tmp 17), some (10, true)⟩,
  ⟨some 19, .fieldAddr 50 (.tmp 18) 1, some (10, true)⟩,
  ⟨some 20, .load 3 (.tmp 19), some (10, true)⟩,
  ⟨some 21, .index 9 (.tmp 16) (.tmp 20), some (10, true)⟩,
  ⟨some 22, .binOp .eql 5 (.tmp 21) (.const (.int .u8 32)) 5, some (10, true)⟩,
  ⟨some 23, .pick (.tmp 12) (.tmp 22) (.const (.bool false)), none⟩]
def f35_r1 : List LOp := [
  ⟨some 24, .move (.tmp 0), none⟩,
  ⟨some 25, .nilCheck (.tmp 24), none⟩,
  ⟨some 26, .fieldAddr 50 (.tmp 25) 1, none⟩,
  ⟨some 27, .load 3 (.tmp 26), none⟩,
  ⟨some 28, .binOp .add 3 (.tmp 27) (.const (.int .i64 1)) 3, none⟩,
  ⟨some 29, .nilCheck (.tmp 24), none⟩,
  ⟨some 30, .fieldAddr 50 (.tmp 29) 1, none⟩,
  ⟨none, .store 3 (.tmp 30) (.tmp 28), none⟩]
def f35_l2 : LC := (.seq (.seq (.reg f35_r0 [] (some 22)) (.cond (.tmp 23) .skip (.exit 0))) (.block 1 (.reg f35_r1 [] none)))
def f35_i2 (t0 : D) : List D := [t0, .any, .any, .any, .any, .any, .any, .any, .any, .any, .any, .any, .any, .any, .any, .any, .any, .any, .any, .any, .any, .any, .any, .any, .any, .any, .any, .any, .any, .any, .any]
def f35_c : LC := (.block 0 (.loop f35_l2))
theorem f35_lc : Try.f35.body.map lc = some f35_c.st := by kernel_rfl
theorem f35_res : Try.f35.results.toList = [] := by kernel_rfl
theorem f35_nt : Try.f35.ntmps = 31 := by kernel_rfl
theorem f35_nm : (Try.f35.name == "runtime.NumGoroutine") = false := by kernel_rfl
/-! (*quill/cfx.reader).fail -/
def f36_r0 : List LOp := [
  ⟨some 6, .move (.tmp 1), none⟩,
  ⟨some 7, .move (.tmp 2), none⟩,
  ⟨some 8, .build 80 #[(0, .tmp 6), (1, .tmp 7)], none⟩,
  ⟨some 9, .makeInterface 80 (.tmp 8), none⟩,
  ⟨none, .panic (.tmp 9), none⟩]
def f36_c : LC := (.reg f36_r0 [] none)
theorem f36_lc : Try.f36.body.map lc = some f36_c.st := by kernel_rfl
theorem f36_res : Try.f36.results.toList = [] := by kernel_rfl
theorem f36_nt : Try.f36.ntmps = 10 := by kernel_rfl
theorem f36_nm : (Try.f36.name == "runtime.NumGoroutine") = false := by kernel_rfl
/-! slices.Sorted[string] -/
def f37_r0 : List LOp := [
  ⟨some 2, .assign (.const (.slice none 0 0)), none⟩]
def f37_r1 : List LOp := [
  ⟨some 4, .move (.tmp 0), none⟩,
  ⟨some 5, .call { callee := .value (.func 54), args := #[.tmp 4], argTypes := #[85] }, none⟩,
  ⟨some 3, .assign (.tmp 5), none⟩]
def f37_r2 : List LOp := [
  ⟨some 6, .move (.tmp 3), none⟩,
  ⟨some 7, .call { callee := .value (.func 55), args := #[.tmp 6], argTypes := #[22] }, none⟩]
def f37_r3 : List LOp := [
  ⟨some 8, .move (.tmp 3), none⟩,
  ⟨some 2, .assign (.tmp 8), none⟩]
def f37_c : LC := (.seq (.reg f37_r0 [] none) (.seq (.reg f37_r1 [] none) (.seq (.reg f37_r2 [] none) (.seq (.reg f37_r3 [] none) .ret))))
theorem f37_lc : Try.f37.body.map lc = some f37_c.st := by kernel_rfl
theorem f37_res : Try.f37.results.toList = [.tmp 2] := by kernel_rfl
theorem f37_nt : Try.f37.ntmps = 9 := by kernel_rfl
theorem f37_nm : (Try.f37.name == "runtime.NumGoroutine") = false := by kernel_rfl
/-! slices.Values[[]string,string] -/
def f38_r0 : List LOp := [
  ⟨some 1, .box 22 (.tmp 0), none⟩,
  ⟨some 2, .assign (.const .nilFunc), none⟩]
def f38_r1 : List LOp := [
  ⟨some 3, .makeFunc (.func 56) #[] #[.tmp 1], none⟩,
  ⟨some 2, .assign (.tmp 3), none⟩]
def f38_c : LC := (.seq (.reg f38_r0 [] none) (.seq (.reg f38_r1 [] none) .ret))
theorem f38_lc : Try.f38.body.map lc = some f38_c.st := by kernel_rfl
theorem f38_res : Try.f38.results.toList = [.tmp 2] := by kernel_rfl
theorem f38_nt : Try.f38.ntmps = 4 := by kernel_rfl
theorem f38_nm : (Try.f38.name == "runtime.NumGoroutine") = false := by kernel_rfl
/-! quill/num.Name -/
def f39_r0 : List LOp := [
  ⟨some 2, .assign (.const (.bool false)), none⟩]
def f39_r1 : List LOp := [
  ⟨some 3, .move (.tmp 0), none⟩,
  ⟨some 4, .call { callee := .value (.func 57), args := #[.tmp 3, .func 58], argTypes := #[22, 103] }, none⟩,
  ⟨some 5, .unOp .not 4 (.tmp 4), none⟩,
  ⟨some 2, .assign (.tmp 5), none⟩]
def f39_c : LC := (.seq (.reg f39_r0 [] none) (.seq (.reg f39_r1 [] none) .ret))
theorem f39_lc : Try.f39.body.map lc = some f39_c.st := by kernel_rfl
theorem f39_res : Try.f39.results.toList = [.tmp 2] := by kernel_rfl
theorem f39_nt : Try.f39.ntmps = 6 := by kernel_rfl
theorem f39_nm : (Try.f39.name == "runtime.NumGoroutine") = false := by kernel_rfl
/-! slices.Compact[[]string,string] -/
/-! strings.Lines -/
def f41_r0 : List LOp := [
  ⟨some 1, .box 9 (.tmp 0), none⟩,
  ⟨some 2, .assign (.const .nilFunc), none⟩]
def f41_r1 : List LOp := [
  ⟨some 3, .makeFunc (.func 60) #[] #[.tmp 1], none⟩,
  ⟨some 2, .assign (.tmp 3), none⟩]
def f41_c : LC := (.seq (.reg f41_r0 [0] none) (.seq (.reg f41_r1 [] none) .ret))
theorem f41_lc : Try.f41.body.map lc = some f41_c.st := by kernel_rfl
theorem f41_res : Try.f41.results.toList = [.tmp 2] := by kernel_rfl
theorem f41_nt : Try.f41.ntmps = 4 := by kernel_rfl
theorem f41_nm : (Try.f41.name == "runtime.NumGoroutine") = false := by kernel_rfl
/-! strings.CutSuffix -/
def f42_r0 : List LOp := [
  ⟨some 4, .assign (.const (.string { data := #[] })), none⟩,
  ⟨some 5, .assign (.const (.bool false)), none⟩]
def f42_r1 : List LOp := [
  ⟨some 6, .move (.tmp 0), none⟩,
  ⟨some 7, .move (.tmp 1), none⟩,
  ⟨some 8, .call { callee := .value (.func 62), args := #[.tmp 6, .tmp 7], argTypes := #[9, 9] }, none⟩,
  ⟨some 9, .extract (.tmp 8) 0, none⟩,
  ⟨some 10, .extract (.tmp 8) 1, none⟩,
  ⟨some 4, .assign (.tmp 9), none⟩,
  ⟨some 5, .assign (.tmp 10), none⟩]
def f42_c : LC := (.seq (.reg f42_r0 [] none) (.seq (.reg f42_r1 [] none) .ret))
theorem f42_lc : Try.f42.body.map lc = some f42_c.st := by kernel_rfl
theorem f42_res : Try.f42.results.toList = [.tmp 4, .tmp 5] := by kernel_rfl
theorem f42_nt : Try.f42.ntmps = 11 := by kernel_rfl
theorem f42_nm : (Try.f42.name == "runtime.NumGoroutine") = false := by kernel_rfl
/-! strings.Cut -/
/-! slices.Contains[[]string,string] -/
def f44_r0 : List LOp := [
  ⟨some 4, .assign (.const (.bool false)), none⟩]
def f44_r1 : List LOp := [
  ⟨some 5, .move (.tmp 0), none⟩,
  ⟨some 6, .move (.tmp 1), none⟩,
  ⟨some 7, .call { callee := .value (.func 64), args := #[.tmp 5, .tmp 6], argTypes := #[22, 9] }, none⟩,
  ⟨some 8, .binOp .geq 3 (.tmp 7) (.const (.int .i64 0)) 3, none⟩,
  ⟨some 4, .assign (.tmp 8), none⟩]
def f44_c : LC := (.seq (.reg f44_r0 [] none) (.seq (.reg f44_r1 [] none) .ret))
theorem f44_lc : Try.f44.body.map lc = some f44_c.st := by kernel_rfl
theorem f44_res : Try.f44.results.toList = [.tmp 4] := by kernel_rfl
theorem f44_nt : Try.f44.ntmps = 9 := by kernel_rfl
theorem f44_nm : (Try.f44.name == "runtime.NumGoroutine") = false := by kernel_rfl
/-! slices.Contains[[]uint8,uint8] -/
def f46_r0 : List LOp := [
  ⟨some 4, .assign (.const (.bool false)), none⟩]
def f46_r1 : List LOp := [
  ⟨some 5, .move (.tmp 0), none⟩,
  ⟨some 6, .move (.tmp 1), none⟩,
  ⟨some 7, .call { callee := .value (.func 66), args := #[.tmp 5, .tmp 6], argTypes := #[62, 5] }, none⟩,
  ⟨some 8, .binOp .geq 3 (.tmp 7) (.const (.int .i64 0)) 3, none⟩,
  ⟨some 4, .assign (.tmp 8), none⟩]
def f46_c : LC := (.seq (.reg f46_r0 [] none) (.seq (.reg f46_r1 [] none) .ret))
theorem f46_lc : Try.f46.body.map lc = some f46_c.st := by kernel_rfl
theorem f46_res : Try.f46.results.toList = [.tmp 4] := by kernel_rfl
theorem f46_nt : Try.f46.ntmps = 9 := by kernel_rfl
theorem f46_nm : (Try.f46.name == "runtime.NumGoroutine") = false := by kernel_rfl
/-! slices.IndexFunc[[]quill/api.Grammar,quill/api.Grammar] -/
def f47_r0 : List LOp := [
  ⟨some 4, .assign (.const (.int .i64 0)), none⟩]
def f47_r1 : List LOp := [
  ⟨some 6, .move (.tmp 0), none⟩,
  ⟨some 7, .call { callee := .builtin .len, args := #[.tmp 6], argTypes := #[75] }, none⟩,
  ⟨some 8, .move (.const (.int .i64 0)), none⟩]
def f47_r2 : List LOp := [
  ⟨some 9, .binOp .lss 3 (.tmp 8) (.tmp 7) 3, none⟩]
def f47_r3 : List LOp := [
  ⟨some 10, .move (.tmp 8), none⟩,
  ⟨some 5, .assign (.tmp 10), none⟩]
def f47_r4 : List LOp := [
  ⟨some 11, .move (.tmp 1), none⟩,
  ⟨some 12, .move (.tmp 0), none⟩,
  ⟨some 13, .move (.tmp 5), none⟩,
  ⟨some 14, .indexAddr 75 (.tmp 12) (.tmp 13), none⟩,
  ⟨some 15, .load 25 (.tmp 14), none⟩,
  ⟨some 16, .call { callee := .value (.tmp 11), args := #[.tmp 15], argTypes := #[25] }, none⟩]
def f47_r5 : List LOp := [
  ⟨some 17, .move (.tmp 5), none⟩,
  ⟨some 4, .assign (.tmp 17), none⟩]
def f47_r6 : List LOp := [
  ⟨some 18, .binOp .add 3 (.tmp 8) (.const (.int .i64 1)) 3, none⟩,
  ⟨some 8, .move (.tmp 18), none⟩]
def f47_l7 : LC := (.seq (.reg f47_r2 [] none) (.seq (.cond (.tmp 9) .skip (.exit 0)) (.seq (.block 1 (.seq (.reg f47_r3 [] none) (.seq (.reg f47_r4 [] none) (.cond (.tmp 16) (.seq (.reg f47_r5 [] none) .ret) .skip)))) (.reg f47_r6 [] none))))
def f47_i7 (t0 t1 t7 t8 : D) : List D := [t0, t1, .any, .any, .any, .any, .any, t7, t8, .any, .any, .any, .any, .any, .any, .any, .any, .any, .any]
def f47_r8 : List LOp := [
  ⟨some 4, .assign (.const (.int .i64 (-1))), none⟩]
def f47_c : LC := (.seq (.reg f47_r0 [] none) (.seq (.seq (.reg f47_r1 [] none) (.block 0 (.loop f47_l7))) (.seq (.reg f47_r8 [] none) .ret)))
theorem f47_lc : Try.f47.body.map lc = some f47_c.st := by kernel_rfl
theorem f47_res : Try.f47.results.toList = [.tmp 4] := by kernel_rfl
theorem f47_nt : Try.f47.ntmps = 19 := by kernel_rfl
theorem f47_nm : (Try.f47.name == "runtime.NumGoroutine") = false := by kernel_rfl
/-! slices.Grow[[]string,string] -/
/-! slices.ContainsFunc[[]quill/api.Cf,quill/api.Cf] -/
def f49_r0 : List LOp := [
  ⟨some 4, .assign (.const (.bool false)), none⟩]
def f49_r1 : List LOp := [
  ⟨some 5, .move (.tmp 0), none⟩,
  ⟨some 6, .move (.tmp 1), none⟩,
  ⟨some 7, .call { callee := .value (.func 67), args := #[.tmp 5, .tmp 6], argTypes := #[28, 36] }, none⟩,
  ⟨some 8, .binOp .geq 3 (.tmp 7) (.const (.int .i64 0)) 3, none⟩,
  ⟨some 4, .assign (.tmp 8), none⟩]
def f49_c : LC := (.seq (.reg f49_r0 [] none) (.seq (.reg f49_r1 [] none) .ret))
theorem f49_lc : Try.f49.body.map lc = some f49_c.st := by kernel_rfl
theorem f49_res : Try.f49.results.toList = [.tmp 4] := by kernel_rfl
theorem f49_nt : Try.f49.ntmps = 9 := by kernel_rfl
theorem f49_nm : (Try.f49.name == "runtime.NumGoroutine") = false := by kernel_rfl
/-! quill/cfx.nodes$1 -/
def f50_r0 : List LOp := [
  ⟨some 2, .box 30 (.tmp 0), none⟩,
  ⟨some 3, .assign (.const (.bool false)), none⟩]
def f50_r1 : List LOp := [
  ⟨some 4, .load 25 (.tmp 1), none⟩,
  ⟨some 5, .load 30 (.tmp 2), none⟩,
  ⟨some 6, .call { callee := .value (.func 32), args := #[.tmp 4, .tmp 5], argTypes := #[25, 30] }, none⟩,
  ⟨some 7, .unOp .not 4 (.tmp 6), none⟩,
  ⟨some 3, .assign (.tmp 7), none⟩]
def f50_c : LC := (.seq (.reg f50_r0 [] none) (.seq (.reg f50_r1 [] none) .ret))
theorem f50_lc : Try.f50.body.map lc = some f50_c.st := by kernel_rfl
theorem f50_res : Try.f50.results.toList = [.tmp 3] := by kernel_rfl
theorem f50_nt : Try.f50.ntmps = 8 := by kernel_rfl
theorem f50_nm : (Try.f50.name == "runtime.NumGoroutine") = false := by kernel_rfl
/-! (*quill/cfx.reader).then -/
def f51_r0 : List LOp := [
  ⟨some 2, .alloc 30, none⟩]
def f51_r1 : List LOp := [
  ⟨some 4, .move (.tmp 0), none⟩,
  ⟨some 5, .call { callee := .value (.func 68), args := #[.tmp 4], argTypes := #[47] }, none⟩,
  ⟨some 6, .buildSlice 28 1 #[(0, .tmp 5)], none⟩,
  ⟨some 3, .assign (.tmp 6), none⟩]
def f51_r2 : List LOp := [
  ⟨some 7, .move (.tmp 0), none⟩,
  ⟨some 8, .call { callee := .value (.func 52), args := #[.tmp 7, .const (.int .u8 91)], argTypes := #[47, 5] }, none⟩,
  ⟨some 9, .move (.tmp 8), none⟩,
  ⟨some 10, .move (.tmp 0), some (2, false)⟩,
  ⟨some 11, .call { callee := .value (.func 52), args := #[.tmp 10, .const (.int .u8 40)], argTypes := #[47, 5] }, some (2, false)⟩,
  ⟨some 12, .pick (.tmp 9) (.const (.bool true)) (.tmp 11), none⟩,
  ⟨some 13, .move (.tmp 12), none⟩,
  ⟨some 14, .move (.tmp 0), some (6, false)⟩,
  ⟨some 15, .call { callee := .value (.func 69), args := #[.tmp 14], argTypes := #[47] }, some (6, false)⟩,
  ⟨some 16, .pick (.tmp 13) (.const (.bool true)) (.tmp 15), none⟩]
def f51_r3 : List LOp := [
  ⟨some 17, .move (.tmp 3), none⟩,
  ⟨some 18, .move (.tmp 0), none⟩,
  ⟨some 19, .call { callee := .value (.func 68), args := #[.tmp 18], argTypes := #[47] }, none⟩,
  ⟨some 20, .buildSlice 28 1 #[(0, .tmp 19)], none⟩,
  ⟨some 21, .call { callee := .builtin .append, args := #[.tmp 17, .tmp 20], argTypes := #[28, 28] }, none⟩,
  ⟨some 3, .assign (.tmp 21), none⟩]
def f51_l4 : LC := (.seq (.seq (.reg f51_r2 [] none) (.cond (.tmp 16) .skip (.exit 0))) (.block 1 (.reg f51_r3 [] none)))
def f51_i4 (t0 t2 t3 : D) : List D := [t0, .any, t2, t3, .any, .any, .any, .any, .any, .any, .any, .any, .any, .any, .any, .any, .any, .any, .any, .any, .any, .any, .any, .any]
def f51_r5 : List LOp := [
  ⟨some 22, .move (.tmp 3), none⟩,
  ⟨some 23, .call { callee := .value (.func 53), args := #[.const (.int .u8 4), .tmp 22], argTypes := #[5, 28] }, none⟩,
  ⟨none, .store 30 (.tmp 2) (.tmp 23), none⟩]
def f51_c : LC := (.seq (.reg f51_r0 [] none) (.seq (.reg f51_r1 [2] none) (.seq (.block 0 (.loop f51_l4)) (.seq (.reg f51_r5 [] none) .ret))))
theorem f51_lc : Try.f51.body.map lc = some f51_c.st := by kernel_rfl
theorem f51_res : Try.f51.results.toList = [.cell 2 30] := by kernel_rfl
theorem f51_nt : Try.f51.ntmps = 24 := by kernel_rfl
theorem f51_nm : (Try.f51.name == "runtime.NumGoroutine") = false := by kernel_rfl
/-! (*quill/cfx.reader).is -/
def f52_r0 : List LOp := [
  ⟨some 4, .assign (.const (.bool false)), none⟩]
def f52_r1 : List LOp := [
  ⟨some 5, .move (.tmp 0), none⟩,
  ⟨some 6, .call { callee := .value (.func 35), args := #[.tmp 5], argTypes := #[47] }, none⟩]
def f52_r2 : List LOp := [
  ⟨some 7, .move (.tmp 0), none⟩,
  ⟨some 8, .nilCheck (.tmp 7), none⟩,
  ⟨some 9, .fieldAddr 50 (.tmp 8) 1, none⟩,
  ⟨some 10, .load 3 (.tmp 9), none⟩,
  ⟨some 11, .move (.tmp 0), none⟩,
  ⟨some 12, .nilCheck (.tmp 11), none⟩,
  ⟨some 13, .fieldAddr 50 (.tmp 12) 0, none⟩,
  ⟨some 14, .load 9 (.tmp 13), none⟩,
  ⟨some 15, .call { callee := .builtin .len, args := #[.tmp 14], argTypes := #[9] }, none⟩,
  ⟨some 16, .binOp .lss 3 (.tmp 10) (.tmp 15) 3, none⟩,
  ⟨some 17, .move (.tmp 16), none⟩,
  ⟨some 18, .move (.tmp 0), some (10, true)⟩,
  ⟨some 19, .nilCheck (.tmp 18), some (10, true)⟩,
  ⟨some 20, .fieldAddr 50 (.tmp 19) 0, some (10, true)⟩,
  ⟨some 21, .load 9 (.tmp 20), some (10, true)⟩,
  ⟨some 22, .move (.tmp 0), some (10, true)⟩,
  ⟨some 23, .nilCheck (.tmp 22), some (10, true)⟩,
  ⟨some 24, .fieldAddr 50 (.tmp 23) 1, some (10, true)⟩,
  ⟨some 25, .load 3 (.tmp 24), some (10, true)⟩,
  ⟨some 26, .index 9 (.tmp 21) (.tmp 25), some (10, true)⟩,
  ⟨some 27, .move (.tmp 1), some (10, true)⟩,
  ⟨some 28, .binOp .eql 5 (.tmp 26) (.tmp 27) 5, some (10, true)⟩,
  ⟨some 29, .pick (.tmp 17) (.tmp 28) (.const (.bool false)), none⟩,
  ⟨some 4, .assign (.tmp 29), none⟩]
def f52_c : LC := (.seq (.reg f52_r0 [] none) (.seq (.reg f52_r1 [] none) (.seq (.reg f52_r2 [] (some 23)) .ret)))
theorem f52_lc : Try.f52.body.map lc = some f52_c.st := by kernel_rfl
theorem f52_res : Try.f52.results.toList = [.tmp 4] := by kernel_rfl
theorem f52_nt : Try.f52.ntmps = 30 := by kernel_rfl
theorem f52_nm : (Try.f52.name == "runtime.NumGoroutine") = false := by kernel_rfl
/-! quill/cfx.fold -/
def f53_r0 : List LOp := [
  ⟨some 2, .box 5 (.tmp 0), none⟩,
  ⟨some 4, .alloc 30, none⟩]
def f53_r1 : List LOp := [
  ⟨some 8, .move (.tmp 1), none⟩,
  ⟨some 9, .move (.tmp 1), none⟩,
  ⟨some 10, .call { callee := .builtin .len, args := #[.tmp 9], argTypes := #[28] }, none⟩,
  ⟨some 11, .binOp .sub 3 (.tmp 10) (.const (.int .i64 1)) 3, none⟩,
  ⟨some 12, .indexAddr 28 (.tmp 8) (.tmp 11), none⟩,
  ⟨some 13, .load 30 (.tmp 12), none⟩,
  ⟨some 5, .alloc 30, none⟩,
  ⟨none, .store 30 (.tmp 5) (.tmp 13), none⟩]
def f53_r2 : List LOp := [
  ⟨some 14, .move (.tmp 1), none⟩,
  ⟨some 15, .move (.tmp 1), none⟩,
  ⟨some 16, .call { callee := .builtin .len, args := #[.tmp 15], argTypes := #[28] }, none⟩,
  ⟨some 17, .binOp .sub 3 (.tmp 16) (.const (.int .i64 1)) 3, none⟩,
  ⟨some 18, .slice 28 (.tmp 14) none (some (.tmp 17)) none, none⟩,
  ⟨some 19, .call { callee := .value (.func 70), args := #[.tmp 18], argTypes := #[28] }, none⟩]
def f53_r3 : List LOp := [
  ⟨some 7, .alloc 30, none⟩,
  ⟨none, .store 30 (.tmp 7) (.tmp 21), none⟩]
def f53_r4 : List LOp := [
  ⟨some 22, .load 5 (.tmp 2), none⟩,
  ⟨some 23, .load 30 (.tmp 7), none⟩,
  ⟨some 24, .load 30 (.tmp 5), none⟩,
  ⟨some 25, .buildSlice 28 2 #[(0, .tmp 23), (1, .tmp 24)], none⟩,
  ⟨some 26, .build 30 #[(0, .tmp 22), (2, .tmp 25)], none⟩,
  ⟨none, .store 30 (.tmp 5) (.tmp 26), none⟩]
def f53_a5 : LC := (.reg f53_r3 [] none)
def f53_b5 : LC := (.block 1 (.reg f53_r4 [] none))
def f53_r6 : List LOp := [
  ⟨some 27, .load 30 (.tmp 5), none⟩,
  ⟨none, .store 30 (.tmp 4) (.tmp 27), none⟩]
def f53_c : LC := (.seq (.reg f53_r0 [] none) (.seq (.reg f53_r1 [] none) (.seq (.seq (.reg f53_r2 [] none) (.block 0 (.rfun (.tmp 19) [20, 21] f53_a5 f53_b5))) (.seq (.reg f53_r6 [] none) .ret))))
theorem f53_lc : Try.f53.body.map lc = some f53_c.st := by kernel_rfl
theorem f53_res : Try.f53.results.toList = [.cell 4 30] := by kernel_rfl
theorem f53_nt : Try.f53.ntmps = 28 := by kernel_rfl
theorem f53_nm : (Try.f53.name == "runtime.NumGoroutine") = false := by kernel_rfl
/-! slices.Collect[string] -/
def f54_r0 : List LOp := [
  ⟨some 2, .assign (.const (.slice none 0 0)), none⟩]
def f54_r1 : List LOp := [
  ⟨some 3, .move (.tmp 0), none⟩,
  ⟨some 4, .call { callee := .value (.func 71), args := #[.const (.slice none 0 0), .tmp 3], argTypes := #[22, 85] }, none⟩,
  ⟨some 2, .assign (.tmp 4), none⟩]
def f54_c : LC := (.seq (.reg f54_r0 [] none) (.seq (.reg f54_r1 [] none) .ret))
theorem f54_lc : Try.f54.body.map lc = some f54_c.st := by kernel_rfl
theorem f54_res : Try.f54.results.toList = [.tmp 2] := by kernel_rfl
theorem f54_nt : Try.f54.ntmps = 5 := by kernel_rfl
theorem f54_nm : (Try.f54.name == "runtime.NumGoroutine") = false := by kernel_rfl
/-! slices.Values[[]string,string]$1 -/
def f56_r0 : List LOp := [
  ⟨some 5, .load 22 (.tmp 1), none⟩,
  ⟨some 6, .call { callee := .builtin .len, args := #[.tmp 5], argTypes := #[22] }, none⟩,
  ⟨some 7, .move (.const (.int .i64 0)), none⟩]
def f56_r1 : List LOp := [
  ⟨some 8, .binOp .lss 3 (.tmp 7) (.tmp 6) 3, none⟩]
def f56_r2 : List LOp := [
  ⟨some 9, .indexAddr 22 (.tmp 5) (.tmp 7), none⟩,
  ⟨some 10, .load 9 (.tmp 9), none⟩,
  ⟨some 4, .assign (.tmp 10), none⟩]
def f56_r3 : List LOp := [
  ⟨some 11, .move (.tmp 0), none⟩,
  ⟨some 12, .move (.tmp 4), none⟩,
  ⟨some 13, .call { callee := .value (.tmp 11), args := #[.tmp 12], argTypes := #[9] }, none⟩,
  ⟨some 14, .unOp .not 4 (.tmp 13), none⟩]
def f56_r4 : List LOp := [
  ⟨some 15, .binOp .add 3 (.tmp 7) (.const (.int .i64 1)) 3, none⟩,
  ⟨some 7, .move (.tmp 15), none⟩]
def f56_l5 : LC := (.seq (.reg f56_r1 [] none) (.seq (.cond (.tmp 8) .skip (.exit 0)) (.seq (.block 1 (.seq (.reg f56_r2 [] none) (.seq (.reg f56_r3 [] none) (.cond (.tmp 14) .ret .skip)))) (.reg f56_r4 [] none))))
def f56_i5 (t0 t5 t6 t7 : D) : List D := [t0, .any, .any, .any, .any, t5, t6, t7, .any, .any, .any, .any, .any, .any, .any, .any]
def f56_c : LC := (.seq (.reg f56_r0 [] none) (.block 0 (.loop f56_l5)))
theorem f56_lc : Try.f56.body.map lc = some f56_c.st := by kernel_rfl
theorem f56_res : Try.f56.results.toList = [] := by kernel_rfl
theorem f56_nt : Try.f56.ntmps = 16 := by kernel_rfl
theorem f56_nm : (Try.f56.name == "runtime.NumGoroutine") = false := by kernel_rfl
/-! slices.ContainsFunc[[]string,string] -/
def f57_r0 : List LOp := [
  ⟨some 4, .assign (.const (.bool false)), none⟩]
def f57_r1 : List LOp := [
  ⟨some 5, .move (.tmp 0), none⟩,
  ⟨some 6, .move (.tmp 1), none⟩,
  ⟨some 7, .call { callee := .value (.func 74), args := #[.tmp 5, .tmp 6], argTypes := #[22, 103] }, none⟩,
  ⟨some 8, .binOp .geq 3 (.tmp 7) (.const (.int .i64 0)) 3, none⟩,
  ⟨some 4, .assign (.tmp 8), none⟩]
def f57_c : LC := (.seq (.reg f57_r0 [] none) (.seq (.reg f57_r1 [] none) .ret))
theorem f57_lc : Try.f57.body.map lc = some f57_c.st := by kernel_rfl
theorem f57_res : Try.f57.results.toList = [.tmp 4] := by kernel_rfl
theorem f57_nt : Try.f57.ntmps = 9 := by kernel_rfl
theorem f57_nm : (Try.f57.name == "runtime.NumGoroutine") = false := by kernel_rfl
/-! quill/num.Name$1 -/
def f58_r0 : List LOp := [
  ⟨some 2, .assign (.const (.bool false)), none⟩]
def f58_r1 : List LOp := [
  ⟨some 3, .move (.tmp 0), none⟩,
  ⟨some 4, .call { callee := .value (.func 59), args := #[.tmp 3], argTypes := #[9] }, none⟩,
  ⟨some 5, .unOp .not 4 (.tmp 4), none⟩,
  ⟨some 2, .assign (.tmp 5), none⟩]
def f58_c : LC := (.seq (.reg f58_r0 [] none) (.seq (.reg f58_r1 [] none) .ret))
theorem f58_lc : Try.f58.body.map lc = some f58_c.st := by kernel_rfl
theorem f58_res : Try.f58.results.toList = [.tmp 2] := by kernel_rfl
theorem f58_nt : Try.f58.ntmps = 6 := by kernel_rfl
theorem f58_nm : (Try.f58.name == "runtime.NumGoroutine") = false := by kernel_rfl
/-! quill/num.name -/
def f59_r0 : List LOp := [
  ⟨some 2, .assign (.const (.bool false)), none⟩]
def f59_r1 : List LOp := [
  ⟨some 6, .move (.tmp 0), none⟩,
  ⟨some 7, .range 9 (.tmp 6), none⟩]
def f59_r2 : List LOp := [
  ⟨some 8, .next (.tmp 7) true, none⟩,
  ⟨some 9, .extract (.tmp 8) 0, none⟩]
def f59_r3 : List LOp := [
  ⟨some 10, .extract (.tmp 8) 1, none⟩,
  ⟨some 11, .extract (.tmp 8) 2, none⟩,
  ⟨some 3, .assign (.tmp 10), none⟩,
  ⟨some 4, .assign (.tmp 11), none⟩]
def f59_r4 : List LOp := [
  ⟨some 12, .move (.tmp 4), none⟩,
  ⟨some 13, .binOp .geq 21 (.tmp 12) (.const (.int .i32 97)) 21, none⟩,
  ⟨some 14, .move (.tmp 13), none⟩,
  ⟨some 15, .move (.tmp 4), some (2, true)⟩,
  ⟨some 16, .binOp .leq 21 (.tmp 15) (.const (.int .i32 122)) 21, some (2, true)⟩,
  ⟨some 17, .pick (.tmp 14) (.tmp 16) (.const (.bool false)), none⟩,
  ⟨some 5, .assign (.tmp 17), none⟩]
def f59_r5 : List LOp := [
  ⟨some 18, .move (.tmp 5), none⟩,
  ⟨some 19, .unOp .not 4 (.tmp 18), none⟩,
  ⟨some 20, .move (.tmp 19), none⟩,
  ⟨some 21, .move (.tmp 3), some (2, true)⟩,
  ⟨some 22, .binOp .eql 3 (.tmp 21) (.const (.int .i64 0)) 3, some (2, true)⟩,
  ⟨some 23, .move (.tmp 22), some (2, true)⟩,
  ⟨some 24, .move (.tmp 4), some (5, false)⟩,
  ⟨some 25, .binOp .neq 21 (.tmp 24) (.const (.int .i32 95)) 21, some (5, false)⟩,
  ⟨some 26, .move (.tmp 25), some (5, false)⟩,
  ⟨some 27, .move (.tmp 4), some (8, true)⟩,
  ⟨some 28, .binOp .lss 21 (.tmp 27) (.const (.int .i32 48)) 21, some (8, true)⟩,
  ⟨some 29, .move (.tmp 28), some (8, true)⟩,
  ⟨some 30, .move (.tmp 4), some (11, false)⟩,
  ⟨some 31, .binOp .gtr 21 (.tmp 30) (.const (.int .i32 57)) 21, some (11, false)⟩,
  ⟨some 32, .pick (.tmp 29) (.const (.bool true)) (.tmp 31), some (8, true)⟩,
  ⟨some 33, .pick (.tmp 26) (.tmp 32) (.const (.bool false)), some (5, false)⟩,
  ⟨some 34, .pick (.tmp 23) (.const (.bool true)) (.tmp 33), some (2, true)⟩,
  ⟨some 35, .pick (.tmp 20) (.tmp 34) (.const (.bool false)), none⟩]
def f59_r6 : List LOp := [
  ⟨some 2, .assign (.const (.bool false)), none⟩]
def f59_l7 : LC := (.seq (.reg f59_r2 [] none) (.seq (.cond (.tmp 9) .skip (.exit 0)) (.block 1 (.seq (.reg f59_r3 [] none) (.seq (.reg f59_r4 [] none) (.seq (.reg f59_r5 [] none) (.cond (.tmp 35) (.seq (.reg f59_r6 [] none) .ret) .skip)))))))
def f59_i7 (t0 t7 : D) : List D := [t0, .any, .any, .any, .any, .any, .any, t7, .any, .any, .any, .any, .any, .any, .any, .any, .any, .any, .any, .any, .any, .any, .any, .any, .any, .any, .any, .any, .any, .any, .any, .any, .any, .any, .any, .any, .any, .any, .any, .any, .any, .any, .any, .any]
def f59_r8 : List LOp := [
  ⟨some 36, .move (.tmp 0), none⟩,
  ⟨some 37, .call { callee := .builtin .len, args := #[.tmp 36], argTypes := #[9] }, none⟩,
  ⟨some 38, .binOp .geq 3 (.tmp 37) (.const (.int .i64 1)) 3, none⟩,
  ⟨some 39, .move (.tmp 38), none⟩,
  ⟨some 40, .move (.tmp 0), some (3, true)⟩,
  ⟨some 41, .call { callee := .builtin .len, args := #[.tmp 40], argTypes := #[9] }, some (3, true)⟩,
  ⟨some 42, .binOp .leq 3 (.tmp 41) (.const (.int .i64 30)) 3, some (3, true)⟩,
  ⟨some 43, .pick (.tmp 39) (.tmp 42) (.const (.bool false)), none⟩,
  ⟨some 2, .assign (.tmp 43), none⟩]
def f59_c : LC := (.seq (.reg f59_r0 [] none) (.seq (.seq (.reg f59_r1 [] none) (.block 0 (.loop f59_l7))) (.seq (.reg f59_r8 [] none) .ret)))
theorem f59_lc : Try.f59.body.map lc = some f59_c.st := by kernel_rfl
theorem f59_res : Try.f59.results.toList = [.tmp 2] := by kernel_rfl
theorem f59_nt : Try.f59.ntmps = 44 := by kernel_rfl
theorem f59_nm : (Try.f59.name == "runtime.NumGoroutine") = false := by kernel_rfl
/-! strings.Lines$1 -/
def f60_r0 : List LOp := [
  ⟨some 5, .load 9 (.tmp 1), none⟩,
  ⟨some 6, .call { callee := .builtin .len, args := #[.tmp 5], argTypes := #[9] }, none⟩,
  ⟨some 7, .binOp .gtr 3 (.tmp 6) (.const (.int .i64 0)) 3, none⟩]
def f60_r1 : List LOp := [
  ⟨some 3, .assign (.const (.string { data := #[] })), none⟩]
def f60_r2 : List LOp := [
  ⟨some 8, .load 9 (.tmp 1), none⟩,
  ⟨some 9, .call { callee := .value (.func 61), args := #[.tmp 8, .const (.int .u8 10)], argTypes := #[9, 5] }, none⟩,
  ⟨some 4, .assign (.tmp 9), none⟩]
def f60_r3 : List LOp := [
  ⟨some 10, .move (.tmp 4), none⟩,
  ⟨some 11, .binOp .geq 3 (.tmp 10) (.const (.int .i64 0)) 3, none⟩]
def f60_r4 : List LOp := [
  ⟨some 12, .load 9 (.tmp 1), none⟩,
  ⟨some 13, .move (.tmp 4), none⟩,
  ⟨some 14, .binOp .add 3 (.tmp 13) (.const (.int .i64 1)) 3, none⟩,
  ⟨some 15, .slice 9 (.tmp 12) none (some (.tmp 14)) none, none⟩,
  ⟨some 16, .load 9 (.tmp 1), none⟩,
  ⟨some 17, .move (.tmp 4), none⟩,
  ⟨some 18, .binOp .add 3 (.tmp 17) (.const (.int .i64 1)) 3, none⟩,
  ⟨some 19, .slice 9 (.tmp 16) (some (.tmp 18)) none none, none⟩,
  ⟨some 3, .assign (.tmp 15), none⟩,
  ⟨none, .store 9 (.tmp 1) (.tmp 19), none⟩]
def f60_r5 : List LOp := [
  ⟨some 20, .load 9 (.tmp 1), none⟩,
  ⟨some 3, .assign (.tmp 20), none⟩,
  ⟨none, .store 9 (.tmp 1) (.const (.string { data := #[] })), none⟩]
def f60_r6 : List LOp := [
  ⟨some 21, .move (.tmp 0), none⟩,
  ⟨some 22, .move (.tmp 3), none⟩,
  ⟨some 23, .call { callee := .value (.tmp 21), args := #[.tmp 22], argTypes := #[9] }, none⟩,
  ⟨some 24, .unOp .not 4 (.tmp 23), none⟩]
def f60_l7 : LC := (.seq (.seq (.reg f60_r0 [] none) (.cond (.tmp 7) .skip (.exit 0))) (.block 1 (.seq (.reg f60_r1 [] none) (.seq (.seq (.reg f60_r2 [] none) (.seq (.reg f60_r3 [] none) (.cond (.tmp 11) (.regp f60_r4 [] [1, 2, 5, 6] 9) (.reg f60_r5 [] none)))) (.seq (.reg f60_r6 [] none) (.cond (.tmp 24) .ret .skip))))))
def f60_i7 (t0 t1 : D) : List D := [t0, t1, .any, .any, .any, .any, .any, .any, .any, .any, .any, .any, .any, .any, .any, .any, .any, .any, .any, .any, .any, .any, .any, .any, .any]
def f60_c : LC := (.block 0 (.loop f60_l7))
theorem f60_lc : Try.f60.body.map lc = some f60_c.st := by kernel_rfl
theorem f60_res : Try.f60.results.toList = [] := by kernel_rfl
theorem f60_nt : Try.f60.ntmps = 25 := by kernel_rfl
theorem f60_nm : (Try.f60.name == "runtime.NumGoroutine") = false := by kernel_rfl
/-! strings.IndexByte -/
def f61_r0 : List LOp := [
  ⟨some 4, .assign (.const (.int .i64 0)), none⟩]
def f61_r1 : List LOp := [
  ⟨some 5, .move (.tmp 0), none⟩,
  ⟨some 6, .move (.tmp 1), none⟩,
  ⟨some 7, .call { callee := .value (.func 75), args := #[.tmp 5, .tmp 6], argTypes := #[9, 5] }, none⟩,
  ⟨some 4, .assign (.tmp 7), none⟩]
def f61_c : LC := (.seq (.reg f61_r0 [] none) (.seq (.reg f61_r1 [] none) .ret))
theorem f61_lc : Try.f61.body.map lc = some f61_c.st := by kernel_rfl
theorem f61_res : Try.f61.results.toList = [.tmp 4] := by kernel_rfl
theorem f61_nt : Try.f61.ntmps = 8 := by kernel_rfl
theorem f61_nm : (Try.f61.name == "runtime.NumGoroutine") = false := by kernel_rfl
/-! internal/stringslite.CutSuffix -/
def f62_r0 : List LOp := [
  ⟨some 4, .assign (.const (.string { data := #[] })), none⟩,
  ⟨some 5, .assign (.const (.bool false)), none⟩]
def f62_r1 : List LOp := [
  ⟨some 6, .move (.tmp 0), none⟩,
  ⟨some 7, .move (.tmp 1), none⟩,
  ⟨some 8, .call { callee := .value (.func 76), args := #[.tmp 6, .tmp 7], argTypes := #[9, 9] }, none⟩,
  ⟨some 9, .unOp .not 4 (.tmp 8), none⟩]
def f62_r2 : List LOp := [
  ⟨some 10, .move (.tmp 0), none⟩,
  ⟨some 4, .assign (.tmp 10), none⟩,
  ⟨some 5, .assign (.const (.bool false)), none⟩]
def f62_r3 : List LOp := [
  ⟨some 11, .move (.tmp 0), none⟩,
  ⟨some 12, .move (.tmp 0), none⟩,
  ⟨some 13, .call { callee := .builtin .len, args := #[.tmp 12], argTypes := #[9] }, none⟩,
  ⟨some 14, .move (.tmp 1), none⟩,
  ⟨some 15, .call { callee := .builtin .len, args := #[.tmp 14], argTypes := #[9] }, none⟩,
  ⟨some 16, .binOp .sub 3 (.tmp 13) (.tmp 15) 3, none⟩,
  ⟨some 17, .slice 9 (.tmp 11) none (some (.tmp 16)) none, none⟩,
  ⟨some 4, .assign (.tmp 17), none⟩,
  ⟨some 5, .assign (.const (.bool true)), none⟩]
def f62_c : LC := (.seq (.reg f62_r0 [] none) (.seq (.seq (.reg f62_r1 [] none) (.cond (.tmp 9) (.seq (.reg f62_r2 [] none) .ret) .skip)) (.seq (.reg f62_r3 [] none) .ret)))
theorem f62_lc : Try.f62.body.map lc = some f62_c.st := by kernel_rfl
theorem f62_res : Try.f62.results.toList = [.tmp 4, .tmp 5] := by kernel_rfl
theorem f62_nt : Try.f62.ntmps = 18 := by kernel_rfl
theorem f62_nm : (Try.f62.name == "runtime.NumGoroutine") = false := by kernel_rfl
/-! internal/stringslite.Cut -/
/-! slices.Index[[]string,string] -/
def f64_r0 : List LOp := [
  ⟨some 4, .assign (.const (.int .i64 0)), none⟩]
def f64_r1 : List LOp := [
  ⟨some 6, .move (.tmp 0), none⟩,
  ⟨some 7, .call { callee := .builtin .len, args := #[.tmp 6], argTypes := #[22] }, none⟩,
  ⟨some 8, .move (.const (.int .i64 0)), none⟩]
def f64_r2 : List LOp := [
  ⟨some 9, .binOp .lss 3 (.tmp 8) (.tmp 7) 3, none⟩]
def f64_r3 : List LOp := [
  ⟨some 10, .move (.tmp 8), none⟩,
  ⟨some 5, .assign (.tmp 10), none⟩]
def f64_r4 : List LOp := [
  ⟨some 11, .move (.tmp 1), none⟩,
  ⟨some 12, .move (.tmp 0), none⟩,
  ⟨some 13, .move (.tmp 5), none⟩,
  ⟨some 14, .indexAddr 22 (.tmp 12) (.tmp 13), none⟩,
  ⟨some 15, .load 9 (.tmp 14), none⟩,
  ⟨some 16, .binOp .eql 9 (.tmp 11) (.tmp 15) 9, none⟩]
def f64_r5 : List LOp := [
  ⟨some 17, .move (.tmp 5), none⟩,
  ⟨some 4, .assign (.tmp 17), none⟩]
def f64_r6 : List LOp := [
  ⟨some 18, .binOp .add 3 (.tmp 8) (.const (.int .i64 1)) 3, none⟩,
  ⟨some 8, .move (.tmp 18), none⟩]
def f64_l7 : LC := (.seq (.reg f64_r2 [] none) (.seq (.cond (.tmp 9) .skip (.exit 0)) (.seq (.block 1 (.seq (.reg f64_r3 [] none) (.seq (.reg f64_r4 [] none) (.cond (.tmp 16) (.seq (.reg f64_r5 [] none) .ret) .skip)))) (.reg f64_r6 [] none))))
def f64_i7 (t0 t1 t7 t8 : D) : List D := [t0, t1, .any, .any, .any, .any, .any, t7, t8, .any, .any, .any, .any, .any, .any, .any, .any, .any, .any]
def f64_r8 : List LOp := [
  ⟨some 4, .assign (.const (.int .i64 (-1))), none⟩]
def f64_c : LC := (.seq (.reg f64_r0 [] none) (.seq (.seq (.reg f64_r1 [] none) (.block 0 (.loop f64_l7))) (.seq (.reg f64_r8 [] none) .ret)))
theorem f64_lc : Try.f64.body.map lc = some f64_c.st := by kernel_rfl
theorem f64_res : Try.f64.results.toList = [.tmp 4] := by kernel_rfl
theorem f64_nt : Try.f64.ntmps = 19 := by kernel_rfl
theorem f64_nm : (Try.f64.name == "runtime.NumGoroutine") = false := by kernel_rfl
/-! slices.Index[[]uint8,uint8] -/
def f66_r0 : List LOp := [
  ⟨some 4, .assign (.const (.int .i64 0)), none⟩]
def f66_r1 : List LOp := [
  ⟨some 6, .move (.tmp 0), none⟩,
  ⟨some 7, .call { callee := .builtin .len, args := #[.tmp 6], argTypes := #[62] }, none⟩,
  ⟨some 8, .move (.const (.int .i64 0)), none⟩]
def f66_r2 : List LOp := [
  ⟨some 9, .binOp .lss 3 (.tmp 8) (.tmp 7) 3, none⟩]
def f66_r3 : List LOp := [
  ⟨some 10, .move (.tmp 8), none⟩,
  ⟨some 5, .assign (.tmp 10), none⟩]
def f66_r4 : List LOp := [
  ⟨some 11, .move (.tmp 1), none⟩,
  ⟨some 12, .move (.tmp 0), none⟩,
  ⟨some 13, .move (.tmp 5), none⟩,
  ⟨some 14, .indexAddr 62 (.tmp 12) (.tmp 13), none⟩,
  ⟨some 15, .load 5 (.tmp 14), none⟩,
  ⟨some 16, .binOp .eql 5 (.tmp 11) (.tmp 15) 5, none⟩]
def f66_r5 : List LOp := [
  ⟨some 17, .move (.tmp 5), none⟩,
  ⟨some 4, .assign (.tmp 17), none⟩]
def f66_r6 : List LOp := [
  ⟨some 18, .binOp .add 3 (.tmp 8) (.const (.int .i64 1)) 3, none⟩,
  ⟨some 8, .move (.tmp 18), none⟩]
def f66_l7 : LC := (.seq (.reg f66_r2 [] none) (.seq (.cond (.tmp 9) .skip (.exit 0)) (.seq (.block 1 (.seq (.reg f66_r3 [] none) (.seq (.reg f66_r4 [] none) (.cond (.tmp 16) (.seq (.reg f66_r5 [] none) .ret) .skip)))) (.reg f66_r6 [] none))))
def f66_i7 (t0 t1 t7 t8 : D) : List D := [t0, t1, .any, .any, .any, .any, .any, t7, t8, .any, .any, .any, .any, .any, .any, .any, .any, .any, .any]
def f66_r8 : List LOp := [
  ⟨some 4, .assign (.const (.int .i64 (-1))), none⟩]
def f66_c : LC := (.seq (.reg f66_r0 [] none) (.seq (.seq (.reg f66_r1 [] none) (.block 0 (.loop f66_l7))) (.seq (.reg f66_r8 [] none) .ret)))
theorem f66_lc : Try.f66.body.map lc = some f66_c.st := by kernel_rfl
theorem f66_res : Try.f66.results.toList = [.tmp 4] := by kernel_rfl
theorem f66_nt : Try.f66.ntmps = 19 := by kernel_rfl
theorem f66_nm : (Try.f66.name == "runtime.NumGoroutine") = false := by kernel_rfl
/-! slices.IndexFunc[[]quill/api.Cf,quill/api.Cf] -/
def f67_r0 : List LOp := [
  ⟨some 4, .assign (.const (.int .i64 0)), none⟩]
def f67_r1 : List LOp := [
  ⟨some 6, .move (.tmp 0), none⟩,
  ⟨some 7, .call { callee := .builtin .len, args := #[.tmp 6], argTypes := #[28] }, none⟩,
  ⟨some 8, .move (.const (.int .i64 0)), none⟩]
def f67_r2 : List LOp := [
  ⟨some 9, .binOp .lss 3 (.tmp 8) (.tmp 7) 3, none⟩]
def f67_r3 : List LOp := [
  ⟨some 10, .move (.tmp 8), none⟩,
  ⟨some 5, .assign (.tmp 10), none⟩]
def f67_r4 : List LOp := [
  ⟨some 11, .move (.tmp 1), none⟩,
  ⟨some 12, .move (.tmp 0), none⟩,
  ⟨some 13, .move (.tmp 5), none⟩,
  ⟨some 14, .indexAddr 28 (.tmp 12) (.tmp 13), none⟩,
  ⟨some 15, .load 30 (.tmp 14), none⟩,
  ⟨some 16, .call { callee := .value (.tmp 11), args := #[.tmp 15], argTypes := #[30] }, none⟩]
def f67_r5 : List LOp := [
  ⟨some 17, .move (.tmp 5), none⟩,
  ⟨some 4, .assign (.tmp 17), none⟩]
def f67_r6 : List LOp := [
  ⟨some 18, .binOp .add 3 (.tmp 8) (.const (.int .i64 1)) 3, none⟩,
  ⟨some 8, .move (.tmp 18), none⟩]
def f67_l7 : LC := (.seq (.reg f67_r2 [] none) (.seq (.cond (.tmp 9) .skip (.exit 0)) (.seq (.block 1 (.seq (.reg f67_r3 [] none) (.seq (.reg f67_r4 [] none) (.cond (.tmp 16) (.seq (.reg f67_r5 [] none) .ret) .skip)))) (.reg f67_r6 [] none))))
def f67_i7 (t0 t1 t7 t8 : D) : List D := [t0, t1, .any, .any, .any, .any, .any, t7, t8, .any, .any, .any, .any, .any, .any, .any, .any, .any, .any]
def f67_r8 : List LOp := [
  ⟨some 4, .assign (.const (.int .i64 (-1))), none⟩]
def f67_c : LC := (.seq (.reg f67_r0 [] none) (.seq (.seq (.reg f67_r1 [] none) (.block 0 (.loop f67_l7))) (.seq (.reg f67_r8 [] none) .ret)))
theorem f67_lc : Try.f67.body.map lc = some f67_c.st := by kernel_rfl
theorem f67_res : Try.f67.results.toList = [.tmp 4] := by kernel_rfl
theorem f67_nt : Try.f67.ntmps = 19 := by kernel_rfl
theorem f67_nm : (Try.f67.name == "runtime.NumGoroutine") = false := by kernel_rfl
/-! (*quill/cfx.reader).atom -/
def f68_r0 : List LOp := [
  ⟨some 2, .alloc 30, none⟩]
def f68_r1 : List LOp := [
  ⟨some 5, .move (.tmp 0), none⟩,
  ⟨some 6, .call { callee := .value (.func 52), args := #[.tmp 5, .const (.int .u8 91)], argTypes := #[47, 5] }, none⟩,
  ⟨some 4, .assign (.tmp 6), none⟩]
def f68_r2 : List LOp := [
  ⟨some 7, .move (.tmp 0), none⟩,
  ⟨some 8, .nilCheck (.tmp 7), none⟩,
  ⟨some 9, .fieldAddr 50 (.tmp 8) 1, none⟩,
  ⟨some 10, .load 3 (.tmp 9), none⟩,
  ⟨some 11, .binOp .add 3 (.tmp 10) (.const (.int .i64 1)) 3, none⟩,
  ⟨some 12, .nilCheck (.tmp 7), none⟩,
  ⟨some 13, .fieldAddr 50 (.tmp 12) 1, none⟩,
  ⟨none, .store 3 (.tmp 13) (.tmp 11), none⟩]
def f68_r3 : List LOp := [
  ⟨some 14, .move (.tmp 0), none⟩,
  ⟨some 15, .call { callee := .value (.func 78), args := #[.tmp 14, .const (.int .u8 93)], argTypes := #[47, 5] }, none⟩]
def f68_r4 : List LOp := [
  ⟨some 16, .build 30 #[(0, .const (.int .u8 1))], none⟩,
  ⟨none, .store 30 (.tmp 2) (.tmp 16), none⟩]
def f68_r5 : List LOp := [
  ⟨some 18, .move (.tmp 0), none⟩,
  ⟨some 19, .call { callee := .value (.func 52), args := #[.tmp 18, .const (.int .u8 40)], argTypes := #[47, 5] }, none⟩,
  ⟨some 17, .assign (.tmp 19), none⟩]
def f68_r6 : List LOp := [
  ⟨some 20, .move (.tmp 0), none⟩,
  ⟨some 21, .nilCheck (.tmp 20), none⟩,
  ⟨some 22, .fieldAddr 50 (.tmp 21) 1, none⟩,
  ⟨some 23, .load 3 (.tmp 22), none⟩,
  ⟨some 24, .binOp .add 3 (.tmp 23) (.const (.int .i64 1)) 3, none⟩,
  ⟨some 25, .nilCheck (.tmp 20), none⟩,
  ⟨some 26, .fieldAddr 50 (.tmp 25) 1, none⟩,
  ⟨none, .store 3 (.tmp 26) (.tmp 24), none⟩]
def f68_r7 : List LOp := [
  ⟨some 27, .move (.tmp 0), none⟩,
  ⟨some 28, .call { callee := .value (.func 52), args := #[.tmp 27, .const (.int .u8 41)], argTypes := #[47, 5] }, none⟩]
def f68_r8 : List LOp := [
  ⟨some 29, .move (.tmp 0), none⟩,
  ⟨some 30, .nilCheck (.tmp 29), none⟩,
  ⟨some 31, .fieldAddr 50 (.tmp 30) 1, none⟩,
  ⟨some 32, .load 3 (.tmp 31), none⟩,
  ⟨some 33, .binOp .add 3 (.tmp 32) (.const (.int .i64 1)) 3, none⟩,
  ⟨some 34, .nilCheck (.tmp 29), none⟩,
  ⟨some 35, .fieldAddr 50 (.tmp 34) 1, none⟩,
  ⟨none, .store 3 (.tmp 35) (.tmp 33), none⟩]
def f68_r9 : List LOp := [
  ⟨some 36, .build 30 #[(0, .const (.int .u8 2))], none⟩,
  ⟨none, .store 30 (.tmp 2) (.tmp 36), none⟩]
def f68_r10 : List LOp := [
  ⟨some 37, .move (.tmp 0), none⟩,
  ⟨some 38, .call { callee := .value (.func 34), args := #[.tmp 37], argTypes := #[47] }, none⟩,
  ⟨some 3, .alloc 30, none⟩,
  ⟨none, .store 30 (.tmp 3) (.tmp 38), none⟩]
def f68_r11 : List LOp := [
  ⟨some 39, .move (.tmp 0), none⟩,
  ⟨some 40, .call { callee := .value (.func 78), args := #[.tmp 39, .const (.int .u8 41)], argTypes := #[47, 5] }, none⟩]
def f68_r12 : List LOp := [
  ⟨some 41, .load 30 (.tmp 3), none⟩,
  ⟨none, .store 30 (.tmp 2) (.tmp 41), none⟩]
def f68_r13 : List LOp := [
  ⟨some 42, .move (.tmp 0), none⟩,
  ⟨some 43, .call { callee := .value (.func 79), args := #[.tmp 42], argTypes := #[47] }, none⟩,
  ⟨none, .store 30 (.tmp 2) (.tmp 43), none⟩]
def f68_c : LC := (.seq (.reg f68_r0 [] none) (.seq (.block 0 (.seq (.reg f68_r1 [] none) (.cond (.tmp 4) (.seq (.reg f68_r2 [] none) (.seq (.reg f68_r3 [] none) (.seq (.reg f68_r4 [] none) .ret))) (.seq (.reg f68_r5 [] none) (.cond (.tmp 17) (.seq (.reg f68_r6 [] none) (.seq (.seq (.reg f68_r7 [] none) (.cond (.tmp 28) (.seq (.reg f68_r8 [] none) (.seq (.reg f68_r9 [] none) .ret)) .skip)) (.seq (.reg f68_r10 [] none) (.seq (.reg f68_r11 [] none) (.seq (.reg f68_r12 [] none) .ret))))) .skip))))) (.seq (.reg f68_r13 [] none) .ret)))
theorem f68_lc : Try.f68.body.map lc = some f68_c.st := by kernel_rfl
theorem f68_res : Try.f68.results.toList = [.cell 2 30] := by kernel_rfl
theorem f68_nt : Try.f68.ntmps = 44 := by kernel_rfl
theorem f68_nm : (Try.f68.name == "runtime.NumGoroutine") = false := by kernel_rfl
/-! (*quill/cfx.reader).named -/
def f69_r0 : List LOp := [
  ⟨some 2, .assign (.const (.bool false)), none⟩]
def f69_r1 : List LOp := [
  ⟨some 3, .move (.tmp 0), none⟩,
  ⟨some 4, .call { callee := .value (.func 35), args := #[.tmp 3], argTypes := #[47] }, none⟩]
def f69_r2 : List LOp := [
  ⟨some 5, .move (.tmp 0), none⟩,
  ⟨some 6, .nilCheck (.tmp 5), none⟩,
  ⟨some 7, .fieldAddr 50 (.tmp 6) 1, none⟩,
  ⟨some 8, .load 3 (.tmp 7), none⟩,
  ⟨some 9, .move (.tmp 0), none⟩,
  ⟨some 10, .nilCheck (.tmp 9), none⟩,
  ⟨some 11, .fieldAddr 50 (.tmp 10) 0, none⟩,
  ⟨some 12, .load 9 (.tmp 11), none⟩,
  ⟨some 13, .call { callee := .builtin .len, args := #[.tmp 12], argTypes := #[9] }, none⟩,
  ⟨some 14, .binOp .lss 3 (.tmp 8) (.tmp 13) 3, none⟩,
  ⟨some 15, .move (.tmp 14), none⟩,
  ⟨some 16, .move (.tmp 0), some (10, true)⟩,
  ⟨some 17, .nilCheck (.tmp 16), some (10, true)⟩,
  ⟨some 18, .fieldAddr 50 (.tmp 17) 0, some (10, true)⟩,
  ⟨some 19, .load 9 (.tmp 18), some (10, true)⟩,
  ⟨some 20, .move (.tmp 0), some (10, true)⟩,
  ⟨some 21, .nilCheck (.tmp 20), some (10, true)⟩,
  ⟨some 22, .fieldAddr 50 (.tmp 21) 1, some (10, true)⟩,
  ⟨some 23, .load 3 (.tmp 22), some (10, true)⟩,
  ⟨some 24, .index 9 (.tmp 19) (.tmp 23), some (10, true)⟩,
  ⟨some 25, .binOp .geq 5 (.tmp 24) (.const (.int .u8 97)) 5, some (10, true)⟩,
  ⟨some 26, .pick (.tmp 15) (.tmp 25) (.const (.bool false)), none⟩,
  ⟨some 27, .move (.tmp 26), none⟩,
  ⟨some 28, .move (.tmp 0), some (22, true)⟩,
  ⟨some 29, .nilCheck (.tmp 28), some (22, true)⟩,
  ⟨some 30, .fieldAddr 50 (.tmp 29) 0, some (22, true)⟩,
  ⟨some 31, .load 9 (.tmp 30), some (22, true)⟩,
  ⟨some 32, .move (.tmp 0), some (22, true)⟩,
  ⟨some 33, .nilCheck (.tmp 32), some (22, true)⟩,
  ⟨some 34, .fieldAddr 50 (.tmp 33) 1, some (22, true)⟩,
  ⟨some 35, .load 3 (.tmp 34), some (22, true)⟩,
  ⟨some 36, .index 9 (.tmp 31) (.tmp 35), some (22, true)⟩,
  ⟨some 37, .binOp .leq 5 (.tmp 36) (.const (.int .u8 122)) 5, some (22, true)⟩,
  ⟨some 38, .pick (.tmp 27) (.tmp 37) (.const (.bool false)), none⟩,
  ⟨some 2, .assign (.tmp 38), none⟩]
def f69_c : LC := (.seq (.reg f69_r0 [] none) (.seq (.reg f69_r1 [] none) (.seq (.reg f69_r2 [] (some 34)) .ret)))
theorem f69_lc : Try.f69.body.map lc = some f69_c.st := by kernel_rfl
theorem f69_res : Try.f69.results.toList = [.tmp 2] := by kernel_rfl
theorem f69_nt : Try.f69.ntmps = 39 := by kernel_rfl
theorem f69_nm : (Try.f69.name == "runtime.NumGoroutine") = false := by kernel_rfl
/-! slices.Backward[[]quill/api.Cf,quill/api.Cf] -/
def f70_r0 : List LOp := [
  ⟨some 1, .box 28 (.tmp 0), none⟩,
  ⟨some 2, .assign (.const .nilFunc), none⟩]
def f70_r1 : List LOp := [
  ⟨some 3, .makeFunc (.func 80) #[] #[.tmp 1], none⟩,
  ⟨some 2, .assign (.tmp 3), none⟩]
def f70_c : LC := (.seq (.reg f70_r0 [] none) (.seq (.reg f70_r1 [] none) .ret))
theorem f70_lc : Try.f70.body.map lc = some f70_c.st := by kernel_rfl
theorem f70_res : Try.f70.results.toList = [.tmp 2] := by kernel_rfl
theorem f70_nt : Try.f70.ntmps = 4 := by kernel_rfl
theorem f70_nm : (Try.f70.name == "runtime.NumGoroutine") = false := by kernel_rfl
/-! slices.AppendSeq[[]string,string] -/
def f71_r0 : List LOp := [
  ⟨some 2, .box 22 (.tmp 0), none⟩,
  ⟨some 4, .assign (.const (.slice none 0 0)), none⟩]
def f71_r1 : List LOp := [
  ⟨some 6, .move (.tmp 1), none⟩]
def f71_r2 : List LOp := [
  ⟨some 5, .assign (.tmp 7), none⟩]
def f71_r3 : List LOp := [
  ⟨some 8, .load 22 (.tmp 2), none⟩,
  ⟨some 9, .move (.tmp 5), none⟩,
  ⟨some 10, .buildSlice 22 1 #[(0, .tmp 9)], none⟩,
  ⟨some 11, .call { callee := .builtin .append, args := #[.tmp 8, .tmp 10], argTypes := #[22, 22] }, none⟩,
  ⟨none, .store 22 (.tmp 2) (.tmp 11), none⟩]
def f71_a4 : LC := (.reg f71_r2 [] none)
def f71_b4 : LC := (.block 1 (.reg f71_r3 [] none))
def f71_r5 : List LOp := [
  ⟨some 12, .load 22 (.tmp 2), none⟩,
  ⟨some 4, .assign (.tmp 12), none⟩]
def f71_c : LC := (.seq (.reg f71_r0 [0] none) (.seq (.seq (.reg f71_r1 [] none) (.block 0 (.rfun (.tmp 6) [7] f71_a4 f71_b4))) (.seq (.reg f71_r5 [] none) .ret)))
theorem f71_lc : Try.f71.body.map lc = some f71_c.st := by kernel_rfl
theorem f71_res : Try.f71.results.toList = [.tmp 4] := by kernel_rfl
theorem f71_nt : Try.f71.ntmps = 13 := by kernel_rfl
theorem f71_nm : (Try.f71.name == "runtime.NumGoroutine") = false := by kernel_rfl
/-! slices.IndexFunc[[]string,string] -/
def f74_r0 : List LOp := [
  ⟨some 4, .assign (.const (.int .i64 0)), none⟩]
def f74_r1 : List LOp := [
  ⟨some 6, .move (.tmp 0), none⟩,
  ⟨some 7, .call { callee := .builtin .len, args := #[.tmp 6], argTypes := #[22] }, none⟩,
  ⟨some 8, .move (.const (.int .i64 0)), none⟩]
def f74_r2 : List LOp := [
  ⟨some 9, .binOp .lss 3 (.tmp 8) (.tmp 7) 3, none⟩]
def f74_r3 : List LOp := [
  ⟨some 10, .move (.tmp 8), none⟩,
  ⟨some 5, .assign (.tmp 10), none⟩]
def f74_r4 : List LOp := [
  ⟨some 11, .move (.tmp 1), none⟩,
  ⟨some 12, .move (.tmp 0), none⟩,
  ⟨some 13, .move (.tmp 5), none⟩,
  ⟨some 14, .indexAddr 22 (.tmp 12) (.tmp 13), none⟩,
  ⟨some 15, .load 9 (.tmp 14), none⟩,
  ⟨some 16, .call { callee := .value (.tmp 11), args := #[.tmp 15], argTypes := #[9] }, none⟩]
def f74_r5 : List LOp := [
  ⟨some 17, .move (.tmp 5), none⟩,
  ⟨some 4, .assign (.tmp 17), none⟩]
def f74_r6 : List LOp := [
  ⟨some 18, .binOp .add 3 (.tmp 8) (.const (.int .i64 1)) 3, none⟩,
  ⟨some 8, .move (.tmp 18), none⟩]
def f74_l7 : LC := (.seq (.reg f74_r2 [] none) (.seq (.cond (.tmp 9) .skip (.exit 0)) (.seq (.block 1 (.seq (.reg f74_r3 [] none) (.seq (.reg f74_r4 [] none) (.cond (.tmp 16) (.seq (.reg f74_r5 [] none) .ret) .skip)))) (.reg f74_r6 [] none))))
def f74_i7 (t0 t1 t7 t8 : D) : List D := [t0, t1, .any, .any, .any, .any, .any, t7, t8, .any, .any, .any, .any, .any, .any, .any, .any, .any, .any]
def f74_r8 : List LOp := [
  ⟨some 4, .assign (.const (.int .i64 (-1))), none⟩]
def f74_c : LC := (.seq (.reg f74_r0 [] none) (.seq (.seq (.reg f74_r1 [] none) (.block 0 (.loop f74_l7))) (.seq (.reg f74_r8 [] none) .ret)))
theorem f74_lc : Try.f74.body.map lc = some f74_c.st := by kernel_rfl
theorem f74_res : Try.f74.results.toList = [.tmp 4] := by kernel_rfl
theorem f74_nt : Try.f74.ntmps = 19 := by kernel_rfl
theorem f74_nm : (Try.f74.name == "runtime.NumGoroutine") = false := by kernel_rfl
/-! internal/stringslite.IndexByte -/
/-! internal/stringslite.HasSuffix -/
def f76_r0 : List LOp := [
  ⟨some 4, .assign (.const (.bool false)), none⟩]
def f76_r1 : List LOp := [
  ⟨some 5, .move (.tmp 0), none⟩,
  ⟨some 6, .call { callee := .builtin .len, args := #[.tmp 5], argTypes := #[9] }, none⟩,
  ⟨some 7, .move (.tmp 1), none⟩,
  ⟨some 8, .call { callee := .builtin .len, args := #[.tmp 7], argTypes := #[9] }, none⟩,
  ⟨some 9, .binOp .geq 3 (.tmp 6) (.tmp 8) 3, none⟩,
  ⟨some 10, .move (.tmp 9), none⟩,
  ⟨some 11, .move (.tmp 0), some (5, true)⟩,
  ⟨some 12, .move (.tmp 0), some (5, true)⟩,
  ⟨some 13, .call { callee := .builtin .len, args := #[.tmp 12], argTypes := #[9] }, some (5, true)⟩,
  ⟨some 14, .move (.tmp 1), some (5, true)⟩,
  ⟨some 15, .call { callee := .builtin .len, args := #[.tmp 14], argTypes := #[9] }, some (5, true)⟩,
  ⟨some 16, .binOp .sub 3 (.tmp 13) (.tmp 15) 3, some (5, true)⟩,
  ⟨some 17, .slice 9 (.tmp 11) (some (.tmp 16)) none none, some (5, true)⟩,
  ⟨some 18, .move (.tmp 1), some (5, true)⟩,
  ⟨some 19, .binOp .eql 9 (.tmp 17) (.tmp 18) 9, some (5, true)⟩,
  ⟨some 20, .pick (.tmp 10) (.tmp 19) (.const (.bool false)), none⟩,
  ⟨some 4, .assign (.tmp 20), none⟩]
def f76_c : LC := (.seq (.reg f76_r0 [] none) (.seq (.reg f76_r1 [] none) .ret))
theorem f76_lc : Try.f76.body.map lc = some f76_c.st := by kernel_rfl
theorem f76_res : Try.f76.results.toList = [.tmp 4] := by kernel_rfl
theorem f76_nt : Try.f76.ntmps = 21 := by kernel_rfl
theorem f76_nm : (Try.f76.name == "runtime.NumGoroutine") = false := by kernel_rfl
/-! internal/stringslite.Index -/
/-! (*quill/cfx.reader).eat -/
def f78_r0 : List LOp := [
  ⟨some 4, .move (.tmp 0), none⟩,
  ⟨some 5, .move (.tmp 1), none⟩,
  ⟨some 6, .call { callee := .value (.func 52), args := #[.tmp 4, .tmp 5], argTypes := #[47, 5] }, none⟩,
  ⟨some 7, .unOp .not 4 (.tmp 6), none⟩]
def f78_r1 : List LOp := [
  ⟨some 8, .move (.tmp 0), none⟩,
  ⟨some 9, .move (.tmp 0), none⟩,
  ⟨some 10, .nilCheck (.tmp 9), none⟩,
  ⟨some 11, .fieldAddr 50 (.tmp 10) 1, none⟩,
  ⟨some 12, .load 3 (.tmp 11), none⟩,
  ⟨some 13, .call { callee := .value (.func 36), args := #[.tmp 8, .tmp 12, .const (.int .i64 2)], argTypes := #[47, 3, 31] }, none⟩]
def f78_r2 : List LOp := [
  ⟨some 14, .move (.tmp 0), none⟩,
  ⟨some 15, .nilCheck (.tmp 14), none⟩,
  ⟨some 16, .fieldAddr 50 (.tmp 15) 1, none⟩,
  ⟨some 17, .load 3 (.tmp 16), none⟩,
  ⟨some 18, .binOp .add 3 (.tmp 17) (.const (.int .i64 1)) 3, none⟩,
  ⟨some 19, .nilCheck (.tmp 14), none⟩,
  ⟨some 20, .fieldAddr 50 (.tmp 19) 1, none⟩,
  ⟨none, .store 3 (.tmp 20) (.tmp 18), none⟩]
def f78_c : LC := (.seq (.seq (.reg f78_r0 [] none) (.cond (.tmp 7) (.reg f78_r1 [] none) .skip)) (.reg f78_r2 [] none))
theorem f78_lc : Try.f78.body.map lc = some f78_c.st := by kernel_rfl
theorem f78_res : Try.f78.results.toList = [] := by kernel_rfl
theorem f78_nt : Try.f78.ntmps = 21 := by kernel_rfl
theorem f78_nm : (Try.f78.name == "runtime.NumGoroutine") = false := by kernel_rfl
/-! (*quill/cfx.reader).name -/
def f79_r0 : List LOp := [
  ⟨some 2, .alloc 30, none⟩]
def f79_r1 : List LOp := [
  ⟨some 7, .move (.tmp 0), none⟩,
  ⟨some 8, .call { callee := .value (.func 69), args := #[.tmp 7], argTypes := #[47] }, none⟩,
  ⟨some 9, .unOp .not 4 (.tmp 8), none⟩]
def f79_r2 : List LOp := [
  ⟨some 10, .move (.tmp 0), none⟩,
  ⟨some 11, .move (.tmp 0), none⟩,
  ⟨some 12, .nilCheck (.tmp 11), none⟩,
  ⟨some 13, .fieldAddr 50 (.tmp 12) 1, none⟩,
  ⟨some 14, .load 3 (.tmp 13), none⟩,
  ⟨some 15, .call { callee := .value (.func 36), args := #[.tmp 10, .tmp 14, .const (.int .i64 2)], argTypes := #[47, 3, 31] }, none⟩]
def f79_r3 : List LOp := [
  ⟨some 16, .move (.tmp 0), none⟩,
  ⟨some 17, .nilCheck (.tmp 16), none⟩,
  ⟨some 18, .fieldAddr 50 (.tmp 17) 1, none⟩,
  ⟨some 19, .load 3 (.tmp 18), none⟩,
  ⟨some 3, .assign (.tmp 19), none⟩]
def f79_r4 : List LOp := [
  ⟨some 20, .move (.tmp 0), none⟩,
  ⟨some 21, .nilCheck (.tmp 20), none⟩,
  ⟨some 22, .fieldAddr 50 (.tmp 21) 1, none⟩,
  ⟨some 23, .load 3 (.tmp 22), none⟩,
  ⟨some 24, .move (.tmp 0), none⟩,
  ⟨some 25, .nilCheck (.tmp 24), none⟩,
  ⟨some 26, .fieldAddr 50 (.tmp 25) 0, none⟩,
  ⟨some 27, .load 9 (.tmp 26), none⟩,
  ⟨some 28, .call { callee := .builtin .len, args := #[.tmp 27], argTypes := #[9] }, none⟩,
  ⟨some 29, .binOp .lss 3 (.tmp 23) (.tmp 28) 3, none⟩,
  ⟨some 30, .move (.tmp 29), none⟩,
  ⟨some 31, .move (.tmp 0), some (10, true)⟩,
  ⟨some 32, .nilCheck (.tmp 31), some (10, true)⟩,
  ⟨some 33, .fieldAddr 50 (.tmp 32) 0, some (10, true)⟩,
  ⟨some 34, .load 9 (.tmp 33), some (10, true)⟩,
  ⟨some 35, .move (.tmp 0), some (10, true)⟩,
  ⟨some 36, .nilCheck (.tmp 35), some (10, true)⟩,
  ⟨some 37, .fieldAddr 50 (.tmp 36) 1, some (10, true)⟩,
  ⟨some 38, .load 3 (.tmp 37), some (10, true)⟩,
  ⟨some 39, .index 9 (.tmp 34) (.tmp 38), some (10, true)⟩,
  ⟨some 40, .call { callee := .value (.func 96), args := #[.tmp 39], argTypes := #[5] }, some (10, true)⟩,
  ⟨some 41, .pick (.tmp 30) (.tmp 40) (.const (.bool false)), none⟩]
def f79_r5 : List LOp := [
  ⟨some 42, .move (.tmp 0), none⟩,
  ⟨some 43, .nilCheck (.tmp 42), none⟩,
  ⟨some 44, .fieldAddr 50 (.tmp 43) 1, none⟩,
  ⟨some 45, .load 3 (.tmp 44), none⟩,
  ⟨some 46, .binOp .add 3 (.tmp 45) (.const (.int .i64 1)) 3, none⟩,
  ⟨some 47, .nilCheck (.tmp 42), none⟩,
  ⟨some 48, .fieldAddr 50 (.tmp 47) 1, none⟩,
  ⟨none, .store 3 (.tmp 48) (.tmp 46), none⟩]
def f79_l6 : LC := (.seq (.seq (.reg f79_r4 [] (some 22)) (.cond (.tmp 41) .skip (.exit 0))) (.block 1 (.reg f79_r5 [] none)))
def f79_i6 (t0 t2 t3 : D) : List D := [t0, .any, t2, t3, .any, .any, .any, .any, .any, .any, .any, .any, .any, .any, .any, .any, .any, .any, .any, .any, .any, .any, .any, .any, .any, .any, .any, .any, .any, .any, .any, .any, .any, .any, .any, .any, .any, .any, .any, .any, .any, .any, .any, .any, .any, .any, .any, .any, .any, .any, .any, .any, .any, .any, .any, .any, .any, .any, .any, .any, .any, .any, .any, .any, .any, .any, .any, .any, .any, .any, .any, .any, .any, .any, .any, .any, .any, .any, .any, .any, .any, .any]
def f79_r7 : List LOp := [
  ⟨some 49, .move (.tmp 0), none⟩,
  ⟨some 50, .nilCheck (.tmp 49), none⟩,
  ⟨some 51, .fieldAddr 50 (.tmp 50) 0, none⟩,
  ⟨some 52, .load 9 (.tmp 51), none⟩,
  ⟨some 53, .move (.tmp 3), none⟩,
  ⟨some 54, .move (.tmp 0), none⟩,
  ⟨some 55, .nilCheck (.tmp 54), none⟩,
  ⟨some 56, .fieldAddr 50 (.tmp 55) 1, none⟩,
  ⟨some 57, .load 3 (.tmp 56), none⟩,
  ⟨some 58, .slice 9 (.tmp 52) (some (.tmp 53)) (some (.tmp 57)) none, none⟩,
  ⟨some 4, .assign (.tmp 58), none⟩]
def f79_r8 : List LOp := [
  ⟨some 59, .move (.tmp 0), none⟩,
  ⟨some 60, .nilCheck (.tmp 59), none⟩,
  ⟨some 61, .fieldAddr 50 (.tmp 60) 2, none⟩,
  ⟨some 62, .load 22 (.tmp 61), none⟩,
  ⟨some 63, .move (.tmp 4), none⟩,
  ⟨some 64, .call { callee := .value (.func 64), args := #[.tmp 62, .tmp 63], argTypes := #[22, 9] }, none⟩,
  ⟨some 5, .assign (.tmp 64), none⟩]
def f79_r9 : List LOp := [
  ⟨some 65, .move (.tmp 5), none⟩,
  ⟨some 66, .binOp .geq 3 (.tmp 65) (.const (.int .i64 0)) 3, none⟩]
def f79_r10 : List LOp := [
  ⟨some 67, .move (.tmp 5), none⟩,
  ⟨some 68, .build 30 #[(0, .const (.int .u8 3)), (1, .tmp 67)], none⟩,
  ⟨none, .store 30 (.tmp 2) (.tmp 68), none⟩]
def f79_r11 : List LOp := [
  ⟨some 69, .move (.tmp 0), none⟩,
  ⟨some 70, .nilCheck (.tmp 69), none⟩,
  ⟨some 71, .fieldAddr 50 (.tmp 70) 3, none⟩,
  ⟨some 72, .load 22 (.tmp 71), none⟩,
  ⟨some 73, .move (.tmp 4), none⟩,
  ⟨some 74, .call { callee := .value (.func 64), args := #[.tmp 72, .tmp 73], argTypes := #[22, 9] }, none⟩,
  ⟨some 6, .assign (.tmp 74), none⟩]
def f79_r12 : List LOp := [
  ⟨some 75, .move (.tmp 6), none⟩,
  ⟨some 76, .binOp .lss 3 (.tmp 75) (.const (.int .i64 0)) 3, none⟩]
def f79_r13 : List LOp := [
  ⟨some 77, .move (.tmp 0), none⟩,
  ⟨some 78, .move (.tmp 3), none⟩,
  ⟨some 79, .call { callee := .value (.func 36), args := #[.tmp 77, .tmp 78, .const (.int .i64 5)], argTypes := #[47, 3, 31] }, none⟩]
def f79_r14 : List LOp := [
  ⟨some 80, .move (.tmp 6), none⟩,
  ⟨some 81, .build 30 #[(0, .const (.int .u8 6)), (1, .tmp 80)], none⟩,
  ⟨none, .store 30 (.tmp 2) (.tmp 81), none⟩]
def f79_c : LC := (.seq (.reg f79_r0 [] none) (.seq (.seq (.reg f79_r1 [] none) (.cond (.tmp 9) (.reg f79_r2 [] none) .skip)) (.seq (.reg f79_r3 [] none) (.seq (.block 0 (.loop f79_l6)) (.seq (.reg f79_r7 [] (some 9)) (.seq (.seq (.reg f79_r8 [] none) (.seq (.reg f79_r9 [] none) (.cond (.tmp 66) (.seq (.reg f79_r10 [] none) .ret) .skip))) (.seq (.reg f79_r11 [] none) (.seq (.seq (.reg f79_r12 [] none) (.cond (.tmp 76) (.reg f79_r13 [] none) .skip)) (.seq (.reg f79_r14 [] none) .ret)))))))))
theorem f79_lc : Try.f79.body.map lc = some f79_c.st := by kernel_rfl
theorem f79_res : Try.f79.results.toList = [.cell 2 30] := by kernel_rfl
theorem f79_nt : Try.f79.ntmps = 82 := by kernel_rfl
theorem f79_nm : (Try.f79.name == "runtime.NumGoroutine") = false := by kernel_rfl
/-! slices.Backward[[]quill/api.Cf,quill/api.Cf]$1 -/
def f80_r0 : List LOp := [
  ⟨some 4, .load 28 (.tmp 1), none⟩,
  ⟨some 5, .call { callee := .builtin .len, args := #[.tmp 4], argTypes := #[28] }, none⟩,
  ⟨some 6, .binOp .sub 3 (.tmp 5) (.const (.int .i64 1)) 3, none⟩,
  ⟨some 3, .assign (.tmp 6), none⟩]
def f80_r1 : List LOp := [
  ⟨some 7, .move (.tmp 3), none⟩,
  ⟨some 8, .binOp .geq 3 (.tmp 7) (.const (.int .i64 0)) 3, none⟩]
def f80_r2 : List LOp := [
  ⟨some 11, .move (.tmp 0), none⟩,
  ⟨some 12, .move (.tmp 3), none⟩,
  ⟨some 13, .load 28 (.tmp 1), none⟩,
  ⟨some 14, .move (.tmp 3), none⟩,
  ⟨some 15, .indexAddr 28 (.tmp 13) (.tmp 14), none⟩,
  ⟨some 16, .load 30 (.tmp 15), none⟩,
  ⟨some 17, .call { callee := .value (.tmp 11), args := #[.tmp 12, .tmp 16], argTypes := #[3, 30] }, none⟩,
  ⟨some 18, .unOp .not 4 (.tmp 17), none⟩]
def f80_r3 : List LOp := [
  ⟨some 9, .move (.tmp 3), none⟩,
  ⟨some 10, .binOp .sub 3 (.tmp 9) (.const (.int .i64 1)) 3, none⟩,
  ⟨some 3, .assign (.tmp 10), none⟩]
def f80_l4 : LC := (.seq (.seq (.reg f80_r1 [] none) (.cond (.tmp 8) .skip (.exit 0))) (.seq (.block 1 (.seq (.reg f80_r2 [] none) (.cond (.tmp 18) .ret .skip))) (.reg f80_r3 [] none)))
def f80_i4 (t0 t1 t3 : D) : List D := [t0, t1, .any, t3, .any, .any, .any, .any, .any, .any, .any, .any, .any, .any, .any, .any, .any, .any, .any]
def f80_c : LC := (.seq (.reg f80_r0 [] none) (.block 0 (.loop f80_l4)))
theorem f80_lc : Try.f80.body.map lc = some f80_c.st := by kernel_rfl
theorem f80_res : Try.f80.results.toList = [] := by kernel_rfl
theorem f80_nt : Try.f80.ntmps = 19 := by kernel_rfl
theorem f80_nm : (Try.f80.name == "runtime.NumGoroutine") = false := by kernel_rfl
/-! quill/cfx.letter -/
def f96_r0 : List LOp := [
  ⟨some 2, .assign (.const (.bool false)), none⟩]
def f96_r1 : List LOp := [
  ⟨some 3, .move (.tmp 0), none⟩,
  ⟨some 4, .binOp .geq 5 (.tmp 3) (.const (.int .u8 97)) 5, none⟩,
  ⟨some 5, .move (.tmp 4), none⟩,
  ⟨some 6, .move (.tmp 0), some (2, true)⟩,
  ⟨some 7, .binOp .leq 5 (.tmp 6) (.const (.int .u8 122)) 5, some (2, true)⟩,
  ⟨some 8, .pick (.tmp 5) (.tmp 7) (.const (.bool false)), none⟩,
  ⟨some 9, .move (.tmp 8), none⟩,
  ⟨some 10, .move (.tmp 0), some (6, false)⟩,
  ⟨some 11, .binOp .geq 5 (.tmp 10) (.const (.int .u8 48)) 5, some (6, false)⟩,
  ⟨some 12, .move (.tmp 11), some (6, false)⟩,
  ⟨some 13, .move (.tmp 0), some (9, true)⟩,
  ⟨some 14, .binOp .leq 5 (.tmp 13) (.const (.int .u8 57)) 5, some (9, true)⟩,
  ⟨some 15, .pick (.tmp 12) (.tmp 14) (.const (.bool false)), some (6, false)⟩,
  ⟨some 16, .pick (.tmp 9) (.const (.bool true)) (.tmp 15), none⟩,
  ⟨some 17, .move (.tmp 16), none⟩,
  ⟨some 18, .move (.tmp 0), some (14, false)⟩,
  ⟨some 19, .binOp .eql 5 (.tmp 18) (.const (.int .u8 95)) 5, some (14, false)⟩,
  ⟨some 20, .pick (.tmp 17) (.const (.bool true)) (.tmp 19), none⟩,
  ⟨some 2, .assign (.tmp 20), none⟩]
def f96_c : LC := (.seq (.reg f96_r0 [] none) (.seq (.reg f96_r1 [] none) .ret))
theorem f96_lc : Try.f96.body.map lc = some f96_c.st := by kernel_rfl
theorem f96_res : Try.f96.results.toList = [.tmp 2] := by kernel_rfl
theorem f96_nt : Try.f96.ntmps = 21 := by kernel_rfl
theorem f96_nm : (Try.f96.name == "runtime.NumGoroutine") = false := by kernel_rfl
attribute [go_sem] f32_r0 f32_r1 f32_r2 f32_r3 f32_r4 f32_r5 f32_r6 f32_r7 f32_r8 f32_r9 f32_r10 f32_r11 f32_r12 f32_r13 f32_c f33_r0 f33_r1 f33_r2 f33_r3 f33_r4 f33_r5 f33_r6 f33_r7 f33_c f34_r0 f34_r1 f34_r2 f34_r3 f34_r4 f34_l5 f34_i5 f34_r6 f34_c f35_r0 f35_r1 f35_l2 f35_i2 f35_c f36_r0 f36_c f37_r0 f37_r1 f37_r2 f37_r3 f37_c f38_r0 f38_r1 f38_c f39_r0 f39_r1 f39_c f41_r0 f41_r1 f41_c f42_r0 f42_r1 f42_c f44_r0 f44_r1 f44_c f46_r0 f46_r1 f46_c f47_r0 f47_r1 f47_r2 f47_r3 f47_r4 f47_r5 f47_r6 f47_l7 f47_i7 f47_r8 f47_c f49_r0 f49_r1 f49_c f50_r0 f50_r1 f50_c f51_r0 f51_r1 f51_r2 f51_r3 f51_l4 f51_i4 f51_r5 f51_c f52_r0 f52_r1 f52_r2 f52_c f53_r0 f53_r1 f53_r2 f53_r3 f53_r4 f53_a5 f53_b5 f53_r6 f53_c f54_r0 f54_r1 f54_c f56_r0 f56_r1 f56_r2 f56_r3 f56_r4 f56_l5 f56_i5 f56_c f57_r0 f57_r1 f57_c f58_r0 f58_r1 f58_c f59_r0 f59_r1 f59_r2 f59_r3 f59_r4 f59_r5 f59_r6 f59_l7 f59_i7 f59_r8 f59_c f60_r0 f60_r1 f60_r2 f60_r3 f60_r4 f60_r5 f60_r6 f60_l7 f60_i7 f60_c f61_r0 f61_r1 f61_c f62_r0 f62_r1 f62_r2 f62_r3 f62_c f64_r0 f64_r1 f64_r2 f64_r3 f64_r4 f64_r5 f64_r6 f64_l7 f64_i7 f64_r8 f64_c f66_r0 f66_r1 f66_r2 f66_r3 f66_r4 f66_r5 f66_r6 f66_l7 f66_i7 f66_r8 f66_c f67_r0 f67_r1 f67_r2 f67_r3 f67_r4 f67_r5 f67_r6 f67_l7 f67_i7 f67_r8 f67_c f68_r0 f68_r1 f68_r2 f68_r3 f68_r4 f68_r5 f68_r6 f68_r7 f68_r8 f68_r9 f68_r10 f68_r11 f68_r12 f68_r13 f68_c f69_r0 f69_r1 f69_r2 f69_c f70_r0 f70_r1 f70_c f71_r0 f71_r1 f71_r2 f71_r3 f71_a4 f71_b4 f71_r5 f71_c f74_r0 f74_r1 f74_r2 f74_r3 f74_r4 f74_r5 f74_r6 f74_l7 f74_i7 f74_r8 f74_c f76_r0 f76_r1 f76_c f78_r0 f78_r1 f78_r2 f78_c f79_r0 f79_r1 f79_r2 f79_r3 f79_r4 f79_r5 f79_l6 f79_i6 f79_r7 f79_r8 f79_r9 f79_r10 f79_r11 f79_r12 f79_r13 f79_r14 f79_c f80_r0 f80_r1 f80_r2 f80_r3 f80_l4 f80_i4 f80_c f96_r0 f96_r1 f96_c
end Go.Proofs.Ytdliolbjngcgcaa.W
