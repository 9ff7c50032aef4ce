/- Part of a program logic over data: rules of the walk, each proved. -/
import Derived.Test.YtfpfcokhnddddaaDoorChecked
import Derived.Test.YtfpfcokhnddddaaDoorAwpT
import Derived.KernelRfl
set_option linter.unusedVariables false
set_option linter.unusedSimpArgs false
set_option linter.unusedSectionVars false
set_option maxRecDepth 100000
namespace Go.Proofs.YtfpfcokhnddddaaDoor.W
open Go Go.Proofs Go.Proofs.YtfpfcokhnddddaaDoor.AWP

/-! ### types -/
def ti3 : TI := ⟨.int .i64, 1, 8, [.int .i64 0]⟩
def ti4 : TI := ⟨.bool, 1, 1, [.bool false]⟩
def ti5 : TI := ⟨.int .u8, 1, 1, [.int .u8 0]⟩
def ti9 : TI := ⟨.str, 1, 16, [.string .empty]⟩
def ti20 : TI := ⟨.other, 1, 16, [.nilIface]⟩
def ti22 : TI := ⟨.int .u64, 1, 8, [.int .u64 0]⟩
def ti24 : TI := ⟨.arr 4 22, 4, 32, [.int .u64 0, .int .u64 0, .int .u64 0, .int .u64 0]⟩
def ti25 : TI := ⟨.slice 27, 1, 24, [.slice none 0 0]⟩
def ti27 : TI := ⟨.struct [(0, 5), (1, 24), (5, 25)], 6, 64, [.int .u8 0, .int .u64 0, .int .u64 0, .int .u64 0, .int .u64 0, .slice none 0 0]⟩
def ti33 : TI := ⟨.other, 1, 8, [.nilFunc]⟩
def ti35 : TI := ⟨.int .i64, 1, 8, [.int .i64 0]⟩
def ti41 : TI := ⟨.slice 3, 1, 24, [.slice none 0 0]⟩
def ti53 : TI := ⟨.other, 1, 8, [.pointer none]⟩
def ti55 : TI := ⟨.struct [(0, 9), (1, 3)], 2, 24, [.string .empty, .int .i64 0]⟩
def ti57 : TI := ⟨.other, 1, 8, [.pointer none]⟩
def ti58 : TI := ⟨.other, 1, 8, [.pointer none]⟩
def ti59 : TI := ⟨.slice 5, 1, 24, [.slice none 0 0]⟩
def ti61 : TI := ⟨.struct [(0, 58), (1, 59)], 2, 32, [.pointer none, .slice none 0 0]⟩
def ti63 : TI := ⟨.struct [(0, 61)], 2, 32, [.pointer none, .slice none 0 0]⟩
def ti69 : TI := ⟨.slice 4, 1, 24, [.slice none 0 0]⟩
def ti80 : TI := ⟨.slice 9, 1, 24, [.slice none 0 0]⟩
def ti82 : TI := ⟨.other, 1, 8, [.nilFunc]⟩
def ti84 : TI := ⟨.struct [(0, 3)], 1, 8, [.int .i64 0]⟩
def ti92 : TI := ⟨.other, 1, 8, [.pointer none]⟩
def ti100 : TI := ⟨.slice 24, 1, 24, [.slice none 0 0]⟩
def ti113 : TI := ⟨.arr 64 5, 64, 64, [.int .u8 0, .int .u8 0, .int .u8 0, .int .u8 0, .int .u8 0, .int .u8 0, .int .u8 0, .int .u8 0, .int .u8 0, .int .u8 0, .int .u8 0, .int .u8 0, .int .u8 0, .int .u8 0, .int .u8 0, .int .u8 0, .int .u8 0, .int .u8 0, .int .u8 0, .int .u8 0, .int .u8 0, .int .u8 0, .int .u8 0, .int .u8 0, .int .u8 0, .int .u8 0, .int .u8 0, .int .u8 0, .int .u8 0, .int .u8 0, .int .u8 0, .int .u8 0, .int .u8 0, .int .u8 0, .int .u8 0, .int .u8 0, .int .u8 0, .int .u8 0, .int .u8 0, .int .u8 0, .int .u8 0, .int .u8 0, .int .u8 0, .int .u8 0, .int .u8 0, .int .u8 0, .int .u8 0, .int .u8 0, .int .u8 0, .int .u8 0, .int .u8 0, .int .u8 0, .int .u8 0, .int .u8 0, .int .u8 0, .int .u8 0, .int .u8 0, .int .u8 0, .int .u8 0, .int .u8 0, .int .u8 0, .int .u8 0, .int .u8 0, .int .u8 0]⟩
def ti114 : TI := ⟨.int .u64, 1, 8, [.int .u64 0]⟩
def ti117 : TI := ⟨.other, 1, 8, [.pointer none]⟩
def ti121 : TI := ⟨.other, 1, 8, [.nilFunc]⟩
def ti124 : TI := ⟨.other, 1, 8, [.nilFunc]⟩
def ti142 : TI := ⟨.slice 22, 1, 24, [.slice none 0 0]⟩
def ti143 : TI := ⟨.other, 1, 8, [.nilFunc]⟩
def tab : List (Nat × TI) := [(3, ti3), (4, ti4), (5, ti5), (9, ti9), (20, ti20), (22, ti22), (24, ti24), (25, ti25), (27, ti27), (33, ti33), (35, ti35), (41, ti41), (53, ti53), (55, ti55), (57, ti57), (58, ti58), (59, ti59), (61, ti61), (63, ti63), (69, ti69), (80, ti80), (82, ti82), (84, ti84), (92, ti92), (100, ti100), (113, ti113), (114, ti114), (117, ti117), (121, ti121), (124, ti124), (142, ti142), (143, ti143)]
def T : Tab := fun t => (tab.find? fun p => p.1 == t).map (·.2)
theorem T3 : T 3 = some ti3 := rfl
theorem T4 : T 4 = some ti4 := rfl
theorem T5 : T 5 = some ti5 := rfl
theorem T9 : T 9 = some ti9 := rfl
theorem T20 : T 20 = some ti20 := rfl
theorem T22 : T 22 = some ti22 := rfl
theorem T24 : T 24 = some ti24 := rfl
theorem T25 : T 25 = some ti25 := rfl
theorem T27 : T 27 = some ti27 := rfl
theorem T33 : T 33 = some ti33 := rfl
theorem T35 : T 35 = some ti35 := rfl
theorem T41 : T 41 = some ti41 := rfl
theorem T53 : T 53 = some ti53 := rfl
theorem T55 : T 55 = some ti55 := rfl
theorem T57 : T 57 = some ti57 := rfl
theorem T58 : T 58 = some ti58 := rfl
theorem T59 : T 59 = some ti59 := rfl
theorem T61 : T 61 = some ti61 := rfl
theorem T63 : T 63 = some ti63 := rfl
theorem T69 : T 69 = some ti69 := rfl
theorem T80 : T 80 = some ti80 := rfl
theorem T82 : T 82 = some ti82 := rfl
theorem T84 : T 84 = some ti84 := rfl
theorem T92 : T 92 = some ti92 := rfl
theorem T100 : T 100 = some ti100 := rfl
theorem T113 : T 113 = some ti113 := rfl
theorem T114 : T 114 = some ti114 := rfl
theorem T117 : T 117 = some ti117 := rfl
theorem T121 : T 121 = some ti121 := rfl
theorem T124 : T 124 = some ti124 := rfl
theorem T142 : T 142 = some ti142 := rfl
theorem T143 : T 143 = some ti143 := rfl
theorem tab_ok : tabB Tryd.prog tab = true := by kernel_rfl
theorem hT : TabOk Tryd.prog T := by
  intro t i h
  unfold T at h
  simp only [Option.map_eq_some_iff] at h
  obtain ⟨p, hp, rfl⟩ := h
  have h1 := List.find?_some hp
  have h2 := List.mem_of_find?_eq_some hp
  simp only [beq_iff_eq] at h1
  obtain ⟨t', i'⟩ := p
  subst h1
  exact tabB_ok tab_ok t' i' h2
theorem hm : Tryd.prog.follows .mixedOrders = true := by kernel_rfl

/-! quill/quilllaw07.NullFirst -/
def f3_r0 : List LOp := [
  ⟨some 1, .box 27 (.tmp 0), none⟩,
  ⟨some 2, .assign (.const (.bool false)), none⟩]
def f3_r1 : List LOp := [
  ⟨some 8, .load 27 (.tmp 1), none⟩,
  ⟨some 9, .call { callee := .value (.func 7), args := #[.tmp 8, .const (.int .i64 200)], argTypes := #[27, 3] }, none⟩]
def f3_r2 : List LOp := [
  ⟨some 10, .call { callee := .value (.func 8), args := #[], argTypes := #[] }, none⟩,
  ⟨some 2, .assign (.tmp 10), none⟩]
def f3_r3 : List LOp := [
  ⟨some 11, .load 27 (.tmp 1), none⟩,
  ⟨some 12, .call { callee := .value (.func 9), args := #[.tmp 11], argTypes := #[27] }, none⟩,
  ⟨some 3, .alloc 24, none⟩,
  ⟨none, .store 24 (.tmp 3) (.tmp 12), none⟩]
def f3_r4 : List LOp := [
  ⟨some 14, .load 27 (.tmp 1), none⟩,
  ⟨some 15, .call { callee := .value (.func 10), args := #[.tmp 14], argTypes := #[27] }, none⟩,
  ⟨some 13, .move (.tmp 15), none⟩,
  ⟨some 16, .extract (.tmp 13) 0, none⟩,
  ⟨some 17, .extract (.tmp 13) 1, none⟩,
  ⟨some 4, .assign (.tmp 16), none⟩,
  ⟨some 5, .assign (.tmp 17), none⟩]
def f3_r5 : List LOp := [
  ⟨some 19, .load 27 (.tmp 1), none⟩,
  ⟨some 20, .call { callee := .value (.func 11), args := #[.tmp 19], argTypes := #[27] }, none⟩,
  ⟨some 18, .move (.tmp 20), none⟩,
  ⟨some 21, .extract (.tmp 18) 0, none⟩,
  ⟨some 22, .extract (.tmp 18) 1, none⟩,
  ⟨some 6, .assign (.tmp 21), none⟩,
  ⟨some 7, .assign (.tmp 22), none⟩]
def f3_r6 : List LOp := [
  ⟨some 23, .load 24 (.tmp 3), none⟩,
  ⟨some 24, .load 27 (.tmp 1), none⟩,
  ⟨some 25, .call { callee := .value (.func 12), args := #[.tmp 24], argTypes := #[27] }, none⟩,
  ⟨some 26, .binOp .neq 24 (.tmp 23) (.tmp 25) 24, none⟩,
  ⟨some 27, .move (.tmp 26), none⟩,
  ⟨some 28, .move (.tmp 4), some (4, false)⟩,
  ⟨some 29, .move (.tmp 6), some (4, false)⟩,
  ⟨some 30, .binOp .neq 9 (.tmp 28) (.tmp 29) 9, some (4, false)⟩,
  ⟨some 31, .pick (.tmp 27) (.const (.bool true)) (.tmp 30), none⟩,
  ⟨some 32, .move (.tmp 31), none⟩,
  ⟨some 33, .move (.tmp 5), some (9, false)⟩,
  ⟨some 34, .move (.tmp 7), some (9, false)⟩,
  ⟨some 35, .binOp .neq 4 (.tmp 33) (.tmp 34) 4, some (9, false)⟩,
  ⟨some 36, .pick (.tmp 32) (.const (.bool true)) (.tmp 35), none⟩,
  ⟨some 37, .move (.tmp 36), none⟩,
  ⟨some 38, .load 27 (.tmp 1), some (14, false)⟩,
  ⟨some 39, .call { callee := .value (.func 13), args := #[.tmp 38], argTypes := #[27] }, some (14, false)⟩,
  ⟨some 40, .load 27 (.tmp 1), some (14, false)⟩,
  ⟨some 41, .call { callee := .value (.func 14), args := #[.tmp 40], argTypes := #[27] }, some (14, false)⟩,
  ⟨some 42, .move (.tmp 41), some (14, false)⟩,
  ⟨some 43, .load 24 (.tmp 3), some (19, true)⟩,
  ⟨some 44, .build 24 #[], some (19, true)⟩,
  ⟨some 45, .binOp .eql 24 (.tmp 43) (.tmp 44) 24, some (19, true)⟩,
  ⟨some 46, .pick (.tmp 42) (.tmp 45) (.const (.bool false)), some (14, false)⟩,
  ⟨some 47, .binOp .neq 4 (.tmp 39) (.tmp 46) 4, some (14, false)⟩,
  ⟨some 48, .pick (.tmp 37) (.const (.bool true)) (.tmp 47), none⟩]
def f3_r7 : List LOp := [
  ⟨some 2, .assign (.const (.bool false)), none⟩]
def f3_r8 : List LOp := [
  ⟨some 49, .move (.tmp 4), none⟩,
  ⟨some 50, .binOp .eql 9 (.tmp 49) (.const (.string { data := #[] })) 9, none⟩,
  ⟨some 51, .move (.tmp 50), none⟩,
  ⟨some 52, .load 24 (.tmp 3), some (2, false)⟩,
  ⟨some 53, .move (.tmp 4), some (2, false)⟩,
  ⟨some 54, .index 9 (.tmp 53) (.const (.int .i64 0)), some (2, false)⟩,
  ⟨some 55, .convert 5 3 (.tmp 54), some (2, false)⟩,
  ⟨some 56, .call { callee := .value (.func 15), args := #[.tmp 52, .tmp 55], argTypes := #[24, 3] }, some (2, false)⟩,
  ⟨some 57, .pick (.tmp 51) (.const (.bool true)) (.tmp 56), none⟩,
  ⟨some 58, .move (.tmp 57), none⟩,
  ⟨some 59, .call { callee := .value (.func 8), args := #[], argTypes := #[] }, some (9, true)⟩,
  ⟨some 60, .pick (.tmp 58) (.tmp 59) (.const (.bool false)), none⟩,
  ⟨some 2, .assign (.tmp 60), none⟩]
def f3_c : LC := (.seq (.reg f3_r0 [] none) (.seq (.seq (.reg f3_r1 [] none) (.cond (.tmp 9) (.seq (.reg f3_r2 [] none) .ret) .skip)) (.seq (.reg f3_r3 [] none) (.seq (.reg f3_r4 [] none) (.seq (.reg f3_r5 [] none) (.seq (.seq (.reg f3_r6 [] (some 22)) (.cond (.tmp 48) (.seq (.reg f3_r7 [] none) .ret) .skip)) (.seq (.reg f3_r8 [] (some 7)) .ret)))))))
theorem f3_lc : Tryd.f3.body.map lc = some f3_c.st := by kernel_rfl
theorem f3_res : Tryd.f3.results.toList = [.tmp 2] := by kernel_rfl
theorem f3_nt : Tryd.f3.ntmps = 61 := by kernel_rfl
theorem f3_nm : (Tryd.f3.name == "runtime.NumGoroutine") = false := by kernel_rfl

/-! quill/quillref03.Great -/
def f7_r0 : List LOp := [
  ⟨some 2, .box 27 (.tmp 0), none⟩,
  ⟨some 4, .assign (.const (.bool false)), none⟩]
def f7_r1 : List LOp := [
  ⟨some 5, .load 27 (.tmp 2), none⟩,
  ⟨some 6, .move (.tmp 1), none⟩,
  ⟨some 7, .call { callee := .value (.func 28), args := #[.tmp 5, .tmp 6], argTypes := #[27, 3] }, none⟩,
  ⟨some 8, .move (.tmp 1), none⟩,
  ⟨some 9, .binOp .gtr 3 (.tmp 7) (.tmp 8) 3, none⟩,
  ⟨some 4, .assign (.tmp 9), none⟩]
def f7_c : LC := (.seq (.reg f7_r0 [] none) (.seq (.reg f7_r1 [] none) .ret))
theorem f7_lc : Tryd.f7.body.map lc = some f7_c.st := by kernel_rfl
theorem f7_res : Tryd.f7.results.toList = [.tmp 4] := by kernel_rfl
theorem f7_nt : Tryd.f7.ntmps = 10 := by kernel_rfl
theorem f7_nm : (Tryd.f7.name == "runtime.NumGoroutine") = false := by kernel_rfl

/-! quill/quilllaw07.awake -/
def f8_r0 : List LOp := [
  ⟨some 0, .assign (.const (.bool false)), none⟩]
def f8_r1 : List LOp := [
  ⟨some 5, .call { callee := .value (.func 18), args := #[.const (.string { data := #[97, 42, 98] })], argTypes := #[9] }, none⟩,
  ⟨some 4, .move (.tmp 5), none⟩,
  ⟨some 6, .extract (.tmp 4) 0, none⟩,
  ⟨some 7, .extract (.tmp 4) 1, none⟩,
  ⟨some 8, .extract (.tmp 4) 2, none⟩,
  ⟨some 1, .alloc 27, none⟩,
  ⟨none, .store 27 (.tmp 1) (.tmp 6), none⟩,
  ⟨some 2, .assign (.tmp 7), none⟩,
  ⟨some 3, .assign (.tmp 8), none⟩]
def f8_r2 : List LOp := [
  ⟨some 9, .move (.tmp 3), none⟩,
  ⟨some 10, .binOp .eql 35 (.tmp 9) (.const (.int .i64 0)) 35, none⟩,
  ⟨some 11, .move (.tmp 10), none⟩,
  ⟨some 12, .load 27 (.tmp 1), some (2, true)⟩,
  ⟨some 13, .call { callee := .value (.func 9), args := #[.tmp 12], argTypes := #[27] }, some (2, true)⟩,
  ⟨some 14, .buildSlice 59 2 #[(0, .const (.int .u8 97)), (1, .const (.int .u8 98))], some (2, true)⟩,
  ⟨some 15, .call { callee := .value (.func 29), args := #[.tmp 14], argTypes := #[59] }, some (2, true)⟩,
  ⟨some 16, .binOp .eql 24 (.tmp 13) (.tmp 15) 24, some (2, true)⟩,
  ⟨some 17, .pick (.tmp 11) (.tmp 16) (.const (.bool false)), none⟩,
  ⟨some 18, .move (.tmp 17), none⟩,
  ⟨some 19, .load 27 (.tmp 1), some (9, true)⟩,
  ⟨some 20, .buildSlice 25 1 #[(0, .tmp 19)], some (9, true)⟩,
  ⟨some 21, .call { callee := .value (.func 30), args := #[.tmp 20], argTypes := #[25] }, some (9, true)⟩,
  ⟨some 22, .unOp .not 4 (.tmp 21), some (9, true)⟩,
  ⟨some 23, .pick (.tmp 18) (.tmp 22) (.const (.bool false)), none⟩,
  ⟨some 0, .assign (.tmp 23), none⟩]
def f8_c : LC := (.seq (.reg f8_r0 [] none) (.seq (.reg f8_r1 [] none) (.seq (.reg f8_r2 [] none) .ret)))
theorem f8_lc : Tryd.f8.body.map lc = some f8_c.st := by kernel_rfl
theorem f8_res : Tryd.f8.results.toList = [.tmp 0] := by kernel_rfl
theorem f8_nt : Tryd.f8.ntmps = 24 := by kernel_rfl
theorem f8_nm : (Tryd.f8.name == "runtime.NumGoroutine") = false := by kernel_rfl

/-! quill/null.First -/
def f9_r0 : List LOp := [
  ⟨some 1, .box 27 (.tmp 0), none⟩,
  ⟨some 2, .alloc 24, none⟩]
def f9_r1 : List LOp := [
  ⟨some 3, .load 27 (.tmp 1), none⟩,
  ⟨some 4, .buildSlice 25 1 #[(0, .tmp 3)], none⟩,
  ⟨some 5, .call { callee := .value (.func 31), args := #[.tmp 4], argTypes := #[25] }, none⟩,
  ⟨some 6, .unOp .not 4 (.tmp 5), none⟩]
def f9_r2 : List LOp := [
  ⟨some 7, .build 24 #[], none⟩,
  ⟨none, .store 24 (.tmp 2) (.tmp 7), none⟩]
def f9_r3 : List LOp := [
  ⟨some 8, .load 27 (.tmp 1), none⟩,
  ⟨some 9, .call { callee := .value (.func 32), args := #[.tmp 8], argTypes := #[27] }, none⟩,
  ⟨none, .store 24 (.tmp 2) (.tmp 9), none⟩]
def f9_c : LC := (.seq (.reg f9_r0 [] none) (.seq (.seq (.reg f9_r1 [] none) (.cond (.tmp 6) (.seq (.reg f9_r2 [] none) .ret) .skip)) (.seq (.reg f9_r3 [] none) .ret)))
theorem f9_lc : Tryd.f9.body.map lc = some f9_c.st := by kernel_rfl
theorem f9_res : Tryd.f9.results.toList = [.cell 2 24] := by kernel_rfl
theorem f9_nt : Tryd.f9.ntmps = 10 := by kernel_rfl
theorem f9_nm : (Tryd.f9.name == "runtime.NumGoroutine") = false := by kernel_rfl

/-! quill/null.Shortest -/
def f10_r0 : List LOp := [
  ⟨some 1, .box 27 (.tmp 0), none⟩,
  ⟨some 2, .assign (.const (.string { data := #[] })), none⟩,
  ⟨some 3, .assign (.const (.bool false)), none⟩]
def f10_r1 : List LOp := [
  ⟨some 4, .load 27 (.tmp 1), none⟩,
  ⟨some 5, .buildSlice 25 1 #[(0, .tmp 4)], none⟩,
  ⟨some 6, .call { callee := .value (.func 31), args := #[.tmp 5], argTypes := #[25] }, none⟩,
  ⟨some 7, .unOp .not 4 (.tmp 6), none⟩]
def f10_r2 : List LOp := [
  ⟨some 2, .assign (.const (.string { data := #[] })), none⟩,
  ⟨some 3, .assign (.const (.bool false)), none⟩]
def f10_r3 : List LOp := [
  ⟨some 8, .load 27 (.tmp 1), none⟩,
  ⟨some 9, .call { callee := .value (.func 33), args := #[.tmp 8], argTypes := #[27] }, none⟩,
  ⟨some 10, .extract (.tmp 9) 0, none⟩,
  ⟨some 11, .extract (.tmp 9) 1, none⟩,
  ⟨some 2, .assign (.tmp 10), none⟩,
  ⟨some 3, .assign (.tmp 11), none⟩]
def f10_c : LC := (.seq (.reg f10_r0 [] none) (.seq (.seq (.reg f10_r1 [] none) (.cond (.tmp 7) (.seq (.reg f10_r2 [] none) .ret) .skip)) (.seq (.reg f10_r3 [] none) .ret)))
theorem f10_lc : Tryd.f10.body.map lc = some f10_c.st := by kernel_rfl
theorem f10_res : Tryd.f10.results.toList = [.tmp 2, .tmp 3] := by kernel_rfl
theorem f10_nt : Tryd.f10.ntmps = 12 := by kernel_rfl
theorem f10_nm : (Tryd.f10.name == "runtime.NumGoroutine") = false := by kernel_rfl

/-! quill/quillref07.Shortest -/
def f11_r0 : List LOp := [
  ⟨some 1, .box 27 (.tmp 0), none⟩,
  ⟨some 2, .assign (.const (.string { data := #[] })), none⟩,
  ⟨some 3, .assign (.const (.bool false)), none⟩]
def f11_r1 : List LOp := [
  ⟨some 4, .load 27 (.tmp 1), none⟩,
  ⟨some 5, .call { callee := .value (.func 17), args := #[.tmp 4], argTypes := #[27] }, none⟩,
  ⟨some 6, .unOp .not 4 (.tmp 5), none⟩]
def f11_r2 : List LOp := [
  ⟨some 2, .assign (.const (.string { data := #[] })), none⟩,
  ⟨some 3, .assign (.const (.bool false)), none⟩]
def f11_r3 : List LOp := [
  ⟨some 7, .load 27 (.tmp 1), none⟩,
  ⟨some 8, .call { callee := .value (.func 34), args := #[.tmp 7], argTypes := #[27] }, none⟩,
  ⟨some 9, .extract (.tmp 8) 0, none⟩,
  ⟨some 10, .extract (.tmp 8) 1, none⟩,
  ⟨some 2, .assign (.tmp 9), none⟩,
  ⟨some 3, .assign (.tmp 10), none⟩]
def f11_c : LC := (.seq (.reg f11_r0 [] none) (.seq (.seq (.reg f11_r1 [] none) (.cond (.tmp 6) (.seq (.reg f11_r2 [] none) .ret) .skip)) (.seq (.reg f11_r3 [] none) .ret)))
theorem f11_lc : Tryd.f11.body.map lc = some f11_c.st := by kernel_rfl
theorem f11_res : Tryd.f11.results.toList = [.tmp 2, .tmp 3] := by kernel_rfl
theorem f11_nt : Tryd.f11.ntmps = 11 := by kernel_rfl
theorem f11_nm : (Tryd.f11.name == "runtime.NumGoroutine") = false := by kernel_rfl

/-! quill/quillref07.First -/
def f12_r0 : List LOp := [
  ⟨some 1, .box 27 (.tmp 0), none⟩,
  ⟨some 2, .alloc 24, none⟩]
def f12_r1 : List LOp := [
  ⟨some 3, .load 27 (.tmp 1), none⟩,
  ⟨some 4, .call { callee := .value (.func 17), args := #[.tmp 3], argTypes := #[27] }, none⟩,
  ⟨some 5, .unOp .not 4 (.tmp 4), none⟩]
def f12_r2 : List LOp := [
  ⟨some 6, .build 24 #[], none⟩,
  ⟨none, .store 24 (.tmp 2) (.tmp 6), none⟩]
def f12_r3 : List LOp := [
  ⟨some 7, .load 27 (.tmp 1), none⟩,
  ⟨some 8, .call { callee := .value (.func 35), args := #[.tmp 7], argTypes := #[27] }, none⟩,
  ⟨none, .store 24 (.tmp 2) (.tmp 8), none⟩]
def f12_c : LC := (.seq (.reg f12_r0 [] none) (.seq (.seq (.reg f12_r1 [] none) (.cond (.tmp 5) (.seq (.reg f12_r2 [] none) .ret) .skip)) (.seq (.reg f12_r3 [] none) .ret)))
theorem f12_lc : Tryd.f12.body.map lc = some f12_c.st := by kernel_rfl
theorem f12_res : Tryd.f12.results.toList = [.cell 2 24] := by kernel_rfl
theorem f12_nt : Tryd.f12.ntmps = 9 := by kernel_rfl
theorem f12_nm : (Tryd.f12.name == "runtime.NumGoroutine") = false := by kernel_rfl

/-! quill/null.Only -/
def f13_r0 : List LOp := [
  ⟨some 1, .box 27 (.tmp 0), none⟩,
  ⟨some 2, .assign (.const (.bool false)), none⟩]
def f13_r1 : List LOp := [
  ⟨some 3, .load 27 (.tmp 1), none⟩,
  ⟨some 4, .buildSlice 25 1 #[(0, .tmp 3)], none⟩,
  ⟨some 5, .call { callee := .value (.func 30), args := #[.tmp 4], argTypes := #[25] }, none⟩,
  ⟨some 6, .move (.tmp 5), none⟩,
  ⟨some 7, .load 27 (.tmp 1), some (3, true)⟩,
  ⟨some 8, .call { callee := .value (.func 32), args := #[.tmp 7], argTypes := #[27] }, some (3, true)⟩,
  ⟨some 9, .build 24 #[], some (3, true)⟩,
  ⟨some 10, .binOp .eql 24 (.tmp 8) (.tmp 9) 24, some (3, true)⟩,
  ⟨some 11, .pick (.tmp 6) (.tmp 10) (.const (.bool false)), none⟩,
  ⟨some 2, .assign (.tmp 11), none⟩]
def f13_c : LC := (.seq (.reg f13_r0 [] none) (.seq (.reg f13_r1 [] none) .ret))
theorem f13_lc : Tryd.f13.body.map lc = some f13_c.st := by kernel_rfl
theorem f13_res : Tryd.f13.results.toList = [.tmp 2] := by kernel_rfl
theorem f13_nt : Tryd.f13.ntmps = 12 := by kernel_rfl
theorem f13_nm : (Tryd.f13.name == "runtime.NumGoroutine") = false := by kernel_rfl

/-! quill/quillref07.Null -/
def f14_r0 : List LOp := [
  ⟨some 1, .box 27 (.tmp 0), none⟩,
  ⟨some 2, .assign (.const (.bool false)), none⟩]
def f14_r1 : List LOp := [
  ⟨some 3, .load 27 (.tmp 1), none⟩,
  ⟨some 4, .call { callee := .value (.func 17), args := #[.tmp 3], argTypes := #[27] }, none⟩,
  ⟨some 5, .move (.tmp 4), none⟩,
  ⟨some 6, .load 27 (.tmp 1), some (2, true)⟩,
  ⟨some 7, .call { callee := .value (.func 36), args := #[.tmp 6], argTypes := #[27] }, some (2, true)⟩,
  ⟨some 8, .pick (.tmp 5) (.tmp 7) (.const (.bool false)), none⟩,
  ⟨some 2, .assign (.tmp 8), none⟩]
def f14_c : LC := (.seq (.reg f14_r0 [] none) (.seq (.reg f14_r1 [] none) .ret))
theorem f14_lc : Tryd.f14.body.map lc = some f14_c.st := by kernel_rfl
theorem f14_res : Tryd.f14.results.toList = [.tmp 2] := by kernel_rfl
theorem f14_nt : Tryd.f14.ntmps = 9 := by kernel_rfl
theorem f14_nm : (Tryd.f14.name == "runtime.NumGoroutine") = false := by kernel_rfl

/-! quill/quillref02.Has -/
def f15_r0 : List LOp := [
  ⟨some 2, .box 24 (.tmp 0), none⟩,
  ⟨some 4, .assign (.const (.bool false)), none⟩]
def f15_r1 : List LOp := [
  ⟨some 7, .move (.tmp 1), none⟩,
  ⟨some 8, .binOp .quo 3 (.tmp 7) (.const (.int .i64 64)) 3, none⟩,
  ⟨some 9, .indexAddr 24 (.tmp 2) (.tmp 8), none⟩,
  ⟨some 10, .load 22 (.tmp 9), none⟩,
  ⟨some 5, .assign (.tmp 10), none⟩]
def f15_r2 : List LOp := [
  ⟨some 6, .assign (.const (.int .i64 0)), none⟩]
def f15_r3 : List LOp := [
  ⟨some 11, .move (.tmp 6), none⟩,
  ⟨some 12, .move (.tmp 1), none⟩,
  ⟨some 13, .binOp .rem 3 (.tmp 12) (.const (.int .i64 64)) 3, none⟩,
  ⟨some 14, .binOp .lss 3 (.tmp 11) (.tmp 13) 3, none⟩]
def f15_r4 : List LOp := [
  ⟨some 17, .move (.tmp 5), none⟩,
  ⟨some 18, .binOp .quo 22 (.tmp 17) (.const (.int .u64 2)) 22, none⟩,
  ⟨some 5, .assign (.tmp 18), none⟩]
def f15_r5 : List LOp := [
  ⟨some 15, .move (.tmp 6), none⟩,
  ⟨some 16, .binOp .add 3 (.tmp 15) (.const (.int .i64 1)) 3, none⟩,
  ⟨some 6, .assign (.tmp 16), none⟩]
def f15_l6 : LC := (.seq (.seq (.reg f15_r3 [] none) (.cond (.tmp 14) .skip (.exit 0))) (.seq (.block 1 (.reg f15_r4 [] none)) (.reg f15_r5 [] none)))
def f15_i6 (t1 t5 t6 : D) : List D := [.any, t1, .any, .any, .any, t5, t6, .any, .any, .any, .any, .any, .any, .any, .any, .any, .any, .any, .any, .any, .any, .any]
def f15_r7 : List LOp := [
  ⟨some 19, .move (.tmp 5), none⟩,
  ⟨some 20, .binOp .rem 22 (.tmp 19) (.const (.int .u64 2)) 22, none⟩,
  ⟨some 21, .binOp .eql 22 (.tmp 20) (.const (.int .u64 1)) 22, none⟩,
  ⟨some 4, .assign (.tmp 21), none⟩]
def f15_c : LC := (.seq (.reg f15_r0 [] none) (.seq (.reg f15_r1 [] none) (.seq (.seq (.reg f15_r2 [] none) (.block 0 (.loop f15_l6))) (.seq (.reg f15_r7 [] none) .ret))))
theorem f15_lc : Tryd.f15.body.map lc = some f15_c.st := by kernel_rfl
theorem f15_res : Tryd.f15.results.toList = [.tmp 4] := by kernel_rfl
theorem f15_nt : Tryd.f15.ntmps = 22 := by kernel_rfl
theorem f15_nm : (Tryd.f15.name == "runtime.NumGoroutine") = false := by kernel_rfl

/-! quill/quillref03.May -/
def f17_r0 : List LOp := [
  ⟨some 1, .box 27 (.tmp 0), none⟩,
  ⟨some 2, .assign (.const (.bool false)), none⟩]
def f17_r1 : List LOp := [
  ⟨some 6, .load 27 (.tmp 1), none⟩,
  ⟨some 7, .call { callee := .value (.func 38), args := #[.tmp 6], argTypes := #[27] }, none⟩,
  ⟨some 3, .assign (.tmp 7), none⟩]
def f17_r2 : List LOp := [
  ⟨some 8, .move (.tmp 3), none⟩,
  ⟨some 9, .call { callee := .builtin .len, args := #[.tmp 8], argTypes := #[25] }, none⟩,
  ⟨some 10, .move (.const (.int .i64 0)), none⟩]
def f17_r3 : List LOp := [
  ⟨some 11, .binOp .lss 3 (.tmp 10) (.tmp 9) 3, none⟩]
def f17_r4 : List LOp := [
  ⟨some 12, .move (.tmp 10), none⟩,
  ⟨some 4, .assign (.tmp 12), none⟩]
def f17_r5 : List LOp := [
  ⟨some 13, .move (.tmp 3), none⟩,
  ⟨some 14, .move (.tmp 4), none⟩,
  ⟨some 15, .indexAddr 25 (.tmp 13) (.tmp 14), none⟩,
  ⟨some 16, .fieldAddr 27 (.tmp 15) 1, none⟩,
  ⟨some 17, .load 24 (.tmp 16), none⟩,
  ⟨some 18, .build 24 #[], none⟩,
  ⟨some 19, .binOp .eql 24 (.tmp 17) (.tmp 18) 24, none⟩,
  ⟨some 5, .assign (.tmp 19), none⟩]
def f17_r6 : List LOp := [
  ⟨some 20, .move (.tmp 3), none⟩,
  ⟨some 21, .move (.tmp 4), none⟩,
  ⟨some 22, .indexAddr 25 (.tmp 20) (.tmp 21), none⟩,
  ⟨some 23, .fieldAddr 27 (.tmp 22) 0, none⟩,
  ⟨some 24, .load 5 (.tmp 23), none⟩,
  ⟨some 25, .binOp .lss 5 (.tmp 24) (.const (.int .u8 1)) 5, none⟩,
  ⟨some 26, .move (.tmp 25), none⟩,
  ⟨some 27, .move (.tmp 3), some (6, false)⟩,
  ⟨some 28, .move (.tmp 4), some (6, false)⟩,
  ⟨some 29, .indexAddr 25 (.tmp 27) (.tmp 28), some (6, false)⟩,
  ⟨some 30, .fieldAddr 27 (.tmp 29) 0, some (6, false)⟩,
  ⟨some 31, .load 5 (.tmp 30), some (6, false)⟩,
  ⟨some 32, .binOp .gtr 5 (.tmp 31) (.const (.int .u8 6)) 5, some (6, false)⟩,
  ⟨some 33, .pick (.tmp 26) (.const (.bool true)) (.tmp 32), none⟩,
  ⟨some 34, .move (.tmp 33), none⟩,
  ⟨some 35, .move (.tmp 3), some (14, false)⟩,
  ⟨some 36, .move (.tmp 4), some (14, false)⟩,
  ⟨some 37, .indexAddr 25 (.tmp 35) (.tmp 36), some (14, false)⟩,
  ⟨some 38, .fieldAddr 27 (.tmp 37) 0, some (14, false)⟩,
  ⟨some 39, .load 5 (.tmp 38), some (14, false)⟩,
  ⟨some 40, .binOp .eql 5 (.tmp 39) (.const (.int .u8 3)) 5, some (14, false)⟩,
  ⟨some 41, .move (.tmp 5), some (14, false)⟩,
  ⟨some 42, .binOp .eql 4 (.tmp 40) (.tmp 41) 4, some (14, false)⟩,
  ⟨some 43, .pick (.tmp 34) (.const (.bool true)) (.tmp 42), none⟩]
def f17_r7 : List LOp := [
  ⟨some 2, .assign (.const (.bool false)), none⟩]
def f17_r8 : List LOp := [
  ⟨some 44, .move (.tmp 3), none⟩,
  ⟨some 45, .move (.tmp 4), none⟩,
  ⟨some 46, .indexAddr 25 (.tmp 44) (.tmp 45), none⟩,
  ⟨some 47, .fieldAddr 27 (.tmp 46) 2, none⟩,
  ⟨some 48, .load 25 (.tmp 47), none⟩,
  ⟨some 49, .call { callee := .builtin .len, args := #[.tmp 48], argTypes := #[25] }, none⟩,
  ⟨some 50, .buildSlice 41 6 #[(0, .const (.int .i64 0)), (1, .const (.int .i64 0)), (2, .const (.int .i64 0)), (3, .const (.int .i64 2)), (4, .const (.int .i64 2)), (5, .const (.int .i64 1))], none⟩,
  ⟨some 51, .move (.tmp 3), none⟩,
  ⟨some 52, .move (.tmp 4), none⟩,
  ⟨some 53, .indexAddr 25 (.tmp 51) (.tmp 52), none⟩,
  ⟨some 54, .fieldAddr 27 (.tmp 53) 0, none⟩,
  ⟨some 55, .load 5 (.tmp 54), none⟩,
  ⟨some 56, .binOp .sub 5 (.tmp 55) (.const (.int .u8 1)) 5, none⟩,
  ⟨some 57, .indexAddr 41 (.tmp 50) (.tmp 56), none⟩,
  ⟨some 58, .load 3 (.tmp 57), none⟩,
  ⟨some 59, .binOp .neq 3 (.tmp 49) (.tmp 58) 3, none⟩]
def f17_r9 : List LOp := [
  ⟨some 2, .assign (.const (.bool false)), none⟩]
def f17_r10 : List LOp := [
  ⟨some 60, .binOp .add 3 (.tmp 10) (.const (.int .i64 1)) 3, none⟩,
  ⟨some 10, .move (.tmp 60), none⟩]
def f17_l11 : LC := (.seq (.reg f17_r3 [] none) (.seq (.cond (.tmp 11) .skip (.exit 0)) (.seq (.block 1 (.seq (.reg f17_r4 [] none) (.seq (.reg f17_r5 [] none) (.seq (.seq (.reg f17_r6 [] none) (.cond (.tmp 43) (.seq (.reg f17_r7 [] none) .ret) .skip)) (.seq (.reg f17_r8 [] (some 16)) (.cond (.tmp 59) (.seq (.reg f17_r9 [] none) .ret) .skip)))))) (.reg f17_r10 [] none))))
def f17_i11 (t3 t9 t10 : D) : List D := [.any, .any, .any, t3, .any, .any, .any, .any, .any, t9, t10, .any, .any, .any, .any, .any, .any, .any, .any, .any, .any, .any, .any, .any, .any, .any, .any, .any, .any, .any, .any, .any, .any, .any, .any, .any, .any, .any, .any, .any, .any, .any, .any, .any, .any, .any, .any, .any, .any, .any, .any, .any, .any, .any, .any, .any, .any, .any, .any, .any, .any, .any, .any, .any]
def f17_r12 : List LOp := [
  ⟨some 61, .move (.tmp 3), none⟩,
  ⟨some 62, .call { callee := .builtin .len, args := #[.tmp 61], argTypes := #[25] }, none⟩,
  ⟨some 63, .binOp .leq 3 (.tmp 62) (.const (.int .i64 2000)) 3, none⟩,
  ⟨some 2, .assign (.tmp 63), none⟩]
def f17_c : LC := (.seq (.reg f17_r0 [] none) (.seq (.reg f17_r1 [] none) (.seq (.seq (.reg f17_r2 [] none) (.block 0 (.loop f17_l11))) (.seq (.reg f17_r12 [] none) .ret))))
theorem f17_lc : Tryd.f17.body.map lc = some f17_c.st := by kernel_rfl
theorem f17_res : Tryd.f17.results.toList = [.tmp 2] := by kernel_rfl
theorem f17_nt : Tryd.f17.ntmps = 64 := by kernel_rfl
theorem f17_nm : (Tryd.f17.name == "runtime.NumGoroutine") = false := by kernel_rfl

/-! quill/read.Read -/
def f18_r0 : List LOp := [
  ⟨some 2, .alloc 27, none⟩,
  ⟨some 3, .assign (.const (.int .i64 0)), none⟩,
  ⟨some 4, .assign (.const (.int .i64 0)), none⟩]
def f18_r1 : List LOp := [
  ⟨some 8, .move (.tmp 0), none⟩,
  ⟨some 9, .call { callee := .builtin .len, args := #[.tmp 8], argTypes := #[9] }, none⟩,
  ⟨some 10, .binOp .gtr 3 (.tmp 9) (.const (.int .i64 65536)) 3, none⟩]
def f18_r2 : List LOp := [
  ⟨some 11, .build 27 #[], none⟩,
  ⟨none, .store 27 (.tmp 2) (.tmp 11), none⟩,
  ⟨some 3, .assign (.const (.int .i64 0)), none⟩,
  ⟨some 4, .assign (.const (.int .i64 3)), none⟩]
def f18_r3 : List LOp := [
  ⟨some 13, .move (.tmp 0), none⟩,
  ⟨some 14, .build 55 #[(0, .tmp 13)], none⟩,
  ⟨some 15, .box 55 (.tmp 14), none⟩,
  ⟨some 16, .call { callee := .value (.func 39), args := #[.tmp 15], argTypes := #[53] }, none⟩,
  ⟨some 12, .move (.tmp 16), none⟩,
  ⟨some 17, .extract (.tmp 12) 0, none⟩,
  ⟨some 18, .extract (.tmp 12) 1, none⟩,
  ⟨some 19, .extract (.tmp 12) 2, none⟩,
  ⟨some 5, .alloc 27, none⟩,
  ⟨none, .store 27 (.tmp 5) (.tmp 17), none⟩,
  ⟨some 6, .assign (.tmp 18), none⟩,
  ⟨some 7, .assign (.tmp 19), none⟩]
def f18_r4 : List LOp := [
  ⟨some 20, .move (.tmp 7), none⟩,
  ⟨some 21, .binOp .eql 35 (.tmp 20) (.const (.int .i64 0)) 35, none⟩,
  ⟨some 22, .move (.tmp 21), none⟩,
  ⟨some 23, .load 27 (.tmp 5), some (2, true)⟩,
  ⟨some 24, .buildSlice 25 1 #[(0, .tmp 23)], some (2, true)⟩,
  ⟨some 25, .call { callee := .value (.func 31), args := #[.tmp 24], argTypes := #[25] }, some (2, true)⟩,
  ⟨some 26, .unOp .not 4 (.tmp 25), some (2, true)⟩,
  ⟨some 27, .pick (.tmp 22) (.tmp 26) (.const (.bool false)), none⟩]
def f18_r5 : List LOp := [
  ⟨some 28, .build 27 #[], none⟩,
  ⟨none, .store 27 (.tmp 2) (.tmp 28), none⟩,
  ⟨some 3, .assign (.const (.int .i64 0)), none⟩,
  ⟨some 4, .assign (.const (.int .i64 4)), none⟩]
def f18_r6 : List LOp := [
  ⟨some 29, .load 27 (.tmp 5), none⟩,
  ⟨some 30, .move (.tmp 6), none⟩,
  ⟨some 31, .move (.tmp 7), none⟩,
  ⟨none, .store 27 (.tmp 2) (.tmp 29), none⟩,
  ⟨some 3, .assign (.tmp 30), none⟩,
  ⟨some 4, .assign (.tmp 31), none⟩]
def f18_c : LC := (.seq (.reg f18_r0 [] none) (.seq (.seq (.reg f18_r1 [] none) (.cond (.tmp 10) (.seq (.reg f18_r2 [] none) .ret) .skip)) (.seq (.reg f18_r3 [2] none) (.seq (.seq (.reg f18_r4 [] none) (.cond (.tmp 27) (.seq (.reg f18_r5 [] none) .ret) .skip)) (.seq (.reg f18_r6 [] none) .ret)))))
theorem f18_lc : Tryd.f18.body.map lc = some f18_c.st := by kernel_rfl
theorem f18_res : Tryd.f18.results.toList = [.cell 2 27, .tmp 3, .tmp 4] := by kernel_rfl
theorem f18_nt : Tryd.f18.ntmps = 32 := by kernel_rfl
theorem f18_nm : (Tryd.f18.name == "runtime.NumGoroutine") = false := by kernel_rfl

/-! quill/quillref03.count -/
def f28_r0 : List LOp := [
  ⟨some 2, .box 27 (.tmp 0), none⟩,
  ⟨some 4, .assign (.const (.int .i64 0)), none⟩]
def f28_r1 : List LOp := [
  ⟨some 5, .assign (.const (.int .i64 1)), none⟩]
def f28_r2 : List LOp := [
  ⟨some 7, .fieldAddr 27 (.tmp 2) 2, none⟩,
  ⟨some 8, .load 25 (.tmp 7), none⟩,
  ⟨some 9, .call { callee := .builtin .len, args := #[.tmp 8], argTypes := #[25] }, none⟩,
  ⟨some 10, .move (.const (.int .i64 0)), none⟩]
def f28_r3 : List LOp := [
  ⟨some 11, .binOp .lss 3 (.tmp 10) (.tmp 9) 3, none⟩]
def f28_r4 : List LOp := [
  ⟨some 12, .move (.tmp 10), none⟩,
  ⟨some 6, .assign (.tmp 12), none⟩]
def f28_r5 : List LOp := [
  ⟨some 13, .move (.tmp 5), none⟩,
  ⟨some 14, .move (.tmp 1), none⟩,
  ⟨some 15, .binOp .gtr 3 (.tmp 13) (.tmp 14) 3, none⟩]
def f28_r6 : List LOp := [
  ⟨some 16, .move (.tmp 5), none⟩,
  ⟨some 4, .assign (.tmp 16), none⟩]
def f28_r7 : List LOp := [
  ⟨some 17, .move (.tmp 5), none⟩,
  ⟨some 18, .fieldAddr 27 (.tmp 2) 2, none⟩,
  ⟨some 19, .load 25 (.tmp 18), none⟩,
  ⟨some 20, .move (.tmp 6), none⟩,
  ⟨some 21, .indexAddr 25 (.tmp 19) (.tmp 20), none⟩,
  ⟨some 22, .load 27 (.tmp 21), none⟩,
  ⟨some 23, .move (.tmp 1), none⟩,
  ⟨some 24, .call { callee := .value (.func 28), args := #[.tmp 22, .tmp 23], argTypes := #[27, 3] }, none⟩,
  ⟨some 25, .binOp .add 3 (.tmp 17) (.tmp 24) 3, none⟩,
  ⟨some 5, .assign (.tmp 25), none⟩]
def f28_r8 : List LOp := [
  ⟨some 26, .binOp .add 3 (.tmp 10) (.const (.int .i64 1)) 3, none⟩,
  ⟨some 10, .move (.tmp 26), none⟩]
def f28_l9 : LC := (.seq (.reg f28_r3 [] none) (.seq (.cond (.tmp 11) .skip (.exit 0)) (.seq (.block 1 (.seq (.reg f28_r4 [] none) (.seq (.seq (.reg f28_r5 [] none) (.cond (.tmp 15) (.seq (.reg f28_r6 [] none) .ret) .skip)) (.reg f28_r7 [] none)))) (.reg f28_r8 [] none))))
def f28_i9 (t1 t2 t5 t9 t10 : D) : List D := [.any, t1, t2, .any, .any, t5, .any, .any, .any, t9, t10, .any, .any, .any, .any, .any, .any, .any, .any, .any, .any, .any, .any, .any, .any, .any, .any, .any]
def f28_r10 : List LOp := [
  ⟨some 27, .move (.tmp 5), none⟩,
  ⟨some 4, .assign (.tmp 27), none⟩]
def f28_c : LC := (.seq (.reg f28_r0 [] none) (.seq (.reg f28_r1 [] none) (.seq (.seq (.reg f28_r2 [] none) (.block 0 (.loop f28_l9))) (.seq (.reg f28_r10 [] none) .ret))))
theorem f28_lc : Tryd.f28.body.map lc = some f28_c.st := by kernel_rfl
theorem f28_res : Tryd.f28.results.toList = [.tmp 4] := by kernel_rfl
theorem f28_nt : Tryd.f28.ntmps = 28 := by kernel_rfl
theorem f28_nm : (Tryd.f28.name == "runtime.NumGoroutine") = false := by kernel_rfl

/-! quill/set.Of -/
def f29_r0 : List LOp := [
  ⟨some 2, .alloc 24, none⟩]
def f29_r1 : List LOp := [
  ⟨some 3, .alloc 24, none⟩]
def f29_r2 : List LOp := [
  ⟨some 6, .move (.tmp 0), none⟩,
  ⟨some 7, .call { callee := .builtin .len, args := #[.tmp 6], argTypes := #[59] }, none⟩,
  ⟨some 8, .move (.const (.int .i64 0)), none⟩]
def f29_r3 : List LOp := [
  ⟨some 9, .binOp .lss 3 (.tmp 8) (.tmp 7) 3, none⟩]
def f29_r4 : List LOp := [
  ⟨some 10, .indexAddr 59 (.tmp 6) (.tmp 8), none⟩,
  ⟨some 11, .load 5 (.tmp 10), none⟩,
  ⟨some 5, .assign (.tmp 11), none⟩]
def f29_r5 : List LOp := [
  ⟨some 12, .move (.tmp 5), none⟩,
  ⟨some 13, .binOp .quo 5 (.tmp 12) (.const (.int .u8 64)) 5, none⟩,
  ⟨some 14, .indexAddr 24 (.tmp 3) (.tmp 13), none⟩,
  ⟨some 15, .load 22 (.tmp 14), none⟩,
  ⟨some 16, .move (.tmp 5), none⟩,
  ⟨some 17, .binOp .rem 5 (.tmp 16) (.const (.int .u8 64)) 5, none⟩,
  ⟨some 18, .binOp .shl 22 (.const (.int .u64 1)) (.tmp 17) 5, none⟩,
  ⟨some 19, .binOp .or 22 (.tmp 15) (.tmp 18) 22, none⟩,
  ⟨some 20, .indexAddr 24 (.tmp 3) (.tmp 13), none⟩,
  ⟨none, .store 22 (.tmp 20) (.tmp 19), none⟩]
def f29_r6 : List LOp := [
  ⟨some 21, .binOp .add 3 (.tmp 8) (.const (.int .i64 1)) 3, none⟩,
  ⟨some 8, .move (.tmp 21), none⟩]
def f29_l7 : LC := (.seq (.reg f29_r3 [] none) (.seq (.cond (.tmp 9) .skip (.exit 0)) (.seq (.block 1 (.seq (.reg f29_r4 [] none) (.reg f29_r5 [] none))) (.reg f29_r6 [] none))))
def f29_i7 (t2 t3 t6 t7 t8 : D) : List D := [.any, .any, t2, t3, .any, .any, t6, t7, t8, .any, .any, .any, .any, .any, .any, .any, .any, .any, .any, .any, .any, .any, .any]
def f29_r8 : List LOp := [
  ⟨some 22, .load 24 (.tmp 3), none⟩,
  ⟨none, .store 24 (.tmp 2) (.tmp 22), none⟩]
def f29_c : LC := (.seq (.reg f29_r0 [] none) (.seq (.reg f29_r1 [] none) (.seq (.seq (.reg f29_r2 [] none) (.block 0 (.loop f29_l7))) (.seq (.reg f29_r8 [] none) .ret))))
theorem f29_lc : Tryd.f29.body.map lc = some f29_c.st := by kernel_rfl
theorem f29_res : Tryd.f29.results.toList = [.cell 2 24] := by kernel_rfl
theorem f29_nt : Tryd.f29.ntmps = 23 := by kernel_rfl
theorem f29_nm : (Tryd.f29.name == "runtime.NumGoroutine") = false := by kernel_rfl

/-! quill/null.Null -/
def f30_r0 : List LOp := [
  ⟨some 2, .assign (.const (.bool false)), none⟩]
def f30_r1 : List LOp := [
  ⟨some 3, .move (.tmp 0), none⟩,
  ⟨some 4, .call { callee := .value (.func 48), args := #[.tmp 3, .func 49], argTypes := #[25, 33] }, none⟩,
  ⟨some 5, .unOp .not 4 (.tmp 4), none⟩,
  ⟨some 2, .assign (.tmp 5), none⟩]
def f30_c : LC := (.seq (.reg f30_r0 [] none) (.seq (.reg f30_r1 [] none) .ret))
theorem f30_lc : Tryd.f30.body.map lc = some f30_c.st := by kernel_rfl
theorem f30_res : Tryd.f30.results.toList = [.tmp 2] := by kernel_rfl
theorem f30_nt : Tryd.f30.ntmps = 6 := by kernel_rfl
theorem f30_nm : (Tryd.f30.name == "runtime.NumGoroutine") = false := by kernel_rfl

/-! quill/rex.May -/
def f31_r0 : List LOp := [
  ⟨some 2, .assign (.const (.bool false)), none⟩]
def f31_r1 : List LOp := [
  ⟨some 3, .move (.tmp 0), none⟩,
  ⟨some 4, .call { callee := .value (.func 48), args := #[.tmp 3, .func 51], argTypes := #[25, 33] }, none⟩,
  ⟨some 5, .unOp .not 4 (.tmp 4), none⟩,
  ⟨some 2, .assign (.tmp 5), none⟩]
def f31_c : LC := (.seq (.reg f31_r0 [] none) (.seq (.reg f31_r1 [] none) .ret))
theorem f31_lc : Tryd.f31.body.map lc = some f31_c.st := by kernel_rfl
theorem f31_res : Tryd.f31.results.toList = [.tmp 2] := by kernel_rfl
theorem f31_nt : Tryd.f31.ntmps = 6 := by kernel_rfl
theorem f31_nm : (Tryd.f31.name == "runtime.NumGoroutine") = false := by kernel_rfl

/-! quill/null.first -/
def f32_r0 : List LOp := [
  ⟨some 1, .box 27 (.tmp 0), none⟩,
  ⟨some 2, .alloc 24, none⟩]
def f32_r1 : List LOp := [
  ⟨some 3, .fieldAddr 27 (.tmp 1) 0, none⟩,
  ⟨some 4, .load 5 (.tmp 3), none⟩]
def f32_r2 : List LOp := [
  ⟨some 6, .binOp .eql 5 (.tmp 4) (.const (.int .u8 3)) 5, none⟩,
  ⟨some 5, .assign (.tmp 6), none⟩]
def f32_r3 : List LOp := [
  ⟨some 7, .fieldAddr 27 (.tmp 1) 1, none⟩,
  ⟨some 8, .load 24 (.tmp 7), none⟩,
  ⟨none, .store 24 (.tmp 2) (.tmp 8), none⟩]
def f32_r4 : List LOp := [
  ⟨some 10, .binOp .eql 5 (.tmp 4) (.const (.int .u8 6)) 5, none⟩,
  ⟨some 9, .assign (.tmp 10), none⟩]
def f32_r5 : List LOp := [
  ⟨some 11, .fieldAddr 27 (.tmp 1) 2, none⟩,
  ⟨some 12, .load 25 (.tmp 11), none⟩,
  ⟨some 13, .indexAddr 25 (.tmp 12) (.const (.int .i64 0)), none⟩,
  ⟨some 14, .load 27 (.tmp 13), none⟩,
  ⟨some 15, .call { callee := .value (.func 32), args := #[.tmp 14], argTypes := #[27] }, none⟩,
  ⟨none, .store 24 (.tmp 2) (.tmp 15), none⟩]
def f32_r6 : List LOp := [
  ⟨some 17, .binOp .eql 5 (.tmp 4) (.const (.int .u8 5)) 5, none⟩,
  ⟨some 16, .assign (.tmp 17), none⟩]
def f32_r7 : List LOp := [
  ⟨some 18, .fieldAddr 27 (.tmp 1) 2, none⟩,
  ⟨some 19, .load 25 (.tmp 18), none⟩,
  ⟨some 20, .indexAddr 25 (.tmp 19) (.const (.int .i64 0)), none⟩,
  ⟨some 21, .load 27 (.tmp 20), none⟩,
  ⟨some 22, .call { callee := .value (.func 32), args := #[.tmp 21], argTypes := #[27] }, none⟩,
  ⟨some 23, .fieldAddr 27 (.tmp 1) 2, none⟩,
  ⟨some 24, .load 25 (.tmp 23), none⟩,
  ⟨some 25, .indexAddr 25 (.tmp 24) (.const (.int .i64 1)), none⟩,
  ⟨some 26, .load 27 (.tmp 25), none⟩,
  ⟨some 27, .call { callee := .value (.func 32), args := #[.tmp 26], argTypes := #[27] }, none⟩,
  ⟨some 28, .buildSlice 100 2 #[(0, .tmp 22), (1, .tmp 27)], none⟩,
  ⟨some 29, .call { callee := .value (.func 54), args := #[.tmp 28], argTypes := #[100] }, none⟩,
  ⟨none, .store 24 (.tmp 2) (.tmp 29), none⟩]
def f32_r8 : List LOp := [
  ⟨some 31, .binOp .eql 5 (.tmp 4) (.const (.int .u8 4)) 5, none⟩,
  ⟨some 30, .assign (.tmp 31), none⟩]
def f32_r9 : List LOp := [
  ⟨some 33, .load 27 (.tmp 1), none⟩,
  ⟨some 34, .call { callee := .value (.func 55), args := #[.tmp 33], argTypes := #[27] }, none⟩,
  ⟨some 32, .assign (.tmp 34), none⟩]
def f32_r10 : List LOp := [
  ⟨some 35, .build 24 #[], none⟩,
  ⟨none, .store 24 (.tmp 2) (.tmp 35), none⟩]
def f32_r11 : List LOp := [
  ⟨some 37, .fieldAddr 27 (.tmp 1) 2, none⟩,
  ⟨some 38, .load 25 (.tmp 37), none⟩,
  ⟨some 39, .indexAddr 25 (.tmp 38) (.const (.int .i64 0)), none⟩,
  ⟨some 40, .load 27 (.tmp 39), none⟩,
  ⟨some 41, .call { callee := .value (.func 50), args := #[.tmp 40], argTypes := #[27] }, none⟩,
  ⟨some 36, .assign (.tmp 41), none⟩]
def f32_r12 : List LOp := [
  ⟨some 42, .fieldAddr 27 (.tmp 1) 2, none⟩,
  ⟨some 43, .load 25 (.tmp 42), none⟩,
  ⟨some 44, .indexAddr 25 (.tmp 43) (.const (.int .i64 0)), none⟩,
  ⟨some 45, .load 27 (.tmp 44), none⟩,
  ⟨some 46, .call { callee := .value (.func 32), args := #[.tmp 45], argTypes := #[27] }, none⟩,
  ⟨some 47, .fieldAddr 27 (.tmp 1) 2, none⟩,
  ⟨some 48, .load 25 (.tmp 47), none⟩,
  ⟨some 49, .indexAddr 25 (.tmp 48) (.const (.int .i64 1)), none⟩,
  ⟨some 50, .load 27 (.tmp 49), none⟩,
  ⟨some 51, .call { callee := .value (.func 32), args := #[.tmp 50], argTypes := #[27] }, none⟩,
  ⟨some 52, .buildSlice 100 2 #[(0, .tmp 46), (1, .tmp 51)], none⟩,
  ⟨some 53, .call { callee := .value (.func 54), args := #[.tmp 52], argTypes := #[100] }, none⟩,
  ⟨none, .store 24 (.tmp 2) (.tmp 53), none⟩]
def f32_r13 : List LOp := [
  ⟨some 54, .fieldAddr 27 (.tmp 1) 2, none⟩,
  ⟨some 55, .load 25 (.tmp 54), none⟩,
  ⟨some 56, .indexAddr 25 (.tmp 55) (.const (.int .i64 0)), none⟩,
  ⟨some 57, .load 27 (.tmp 56), none⟩,
  ⟨some 58, .call { callee := .value (.func 32), args := #[.tmp 57], argTypes := #[27] }, none⟩,
  ⟨none, .store 24 (.tmp 2) (.tmp 58), none⟩]
def f32_r14 : List LOp := [
  ⟨some 59, .build 24 #[], none⟩,
  ⟨none, .store 24 (.tmp 2) (.tmp 59), none⟩]
def f32_c : LC := (.seq (.reg f32_r0 [] none) (.seq (.seq (.reg f32_r1 [] none) (.block 0 (.seq (.reg f32_r2 [] none) (.cond (.tmp 5) (.seq (.reg f32_r3 [] none) .ret) (.seq (.reg f32_r4 [] none) (.cond (.tmp 9) (.seq (.reg f32_r5 [] none) .ret) (.seq (.reg f32_r6 [] none) (.cond (.tmp 16) (.seq (.reg f32_r7 [] (some 9)) .ret) (.seq (.reg f32_r8 [] none) (.cond (.tmp 30) (.seq (.block 1 (.seq (.reg f32_r9 [] none) (.cond (.tmp 32) (.seq (.reg f32_r10 [] none) .ret) (.seq (.reg f32_r11 [] none) (.cond (.tmp 36) (.seq (.reg f32_r12 [] (some 9)) .ret) .skip))))) (.seq (.reg f32_r13 [] none) .ret)) .skip)))))))))) (.seq (.reg f32_r14 [] none) .ret)))
theorem f32_lc : Tryd.f32.body.map lc = some f32_c.st := by kernel_rfl
theorem f32_res : Tryd.f32.results.toList = [.cell 2 24] := by kernel_rfl
theorem f32_nt : Tryd.f32.ntmps = 60 := by kernel_rfl
theorem f32_nm : (Tryd.f32.name == "runtime.NumGoroutine") = false := by kernel_rfl

/-! quill/null.shortest -/
def f33_r0 : List LOp := [
  ⟨some 1, .box 27 (.tmp 0), none⟩,
  ⟨some 2, .assign (.const (.string { data := #[] })), none⟩,
  ⟨some 3, .assign (.const (.bool false)), none⟩]
def f33_r1 : List LOp := [
  ⟨some 8, .fieldAddr 27 (.tmp 1) 0, none⟩,
  ⟨some 9, .load 5 (.tmp 8), none⟩]
def f33_r2 : List LOp := [
  ⟨some 11, .binOp .eql 5 (.tmp 9) (.const (.int .u8 2)) 5, none⟩,
  ⟨some 10, .assign (.tmp 11), none⟩]
def f33_r3 : List LOp := [
  ⟨some 12, .binOp .eql 5 (.tmp 9) (.const (.int .u8 6)) 5, none⟩,
  ⟨some 10, .assign (.tmp 12), none⟩]
def f33_r4 : List LOp := [
  ⟨some 2, .assign (.const (.string { data := #[] })), none⟩,
  ⟨some 3, .assign (.const (.bool true)), none⟩]
def f33_r5 : List LOp := [
  ⟨some 14, .binOp .eql 5 (.tmp 9) (.const (.int .u8 3)) 5, none⟩,
  ⟨some 13, .assign (.tmp 14), none⟩]
def f33_r6 : List LOp := [
  ⟨some 15, .fieldAddr 27 (.tmp 1) 1, none⟩,
  ⟨some 16, .load 24 (.tmp 15), none⟩,
  ⟨some 17, .call { callee := .value (.func 56), args := #[.tmp 16], argTypes := #[24] }, none⟩,
  ⟨some 18, .slice 59 (.tmp 17) none (some (.const (.int .i64 1))) none, none⟩,
  ⟨some 19, .convert 59 9 (.tmp 18), none⟩,
  ⟨some 2, .assign (.tmp 19), none⟩,
  ⟨some 3, .assign (.const (.bool true)), none⟩]
def f33_r7 : List LOp := [
  ⟨some 21, .binOp .eql 5 (.tmp 9) (.const (.int .u8 1)) 5, none⟩,
  ⟨some 20, .assign (.tmp 21), none⟩]
def f33_r8 : List LOp := [
  ⟨some 2, .assign (.const (.string { data := #[] })), none⟩,
  ⟨some 3, .assign (.const (.bool false)), none⟩]
def f33_r9 : List LOp := [
  ⟨some 23, .fieldAddr 27 (.tmp 1) 2, none⟩,
  ⟨some 24, .load 25 (.tmp 23), none⟩,
  ⟨some 25, .indexAddr 25 (.tmp 24) (.const (.int .i64 0)), none⟩,
  ⟨some 26, .load 27 (.tmp 25), none⟩,
  ⟨some 27, .call { callee := .value (.func 33), args := #[.tmp 26], argTypes := #[27] }, none⟩,
  ⟨some 22, .move (.tmp 27), none⟩,
  ⟨some 28, .extract (.tmp 22) 0, none⟩,
  ⟨some 29, .extract (.tmp 22) 1, none⟩,
  ⟨some 4, .assign (.tmp 28), none⟩,
  ⟨some 5, .assign (.tmp 29), none⟩]
def f33_r10 : List LOp := [
  ⟨some 31, .fieldAddr 27 (.tmp 1) 2, none⟩,
  ⟨some 32, .load 25 (.tmp 31), none⟩,
  ⟨some 33, .indexAddr 25 (.tmp 32) (.const (.int .i64 1)), none⟩,
  ⟨some 34, .load 27 (.tmp 33), none⟩,
  ⟨some 35, .call { callee := .value (.func 33), args := #[.tmp 34], argTypes := #[27] }, none⟩,
  ⟨some 30, .move (.tmp 35), none⟩,
  ⟨some 36, .extract (.tmp 30) 0, none⟩,
  ⟨some 37, .extract (.tmp 30) 1, none⟩,
  ⟨some 6, .assign (.tmp 36), none⟩,
  ⟨some 7, .assign (.tmp 37), none⟩]
def f33_r11 : List LOp := [
  ⟨some 38, .fieldAddr 27 (.tmp 1) 0, none⟩,
  ⟨some 39, .load 5 (.tmp 38), none⟩,
  ⟨some 40, .binOp .eql 5 (.tmp 39) (.const (.int .u8 4)) 5, none⟩]
def f33_r12 : List LOp := [
  ⟨some 41, .move (.tmp 5), none⟩,
  ⟨some 42, .unOp .not 4 (.tmp 41), none⟩,
  ⟨some 43, .move (.tmp 42), none⟩,
  ⟨some 44, .move (.tmp 7), some (2, false)⟩,
  ⟨some 45, .unOp .not 4 (.tmp 44), some (2, false)⟩,
  ⟨some 46, .pick (.tmp 43) (.const (.bool true)) (.tmp 45), none⟩,
  ⟨some 47, .move (.tmp 46), none⟩,
  ⟨some 48, .move (.tmp 4), some (6, false)⟩,
  ⟨some 49, .call { callee := .builtin .len, args := #[.tmp 48], argTypes := #[9] }, some (6, false)⟩,
  ⟨some 50, .move (.tmp 6), some (6, false)⟩,
  ⟨some 51, .call { callee := .builtin .len, args := #[.tmp 50], argTypes := #[9] }, some (6, false)⟩,
  ⟨some 52, .binOp .add 3 (.tmp 49) (.tmp 51) 3, some (6, false)⟩,
  ⟨some 53, .binOp .gtr 3 (.tmp 52) (.const (.int .i64 100)) 3, some (6, false)⟩,
  ⟨some 54, .pick (.tmp 47) (.const (.bool true)) (.tmp 53), none⟩]
def f33_r13 : List LOp := [
  ⟨some 2, .assign (.const (.string { data := #[] })), none⟩,
  ⟨some 3, .assign (.const (.bool false)), none⟩]
def f33_r14 : List LOp := [
  ⟨some 55, .move (.tmp 4), none⟩,
  ⟨some 56, .move (.tmp 6), none⟩,
  ⟨some 57, .binOp .add 9 (.tmp 55) (.tmp 56) 9, none⟩,
  ⟨some 2, .assign (.tmp 57), none⟩,
  ⟨some 3, .assign (.const (.bool true)), none⟩]
def f33_r15 : List LOp := [
  ⟨some 58, .move (.tmp 5), none⟩,
  ⟨some 59, .unOp .not 4 (.tmp 58), none⟩,
  ⟨some 60, .move (.tmp 59), none⟩,
  ⟨some 61, .move (.tmp 7), some (2, false)⟩,
  ⟨some 62, .move (.tmp 61), some (2, false)⟩,
  ⟨some 63, .move (.tmp 6), some (4, true)⟩,
  ⟨some 64, .move (.tmp 4), some (4, true)⟩,
  ⟨some 65, .call { callee := .value (.func 57), args := #[.tmp 63, .tmp 64], argTypes := #[9, 9] }, some (4, true)⟩,
  ⟨some 66, .pick (.tmp 62) (.tmp 65) (.const (.bool false)), some (2, false)⟩,
  ⟨some 67, .pick (.tmp 60) (.const (.bool true)) (.tmp 66), none⟩]
def f33_r16 : List LOp := [
  ⟨some 68, .move (.tmp 6), none⟩,
  ⟨some 69, .move (.tmp 7), none⟩,
  ⟨some 2, .assign (.tmp 68), none⟩,
  ⟨some 3, .assign (.tmp 69), none⟩]
def f33_r17 : List LOp := [
  ⟨some 70, .move (.tmp 4), none⟩,
  ⟨some 2, .assign (.tmp 70), none⟩,
  ⟨some 3, .assign (.const (.bool true)), none⟩]
def f33_c : LC := (.seq (.reg f33_r0 [] none) (.seq (.seq (.reg f33_r1 [] none) (.block 0 (.seq (.seq (.reg f33_r2 [] none) (.cond (.tmp 10) .skip (.reg f33_r3 [] none))) (.cond (.tmp 10) (.seq (.reg f33_r4 [] none) .ret) (.seq (.reg f33_r5 [] none) (.cond (.tmp 13) (.seq (.reg f33_r6 [] none) .ret) (.seq (.reg f33_r7 [] none) (.cond (.tmp 20) (.seq (.reg f33_r8 [] none) .ret) .skip)))))))) (.seq (.reg f33_r9 [] none) (.seq (.reg f33_r10 [] none) (.seq (.seq (.reg f33_r11 [] none) (.cond (.tmp 40) (.seq (.seq (.reg f33_r12 [] none) (.cond (.tmp 54) (.seq (.reg f33_r13 [] none) .ret) .skip)) (.seq (.reg f33_r14 [] none) .ret)) .skip)) (.seq (.seq (.reg f33_r15 [] none) (.cond (.tmp 67) (.seq (.reg f33_r16 [] none) .ret) .skip)) (.seq (.reg f33_r17 [] none) .ret)))))))
theorem f33_lc : Tryd.f33.body.map lc = some f33_c.st := by kernel_rfl
theorem f33_res : Tryd.f33.results.toList = [.tmp 2, .tmp 3] := by kernel_rfl
theorem f33_nt : Tryd.f33.ntmps = 71 := by kernel_rfl
theorem f33_nm : (Tryd.f33.name == "runtime.NumGoroutine") = false := by kernel_rfl

/-! quill/quillref07.short -/
def f34_r0 : List LOp := [
  ⟨some 1, .box 27 (.tmp 0), none⟩,
  ⟨some 2, .assign (.const (.string { data := #[] })), none⟩,
  ⟨some 3, .assign (.const (.bool false)), none⟩]
def f34_r1 : List LOp := [
  ⟨some 8, .fieldAddr 27 (.tmp 1) 0, none⟩,
  ⟨some 9, .load 5 (.tmp 8), none⟩,
  ⟨some 10, .binOp .eql 5 (.tmp 9) (.const (.int .u8 1)) 5, none⟩]
def f34_r2 : List LOp := [
  ⟨some 2, .assign (.const (.string { data := #[] })), none⟩,
  ⟨some 3, .assign (.const (.bool false)), none⟩]
def f34_r3 : List LOp := [
  ⟨some 11, .fieldAddr 27 (.tmp 1) 0, none⟩,
  ⟨some 12, .load 5 (.tmp 11), none⟩,
  ⟨some 13, .binOp .eql 5 (.tmp 12) (.const (.int .u8 2)) 5, none⟩,
  ⟨some 14, .move (.tmp 13), none⟩,
  ⟨some 15, .fieldAddr 27 (.tmp 1) 0, some (3, false)⟩,
  ⟨some 16, .load 5 (.tmp 15), some (3, false)⟩,
  ⟨some 17, .binOp .eql 5 (.tmp 16) (.const (.int .u8 6)) 5, some (3, false)⟩,
  ⟨some 18, .pick (.tmp 14) (.const (.bool true)) (.tmp 17), none⟩]
def f34_r4 : List LOp := [
  ⟨some 2, .assign (.const (.string { data := #[] })), none⟩,
  ⟨some 3, .assign (.const (.bool true)), none⟩]
def f34_r5 : List LOp := [
  ⟨some 19, .fieldAddr 27 (.tmp 1) 0, none⟩,
  ⟨some 20, .load 5 (.tmp 19), none⟩,
  ⟨some 21, .binOp .eql 5 (.tmp 20) (.const (.int .u8 3)) 5, none⟩]
def f34_r6 : List LOp := [
  ⟨some 22, .fieldAddr 27 (.tmp 1) 1, none⟩,
  ⟨some 23, .load 24 (.tmp 22), none⟩,
  ⟨some 24, .call { callee := .value (.func 58), args := #[.tmp 23], argTypes := #[24] }, none⟩,
  ⟨some 25, .slice 59 (.tmp 24) none (some (.const (.int .i64 1))) none, none⟩,
  ⟨some 26, .convert 59 9 (.tmp 25), none⟩,
  ⟨some 2, .assign (.tmp 26), none⟩,
  ⟨some 3, .assign (.const (.bool true)), none⟩]
def f34_r7 : List LOp := [
  ⟨some 28, .fieldAddr 27 (.tmp 1) 2, none⟩,
  ⟨some 29, .load 25 (.tmp 28), none⟩,
  ⟨some 30, .indexAddr 25 (.tmp 29) (.const (.int .i64 0)), none⟩,
  ⟨some 31, .load 27 (.tmp 30), none⟩,
  ⟨some 32, .call { callee := .value (.func 34), args := #[.tmp 31], argTypes := #[27] }, none⟩,
  ⟨some 27, .move (.tmp 32), none⟩,
  ⟨some 33, .extract (.tmp 27) 0, none⟩,
  ⟨some 34, .extract (.tmp 27) 1, none⟩,
  ⟨some 4, .assign (.tmp 33), none⟩,
  ⟨some 5, .assign (.tmp 34), none⟩]
def f34_r8 : List LOp := [
  ⟨some 36, .fieldAddr 27 (.tmp 1) 2, none⟩,
  ⟨some 37, .load 25 (.tmp 36), none⟩,
  ⟨some 38, .indexAddr 25 (.tmp 37) (.const (.int .i64 1)), none⟩,
  ⟨some 39, .load 27 (.tmp 38), none⟩,
  ⟨some 40, .call { callee := .value (.func 34), args := #[.tmp 39], argTypes := #[27] }, none⟩,
  ⟨some 35, .move (.tmp 40), none⟩,
  ⟨some 41, .extract (.tmp 35) 0, none⟩,
  ⟨some 42, .extract (.tmp 35) 1, none⟩,
  ⟨some 6, .assign (.tmp 41), none⟩,
  ⟨some 7, .assign (.tmp 42), none⟩]
def f34_r9 : List LOp := [
  ⟨some 43, .fieldAddr 27 (.tmp 1) 0, none⟩,
  ⟨some 44, .load 5 (.tmp 43), none⟩,
  ⟨some 45, .binOp .eql 5 (.tmp 44) (.const (.int .u8 4)) 5, none⟩]
def f34_r10 : List LOp := [
  ⟨some 46, .move (.tmp 5), none⟩,
  ⟨some 47, .move (.tmp 46), none⟩,
  ⟨some 48, .move (.tmp 7), some (1, true)⟩,
  ⟨some 49, .pick (.tmp 47) (.tmp 48) (.const (.bool false)), none⟩,
  ⟨some 50, .move (.tmp 49), none⟩,
  ⟨some 51, .move (.tmp 4), some (4, true)⟩,
  ⟨some 52, .call { callee := .builtin .len, args := #[.tmp 51], argTypes := #[9] }, some (4, true)⟩,
  ⟨some 53, .move (.tmp 6), some (4, true)⟩,
  ⟨some 54, .call { callee := .builtin .len, args := #[.tmp 53], argTypes := #[9] }, some (4, true)⟩,
  ⟨some 55, .binOp .add 3 (.tmp 52) (.tmp 54) 3, some (4, true)⟩,
  ⟨some 56, .binOp .leq 3 (.tmp 55) (.const (.int .i64 100)) 3, some (4, true)⟩,
  ⟨some 57, .pick (.tmp 50) (.tmp 56) (.const (.bool false)), none⟩]
def f34_r11 : List LOp := [
  ⟨some 58, .move (.tmp 4), none⟩,
  ⟨some 59, .move (.tmp 6), none⟩,
  ⟨some 60, .binOp .add 9 (.tmp 58) (.tmp 59) 9, none⟩,
  ⟨some 2, .assign (.tmp 60), none⟩,
  ⟨some 3, .assign (.const (.bool true)), none⟩]
def f34_r12 : List LOp := [
  ⟨some 2, .assign (.const (.string { data := #[] })), none⟩,
  ⟨some 3, .assign (.const (.bool false)), none⟩]
def f34_r13 : List LOp := [
  ⟨some 61, .move (.tmp 5), none⟩,
  ⟨some 62, .move (.tmp 61), none⟩,
  ⟨some 63, .move (.tmp 7), some (1, true)⟩,
  ⟨some 64, .unOp .not 4 (.tmp 63), some (1, true)⟩,
  ⟨some 65, .move (.tmp 64), some (1, true)⟩,
  ⟨some 66, .move (.tmp 6), some (4, false)⟩,
  ⟨some 67, .move (.tmp 4), some (4, false)⟩,
  ⟨some 68, .call { callee := .value (.func 59), args := #[.tmp 66, .tmp 67], argTypes := #[9, 9] }, some (4, false)⟩,
  ⟨some 69, .unOp .not 4 (.tmp 68), some (4, false)⟩,
  ⟨some 70, .pick (.tmp 65) (.const (.bool true)) (.tmp 69), some (1, true)⟩,
  ⟨some 71, .pick (.tmp 62) (.tmp 70) (.const (.bool false)), none⟩]
def f34_r14 : List LOp := [
  ⟨some 72, .move (.tmp 4), none⟩,
  ⟨some 2, .assign (.tmp 72), none⟩,
  ⟨some 3, .assign (.const (.bool true)), none⟩]
def f34_r15 : List LOp := [
  ⟨some 73, .move (.tmp 6), none⟩,
  ⟨some 74, .move (.tmp 7), none⟩,
  ⟨some 2, .assign (.tmp 73), none⟩,
  ⟨some 3, .assign (.tmp 74), none⟩]
def f34_c : LC := (.seq (.reg f34_r0 [] none) (.seq (.seq (.reg f34_r1 [] none) (.cond (.tmp 10) (.seq (.reg f34_r2 [] none) .ret) .skip)) (.seq (.seq (.reg f34_r3 [] none) (.cond (.tmp 18) (.seq (.reg f34_r4 [] none) .ret) .skip)) (.seq (.seq (.reg f34_r5 [] none) (.cond (.tmp 21) (.seq (.reg f34_r6 [] none) .ret) .skip)) (.seq (.reg f34_r7 [] none) (.seq (.reg f34_r8 [] none) (.seq (.seq (.reg f34_r9 [] none) (.cond (.tmp 45) (.seq (.seq (.reg f34_r10 [] none) (.cond (.tmp 57) (.seq (.reg f34_r11 [] none) .ret) .skip)) (.seq (.reg f34_r12 [] none) .ret)) .skip)) (.seq (.seq (.reg f34_r13 [] none) (.cond (.tmp 71) (.seq (.reg f34_r14 [] none) .ret) .skip)) (.seq (.reg f34_r15 [] none) .ret)))))))))
theorem f34_lc : Tryd.f34.body.map lc = some f34_c.st := by kernel_rfl
theorem f34_res : Tryd.f34.results.toList = [.tmp 2, .tmp 3] := by kernel_rfl
theorem f34_nt : Tryd.f34.ntmps = 75 := by kernel_rfl
theorem f34_nm : (Tryd.f34.name == "runtime.NumGoroutine") = false := by kernel_rfl

/-! quill/quillref07.begins -/
def f35_r0 : List LOp := [
  ⟨some 1, .box 27 (.tmp 0), none⟩,
  ⟨some 2, .alloc 24, none⟩]
def f35_r1 : List LOp := [
  ⟨some 4, .fieldAddr 27 (.tmp 1) 0, none⟩,
  ⟨some 5, .load 5 (.tmp 4), none⟩,
  ⟨some 6, .binOp .eql 5 (.tmp 5) (.const (.int .u8 3)) 5, none⟩]
def f35_r2 : List LOp := [
  ⟨some 7, .fieldAddr 27 (.tmp 1) 1, none⟩,
  ⟨some 8, .load 24 (.tmp 7), none⟩,
  ⟨none, .store 24 (.tmp 2) (.tmp 8), none⟩]
def f35_r3 : List LOp := [
  ⟨some 9, .load 27 (.tmp 1), none⟩,
  ⟨some 10, .call { callee := .value (.func 60), args := #[.tmp 9], argTypes := #[27] }, none⟩,
  ⟨some 11, .unOp .not 4 (.tmp 10), none⟩,
  ⟨some 12, .move (.tmp 11), none⟩,
  ⟨some 13, .fieldAddr 27 (.tmp 1) 2, some (3, false)⟩,
  ⟨some 14, .load 25 (.tmp 13), some (3, false)⟩,
  ⟨some 15, .call { callee := .builtin .len, args := #[.tmp 14], argTypes := #[25] }, some (3, false)⟩,
  ⟨some 16, .binOp .eql 3 (.tmp 15) (.const (.int .i64 0)) 3, some (3, false)⟩,
  ⟨some 17, .pick (.tmp 12) (.const (.bool true)) (.tmp 16), none⟩]
def f35_r4 : List LOp := [
  ⟨some 18, .build 24 #[], none⟩,
  ⟨none, .store 24 (.tmp 2) (.tmp 18), none⟩]
def f35_r5 : List LOp := [
  ⟨some 19, .fieldAddr 27 (.tmp 1) 2, none⟩,
  ⟨some 20, .load 25 (.tmp 19), none⟩,
  ⟨some 21, .indexAddr 25 (.tmp 20) (.const (.int .i64 0)), none⟩,
  ⟨some 22, .load 27 (.tmp 21), none⟩,
  ⟨some 23, .call { callee := .value (.func 35), args := #[.tmp 22], argTypes := #[27] }, none⟩,
  ⟨some 3, .alloc 24, none⟩,
  ⟨none, .store 24 (.tmp 3) (.tmp 23), none⟩]
def f35_r6 : List LOp := [
  ⟨some 24, .fieldAddr 27 (.tmp 1) 0, none⟩,
  ⟨some 25, .load 5 (.tmp 24), none⟩,
  ⟨some 26, .binOp .eql 5 (.tmp 25) (.const (.int .u8 5)) 5, none⟩,
  ⟨some 27, .move (.tmp 26), none⟩,
  ⟨some 28, .fieldAddr 27 (.tmp 1) 0, some (3, false)⟩,
  ⟨some 29, .load 5 (.tmp 28), some (3, false)⟩,
  ⟨some 30, .binOp .eql 5 (.tmp 29) (.const (.int .u8 4)) 5, some (3, false)⟩,
  ⟨some 31, .move (.tmp 30), some (3, false)⟩,
  ⟨some 32, .fieldAddr 27 (.tmp 1) 2, some (7, true)⟩,
  ⟨some 33, .load 25 (.tmp 32), some (7, true)⟩,
  ⟨some 34, .indexAddr 25 (.tmp 33) (.const (.int .i64 0)), some (7, true)⟩,
  ⟨some 35, .load 27 (.tmp 34), some (7, true)⟩,
  ⟨some 36, .call { callee := .value (.func 36), args := #[.tmp 35], argTypes := #[27] }, some (7, true)⟩,
  ⟨some 37, .pick (.tmp 31) (.tmp 36) (.const (.bool false)), some (3, false)⟩,
  ⟨some 38, .pick (.tmp 27) (.const (.bool true)) (.tmp 37), none⟩]
def f35_r7 : List LOp := [
  ⟨some 39, .load 24 (.tmp 3), none⟩,
  ⟨some 40, .fieldAddr 27 (.tmp 1) 2, none⟩,
  ⟨some 41, .load 25 (.tmp 40), none⟩,
  ⟨some 42, .indexAddr 25 (.tmp 41) (.const (.int .i64 1)), none⟩,
  ⟨some 43, .load 27 (.tmp 42), none⟩,
  ⟨some 44, .call { callee := .value (.func 35), args := #[.tmp 43], argTypes := #[27] }, none⟩,
  ⟨some 45, .call { callee := .value (.func 61), args := #[.tmp 39, .tmp 44], argTypes := #[24, 24] }, none⟩,
  ⟨none, .store 24 (.tmp 3) (.tmp 45), none⟩]
def f35_r8 : List LOp := [
  ⟨some 46, .load 24 (.tmp 3), none⟩,
  ⟨none, .store 24 (.tmp 2) (.tmp 46), none⟩]
def f35_c : LC := (.seq (.reg f35_r0 [] none) (.seq (.seq (.reg f35_r1 [] none) (.cond (.tmp 6) (.seq (.reg f35_r2 [] none) .ret) .skip)) (.seq (.seq (.reg f35_r3 [] none) (.cond (.tmp 17) (.seq (.reg f35_r4 [] none) .ret) .skip)) (.seq (.reg f35_r5 [] none) (.seq (.seq (.reg f35_r6 [] none) (.cond (.tmp 38) (.reg f35_r7 [] (some 6)) .skip)) (.seq (.reg f35_r8 [] none) .ret))))))
theorem f35_lc : Tryd.f35.body.map lc = some f35_c.st := by kernel_rfl
theorem f35_res : Tryd.f35.results.toList = [.cell 2 24] := by kernel_rfl
theorem f35_nt : Tryd.f35.ntmps = 47 := by kernel_rfl
theorem f35_nm : (Tryd.f35.name == "runtime.NumGoroutine") = false := by kernel_rfl

/-! quill/quillref07.Of -/
def f36_r0 : List LOp := [
  ⟨some 1, .box 27 (.tmp 0), none⟩,
  ⟨some 2, .assign (.const (.bool false)), none⟩]
def f36_r1 : List LOp := [
  ⟨some 3, .fieldAddr 27 (.tmp 1) 0, none⟩,
  ⟨some 4, .load 5 (.tmp 3), none⟩,
  ⟨some 5, .binOp .eql 5 (.tmp 4) (.const (.int .u8 4)) 5, none⟩]
def f36_r2 : List LOp := [
  ⟨some 6, .fieldAddr 27 (.tmp 1) 2, none⟩,
  ⟨some 7, .load 25 (.tmp 6), none⟩,
  ⟨some 8, .indexAddr 25 (.tmp 7) (.const (.int .i64 0)), none⟩,
  ⟨some 9, .load 27 (.tmp 8), none⟩,
  ⟨some 10, .call { callee := .value (.func 36), args := #[.tmp 9], argTypes := #[27] }, none⟩,
  ⟨some 11, .move (.tmp 10), none⟩,
  ⟨some 12, .fieldAddr 27 (.tmp 1) 2, some (5, true)⟩,
  ⟨some 13, .load 25 (.tmp 12), some (5, true)⟩,
  ⟨some 14, .indexAddr 25 (.tmp 13) (.const (.int .i64 1)), some (5, true)⟩,
  ⟨some 15, .load 27 (.tmp 14), some (5, true)⟩,
  ⟨some 16, .call { callee := .value (.func 36), args := #[.tmp 15], argTypes := #[27] }, some (5, true)⟩,
  ⟨some 17, .pick (.tmp 11) (.tmp 16) (.const (.bool false)), none⟩,
  ⟨some 2, .assign (.tmp 17), none⟩]
def f36_r3 : List LOp := [
  ⟨some 18, .fieldAddr 27 (.tmp 1) 0, none⟩,
  ⟨some 19, .load 5 (.tmp 18), none⟩,
  ⟨some 20, .binOp .eql 5 (.tmp 19) (.const (.int .u8 5)) 5, none⟩]
def f36_r4 : List LOp := [
  ⟨some 21, .fieldAddr 27 (.tmp 1) 2, none⟩,
  ⟨some 22, .load 25 (.tmp 21), none⟩,
  ⟨some 23, .indexAddr 25 (.tmp 22) (.const (.int .i64 0)), none⟩,
  ⟨some 24, .load 27 (.tmp 23), none⟩,
  ⟨some 25, .call { callee := .value (.func 36), args := #[.tmp 24], argTypes := #[27] }, none⟩,
  ⟨some 26, .move (.tmp 25), none⟩,
  ⟨some 27, .fieldAddr 27 (.tmp 1) 2, some (5, false)⟩,
  ⟨some 28, .load 25 (.tmp 27), some (5, false)⟩,
  ⟨some 29, .indexAddr 25 (.tmp 28) (.const (.int .i64 1)), some (5, false)⟩,
  ⟨some 30, .load 27 (.tmp 29), some (5, false)⟩,
  ⟨some 31, .call { callee := .value (.func 36), args := #[.tmp 30], argTypes := #[27] }, some (5, false)⟩,
  ⟨some 32, .pick (.tmp 26) (.const (.bool true)) (.tmp 31), none⟩,
  ⟨some 2, .assign (.tmp 32), none⟩]
def f36_r5 : List LOp := [
  ⟨some 33, .fieldAddr 27 (.tmp 1) 0, none⟩,
  ⟨some 34, .load 5 (.tmp 33), none⟩,
  ⟨some 35, .binOp .eql 5 (.tmp 34) (.const (.int .u8 2)) 5, none⟩,
  ⟨some 36, .move (.tmp 35), none⟩,
  ⟨some 37, .fieldAddr 27 (.tmp 1) 0, some (3, false)⟩,
  ⟨some 38, .load 5 (.tmp 37), some (3, false)⟩,
  ⟨some 39, .binOp .eql 5 (.tmp 38) (.const (.int .u8 6)) 5, some (3, false)⟩,
  ⟨some 40, .pick (.tmp 36) (.const (.bool true)) (.tmp 39), none⟩,
  ⟨some 2, .assign (.tmp 40), none⟩]
def f36_c : LC := (.seq (.reg f36_r0 [] none) (.seq (.seq (.reg f36_r1 [] none) (.cond (.tmp 5) (.seq (.reg f36_r2 [] none) .ret) .skip)) (.seq (.seq (.reg f36_r3 [] none) (.cond (.tmp 20) (.seq (.reg f36_r4 [] none) .ret) .skip)) (.seq (.reg f36_r5 [] none) .ret))))
theorem f36_lc : Tryd.f36.body.map lc = some f36_c.st := by kernel_rfl
theorem f36_res : Tryd.f36.results.toList = [.tmp 2] := by kernel_rfl
theorem f36_nt : Tryd.f36.ntmps = 41 := by kernel_rfl
theorem f36_nm : (Tryd.f36.name == "runtime.NumGoroutine") = false := by kernel_rfl

/-! quill/quillref03.All -/
def f38_r0 : List LOp := [
  ⟨some 1, .box 27 (.tmp 0), none⟩,
  ⟨some 2, .assign (.const (.slice none 0 0)), none⟩]
def f38_r1 : List LOp := [
  ⟨some 5, .load 27 (.tmp 1), none⟩,
  ⟨some 6, .buildSlice 25 1 #[(0, .tmp 5)], none⟩,
  ⟨some 3, .assign (.tmp 6), none⟩]
def f38_r2 : List LOp := [
  ⟨some 7, .fieldAddr 27 (.tmp 1) 2, none⟩,
  ⟨some 8, .load 25 (.tmp 7), none⟩,
  ⟨some 9, .call { callee := .builtin .len, args := #[.tmp 8], argTypes := #[25] }, none⟩,
  ⟨some 10, .move (.const (.int .i64 0)), none⟩]
def f38_r3 : List LOp := [
  ⟨some 11, .binOp .lss 3 (.tmp 10) (.tmp 9) 3, none⟩]
def f38_r4 : List LOp := [
  ⟨some 12, .move (.tmp 10), none⟩,
  ⟨some 4, .assign (.tmp 12), none⟩]
def f38_r5 : List LOp := [
  ⟨some 13, .move (.tmp 3), none⟩,
  ⟨some 14, .fieldAddr 27 (.tmp 1) 2, none⟩,
  ⟨some 15, .load 25 (.tmp 14), none⟩,
  ⟨some 16, .move (.tmp 4), none⟩,
  ⟨some 17, .indexAddr 25 (.tmp 15) (.tmp 16), none⟩,
  ⟨some 18, .load 27 (.tmp 17), none⟩,
  ⟨some 19, .call { callee := .value (.func 38), args := #[.tmp 18], argTypes := #[27] }, none⟩,
  ⟨some 20, .call { callee := .builtin .append, args := #[.tmp 13, .tmp 19], argTypes := #[25, 25] }, none⟩,
  ⟨some 3, .assign (.tmp 20), none⟩]
def f38_r6 : List LOp := [
  ⟨some 21, .binOp .add 3 (.tmp 10) (.const (.int .i64 1)) 3, none⟩,
  ⟨some 10, .move (.tmp 21), none⟩]
def f38_l7 : LC := (.seq (.reg f38_r3 [] none) (.seq (.cond (.tmp 11) .skip (.exit 0)) (.seq (.block 1 (.seq (.reg f38_r4 [] none) (.reg f38_r5 [] none))) (.reg f38_r6 [] none))))
def f38_i7 (t1 t3 t9 t10 : D) : List D := [.any, t1, .any, t3, .any, .any, .any, .any, .any, t9, t10, .any, .any, .any, .any, .any, .any, .any, .any, .any, .any, .any, .any]
def f38_r8 : List LOp := [
  ⟨some 22, .move (.tmp 3), none⟩,
  ⟨some 2, .assign (.tmp 22), none⟩]
def f38_c : LC := (.seq (.reg f38_r0 [] none) (.seq (.reg f38_r1 [1] none) (.seq (.seq (.reg f38_r2 [] none) (.block 0 (.loop f38_l7))) (.seq (.reg f38_r8 [] none) .ret))))
theorem f38_lc : Tryd.f38.body.map lc = some f38_c.st := by kernel_rfl
theorem f38_res : Tryd.f38.results.toList = [.tmp 2] := by kernel_rfl
theorem f38_nt : Tryd.f38.ntmps = 23 := by kernel_rfl
theorem f38_nm : (Tryd.f38.name == "runtime.NumGoroutine") = false := by kernel_rfl

/-! (*quill/read.reader).whole -/
def f39_r0 : List LOp := [
  ⟨some 2, .alloc 27, none⟩,
  ⟨some 3, .alloc 3, none⟩,
  ⟨some 4, .alloc 35, none⟩]
def f39_r1 : List LOp := [
  ⟨some 5, .makeFunc (.func 64) #[] #[.tmp 2, .tmp 3, .tmp 4], none⟩,
  ⟨none, .defer { callee := .value (.tmp 5), args := #[], argTypes := #[] }, none⟩]
def f39_r2 : List LOp := [
  ⟨some 6, .move (.tmp 0), none⟩,
  ⟨some 7, .call { callee := .value (.func 65), args := #[.tmp 6], argTypes := #[53] }, none⟩,
  ⟨none, .store 27 (.tmp 2) (.tmp 7), none⟩]
def f39_r3 : List LOp := [
  ⟨some 8, .move (.tmp 0), none⟩,
  ⟨some 9, .nilCheck (.tmp 8), none⟩,
  ⟨some 10, .fieldAddr 55 (.tmp 9) 1, none⟩,
  ⟨some 11, .load 3 (.tmp 10), none⟩,
  ⟨some 12, .move (.tmp 0), none⟩,
  ⟨some 13, .nilCheck (.tmp 12), none⟩,
  ⟨some 14, .fieldAddr 55 (.tmp 13) 0, none⟩,
  ⟨some 15, .load 9 (.tmp 14), none⟩,
  ⟨some 16, .call { callee := .builtin .len, args := #[.tmp 15], argTypes := #[9] }, none⟩,
  ⟨some 17, .binOp .lss 3 (.tmp 11) (.tmp 16) 3, none⟩]
def f39_r4 : List LOp := [
  ⟨some 18, .move (.tmp 0), none⟩,
  ⟨some 19, .nilCheck (.tmp 18), none⟩,
  ⟨some 20, .fieldAddr 55 (.tmp 19) 1, none⟩,
  ⟨some 21, .load 3 (.tmp 20), none⟩,
  ⟨some 22, .build 84 #[(0, .tmp 21)], none⟩,
  ⟨some 23, .makeInterface 84 (.tmp 22), none⟩,
  ⟨none, .panic (.tmp 23), none⟩]
def f39_r5 : List LOp := [
  ⟨some 24, .load 27 (.tmp 2), none⟩,
  ⟨none, .store 27 (.tmp 2) (.tmp 24), none⟩,
  ⟨none, .store 3 (.tmp 3) (.const (.int .i64 0)), none⟩,
  ⟨none, .store 35 (.tmp 4) (.const (.int .i64 0)), none⟩]
def f39_c : LC := (.seq (.reg f39_r0 [] none) (.seq (.reg f39_r1 [] none) (.seq (.reg f39_r2 [] none) (.seq (.seq (.reg f39_r3 [] (some 9)) (.cond (.tmp 17) (.reg f39_r4 [] none) .skip)) (.seq (.reg f39_r5 [] none) .ret)))))
theorem f39_lc : Tryd.f39.body.map lc = some f39_c.st := by kernel_rfl
theorem f39_res : Tryd.f39.results.toList = [.cell 2 27, .cell 3 3, .cell 4 35] := by kernel_rfl
theorem f39_nt : Tryd.f39.ntmps = 25 := by kernel_rfl
theorem f39_nm : (Tryd.f39.name == "runtime.NumGoroutine") = false := by kernel_rfl

/-! slices.ContainsFunc[[]quill/api.Re,quill/api.Re] -/
def f48_r0 : List LOp := [
  ⟨some 4, .assign (.const (.bool false)), none⟩]
def f48_r1 : List LOp := [
  ⟨some 5, .move (.tmp 0), none⟩,
  ⟨some 6, .move (.tmp 1), none⟩,
  ⟨some 7, .call { callee := .value (.func 77), args := #[.tmp 5, .tmp 6], argTypes := #[25, 33] }, none⟩,
  ⟨some 8, .binOp .geq 3 (.tmp 7) (.const (.int .i64 0)) 3, none⟩,
  ⟨some 4, .assign (.tmp 8), none⟩]
def f48_c : LC := (.seq (.reg f48_r0 [] none) (.seq (.reg f48_r1 [] none) .ret))
theorem f48_lc : Tryd.f48.body.map lc = some f48_c.st := by kernel_rfl
theorem f48_res : Tryd.f48.results.toList = [.tmp 4] := by kernel_rfl
theorem f48_nt : Tryd.f48.ntmps = 9 := by kernel_rfl
theorem f48_nm : (Tryd.f48.name == "runtime.NumGoroutine") = false := by kernel_rfl

/-! quill/null.Null$1 -/
def f49_r0 : List LOp := [
  ⟨some 1, .box 27 (.tmp 0), none⟩,
  ⟨some 2, .assign (.const (.bool false)), none⟩]
def f49_r1 : List LOp := [
  ⟨some 3, .load 27 (.tmp 1), none⟩,
  ⟨some 4, .buildSlice 25 1 #[(0, .tmp 3)], none⟩,
  ⟨some 5, .call { callee := .value (.func 31), args := #[.tmp 4], argTypes := #[25] }, none⟩,
  ⟨some 6, .unOp .not 4 (.tmp 5), none⟩,
  ⟨some 7, .move (.tmp 6), none⟩,
  ⟨some 8, .load 27 (.tmp 1), some (4, false)⟩,
  ⟨some 9, .call { callee := .value (.func 50), args := #[.tmp 8], argTypes := #[27] }, some (4, false)⟩,
  ⟨some 10, .unOp .not 4 (.tmp 9), some (4, false)⟩,
  ⟨some 11, .pick (.tmp 7) (.const (.bool true)) (.tmp 10), none⟩,
  ⟨some 2, .assign (.tmp 11), none⟩]
def f49_c : LC := (.seq (.reg f49_r0 [] none) (.seq (.reg f49_r1 [] none) .ret))
theorem f49_lc : Tryd.f49.body.map lc = some f49_c.st := by kernel_rfl
theorem f49_res : Tryd.f49.results.toList = [.tmp 2] := by kernel_rfl
theorem f49_nt : Tryd.f49.ntmps = 12 := by kernel_rfl
theorem f49_nm : (Tryd.f49.name == "runtime.NumGoroutine") = false := by kernel_rfl

/-! quill/null.null -/
def f50_r0 : List LOp := [
  ⟨some 1, .box 27 (.tmp 0), none⟩,
  ⟨some 2, .assign (.const (.bool false)), none⟩]
def f50_r1 : List LOp := [
  ⟨some 3, .fieldAddr 27 (.tmp 1) 0, none⟩,
  ⟨some 4, .load 5 (.tmp 3), none⟩]
def f50_r2 : List LOp := [
  ⟨some 6, .binOp .eql 5 (.tmp 4) (.const (.int .u8 2)) 5, none⟩,
  ⟨some 5, .assign (.tmp 6), none⟩]
def f50_r3 : List LOp := [
  ⟨some 7, .binOp .eql 5 (.tmp 4) (.const (.int .u8 6)) 5, none⟩,
  ⟨some 5, .assign (.tmp 7), none⟩]
def f50_r4 : List LOp := [
  ⟨some 2, .assign (.const (.bool true)), none⟩]
def f50_r5 : List LOp := [
  ⟨some 9, .binOp .eql 5 (.tmp 4) (.const (.int .u8 4)) 5, none⟩,
  ⟨some 8, .assign (.tmp 9), none⟩]
def f50_r6 : List LOp := [
  ⟨some 10, .fieldAddr 27 (.tmp 1) 2, none⟩,
  ⟨some 11, .load 25 (.tmp 10), none⟩,
  ⟨some 12, .indexAddr 25 (.tmp 11) (.const (.int .i64 0)), none⟩,
  ⟨some 13, .load 27 (.tmp 12), none⟩,
  ⟨some 14, .call { callee := .value (.func 50), args := #[.tmp 13], argTypes := #[27] }, none⟩,
  ⟨some 15, .move (.tmp 14), none⟩,
  ⟨some 16, .fieldAddr 27 (.tmp 1) 2, some (5, true)⟩,
  ⟨some 17, .load 25 (.tmp 16), some (5, true)⟩,
  ⟨some 18, .indexAddr 25 (.tmp 17) (.const (.int .i64 1)), some (5, true)⟩,
  ⟨some 19, .load 27 (.tmp 18), some (5, true)⟩,
  ⟨some 20, .call { callee := .value (.func 50), args := #[.tmp 19], argTypes := #[27] }, some (5, true)⟩,
  ⟨some 21, .pick (.tmp 15) (.tmp 20) (.const (.bool false)), none⟩,
  ⟨some 2, .assign (.tmp 21), none⟩]
def f50_r7 : List LOp := [
  ⟨some 23, .binOp .eql 5 (.tmp 4) (.const (.int .u8 5)) 5, none⟩,
  ⟨some 22, .assign (.tmp 23), none⟩]
def f50_r8 : List LOp := [
  ⟨some 24, .fieldAddr 27 (.tmp 1) 2, none⟩,
  ⟨some 25, .load 25 (.tmp 24), none⟩,
  ⟨some 26, .indexAddr 25 (.tmp 25) (.const (.int .i64 0)), none⟩,
  ⟨some 27, .load 27 (.tmp 26), none⟩,
  ⟨some 28, .call { callee := .value (.func 50), args := #[.tmp 27], argTypes := #[27] }, none⟩,
  ⟨some 29, .move (.tmp 28), none⟩,
  ⟨some 30, .fieldAddr 27 (.tmp 1) 2, some (5, false)⟩,
  ⟨some 31, .load 25 (.tmp 30), some (5, false)⟩,
  ⟨some 32, .indexAddr 25 (.tmp 31) (.const (.int .i64 1)), some (5, false)⟩,
  ⟨some 33, .load 27 (.tmp 32), some (5, false)⟩,
  ⟨some 34, .call { callee := .value (.func 50), args := #[.tmp 33], argTypes := #[27] }, some (5, false)⟩,
  ⟨some 35, .pick (.tmp 29) (.const (.bool true)) (.tmp 34), none⟩,
  ⟨some 2, .assign (.tmp 35), none⟩]
def f50_r9 : List LOp := [
  ⟨some 2, .assign (.const (.bool false)), none⟩]
def f50_c : LC := (.seq (.reg f50_r0 [] none) (.seq (.seq (.reg f50_r1 [] none) (.block 0 (.seq (.seq (.reg f50_r2 [] none) (.cond (.tmp 5) .skip (.reg f50_r3 [] none))) (.cond (.tmp 5) (.seq (.reg f50_r4 [] none) .ret) (.seq (.reg f50_r5 [] none) (.cond (.tmp 8) (.seq (.reg f50_r6 [] none) .ret) (.seq (.reg f50_r7 [] none) (.cond (.tmp 22) (.seq (.reg f50_r8 [] none) .ret) .skip)))))))) (.seq (.reg f50_r9 [] none) .ret)))
theorem f50_lc : Tryd.f50.body.map lc = some f50_c.st := by kernel_rfl
theorem f50_res : Tryd.f50.results.toList = [.tmp 2] := by kernel_rfl
theorem f50_nt : Tryd.f50.ntmps = 36 := by kernel_rfl
theorem f50_nm : (Tryd.f50.name == "runtime.NumGoroutine") = false := by kernel_rfl

/-! quill/rex.May$1 -/
def f51_r0 : List LOp := [
  ⟨some 1, .box 27 (.tmp 0), none⟩,
  ⟨some 2, .assign (.const (.bool false)), none⟩]
def f51_r1 : List LOp := [
  ⟨some 3, .load 27 (.tmp 1), none⟩,
  ⟨some 4, .call { callee := .value (.func 52), args := #[.tmp 3], argTypes := #[27] }, none⟩,
  ⟨some 5, .unOp .not 4 (.tmp 4), none⟩,
  ⟨some 6, .move (.tmp 5), none⟩,
  ⟨some 7, .load 27 (.tmp 1), some (3, false)⟩,
  ⟨some 8, .buildSlice 25 1 #[(0, .tmp 7)], some (3, false)⟩,
  ⟨some 9, .call { callee := .value (.func 53), args := #[.tmp 8], argTypes := #[25] }, some (3, false)⟩,
  ⟨some 10, .binOp .gtr 3 (.tmp 9) (.const (.int .i64 2000)) 3, some (3, false)⟩,
  ⟨some 11, .pick (.tmp 6) (.const (.bool true)) (.tmp 10), none⟩,
  ⟨some 2, .assign (.tmp 11), none⟩]
def f51_c : LC := (.seq (.reg f51_r0 [] none) (.seq (.reg f51_r1 [] none) .ret))
theorem f51_lc : Tryd.f51.body.map lc = some f51_c.st := by kernel_rfl
theorem f51_res : Tryd.f51.results.toList = [.tmp 2] := by kernel_rfl
theorem f51_nt : Tryd.f51.ntmps = 12 := by kernel_rfl
theorem f51_nm : (Tryd.f51.name == "runtime.NumGoroutine") = false := by kernel_rfl

/-! quill/rex.nodes -/
def f52_r0 : List LOp := [
  ⟨some 1, .box 27 (.tmp 0), none⟩,
  ⟨some 2, .assign (.const (.bool false)), none⟩]
def f52_r1 : List LOp := [
  ⟨some 3, .load 27 (.tmp 1), none⟩,
  ⟨some 4, .call { callee := .value (.func 78), args := #[.tmp 3], argTypes := #[27] }, none⟩,
  ⟨some 5, .move (.tmp 4), none⟩,
  ⟨some 6, .fieldAddr 27 (.tmp 1) 2, some (2, true)⟩,
  ⟨some 7, .load 25 (.tmp 6), some (2, true)⟩,
  ⟨some 8, .call { callee := .value (.func 48), args := #[.tmp 7, .func 79], argTypes := #[25, 33] }, some (2, true)⟩,
  ⟨some 9, .unOp .not 4 (.tmp 8), some (2, true)⟩,
  ⟨some 10, .pick (.tmp 5) (.tmp 9) (.const (.bool false)), none⟩,
  ⟨some 2, .assign (.tmp 10), none⟩]
def f52_c : LC := (.seq (.reg f52_r0 [] none) (.seq (.reg f52_r1 [] none) .ret))
theorem f52_lc : Tryd.f52.body.map lc = some f52_c.st := by kernel_rfl
theorem f52_res : Tryd.f52.results.toList = [.tmp 2] := by kernel_rfl
theorem f52_nt : Tryd.f52.ntmps = 11 := by kernel_rfl
theorem f52_nm : (Tryd.f52.name == "runtime.NumGoroutine") = false := by kernel_rfl

/-! quill/rex.Size -/
def f53_r0 : List LOp := [
  ⟨some 2, .assign (.const (.int .i64 0)), none⟩]
def f53_r1 : List LOp := [
  ⟨some 6, .move (.tmp 0), none⟩,
  ⟨some 7, .call { callee := .builtin .len, args := #[.tmp 6], argTypes := #[25] }, none⟩,
  ⟨some 3, .assign (.tmp 7), none⟩]
def f53_r2 : List LOp := [
  ⟨some 8, .move (.tmp 0), none⟩,
  ⟨some 9, .call { callee := .builtin .len, args := #[.tmp 8], argTypes := #[25] }, none⟩,
  ⟨some 10, .move (.const (.int .i64 0)), none⟩]
def f53_r3 : List LOp := [
  ⟨some 11, .binOp .lss 3 (.tmp 10) (.tmp 9) 3, none⟩]
def f53_r4 : List LOp := [
  ⟨some 12, .indexAddr 25 (.tmp 8) (.tmp 10), none⟩,
  ⟨some 13, .load 27 (.tmp 12), none⟩,
  ⟨some 5, .alloc 27, none⟩,
  ⟨none, .store 27 (.tmp 5) (.tmp 13), none⟩]
def f53_r5 : List LOp := [
  ⟨some 14, .move (.tmp 3), none⟩,
  ⟨some 15, .fieldAddr 27 (.tmp 5) 2, none⟩,
  ⟨some 16, .load 25 (.tmp 15), none⟩,
  ⟨some 17, .call { callee := .value (.func 53), args := #[.tmp 16], argTypes := #[25] }, none⟩,
  ⟨some 18, .binOp .add 3 (.tmp 14) (.tmp 17) 3, none⟩,
  ⟨some 3, .assign (.tmp 18), none⟩]
def f53_r6 : List LOp := [
  ⟨some 19, .binOp .add 3 (.tmp 10) (.const (.int .i64 1)) 3, none⟩,
  ⟨some 10, .move (.tmp 19), none⟩]
def f53_l7 : LC := (.seq (.reg f53_r3 [] none) (.seq (.cond (.tmp 11) .skip (.exit 0)) (.seq (.block 1 (.seq (.reg f53_r4 [] none) (.reg f53_r5 [] none))) (.reg f53_r6 [] none))))
def f53_i7 (t3 t8 t9 t10 : D) : List D := [.any, .any, .any, t3, .any, .any, .any, .any, t8, t9, t10, .any, .any, .any, .any, .any, .any, .any, .any, .any, .any]
def f53_r8 : List LOp := [
  ⟨some 20, .move (.tmp 3), none⟩,
  ⟨some 2, .assign (.tmp 20), none⟩]
def f53_c : LC := (.seq (.reg f53_r0 [] none) (.seq (.reg f53_r1 [] none) (.seq (.seq (.reg f53_r2 [] none) (.block 0 (.loop f53_l7))) (.seq (.reg f53_r8 [] none) .ret))))
theorem f53_lc : Tryd.f53.body.map lc = some f53_c.st := by kernel_rfl
theorem f53_res : Tryd.f53.results.toList = [.tmp 2] := by kernel_rfl
theorem f53_nt : Tryd.f53.ntmps = 21 := by kernel_rfl
theorem f53_nm : (Tryd.f53.name == "runtime.NumGoroutine") = false := by kernel_rfl

/-! quill/set.Join -/
def f54_r0 : List LOp := [
  ⟨some 2, .alloc 24, none⟩]
def f54_r1 : List LOp := [
  ⟨some 3, .alloc 24, none⟩]
def f54_r2 : List LOp := [
  ⟨some 7, .move (.tmp 0), none⟩,
  ⟨some 8, .call { callee := .builtin .len, args := #[.tmp 7], argTypes := #[100] }, none⟩,
  ⟨some 9, .move (.const (.int .i64 0)), none⟩]
def f54_r3 : List LOp := [
  ⟨some 10, .binOp .lss 3 (.tmp 9) (.tmp 8) 3, none⟩]
def f54_r4 : List LOp := [
  ⟨some 11, .indexAddr 100 (.tmp 7) (.tmp 9), none⟩,
  ⟨some 12, .load 24 (.tmp 11), none⟩,
  ⟨some 5, .alloc 24, none⟩,
  ⟨none, .store 24 (.tmp 5) (.tmp 12), none⟩]
def f54_r5 : List LOp := [
  ⟨some 13, .move (.const (.int .i64 0)), none⟩]
def f54_r6 : List LOp := [
  ⟨some 14, .binOp .lss 3 (.tmp 13) (.const (.int .i64 4)) 3, none⟩]
def f54_r7 : List LOp := [
  ⟨some 15, .move (.tmp 13), none⟩,
  ⟨some 6, .assign (.tmp 15), none⟩]
def f54_r8 : List LOp := [
  ⟨some 16, .move (.tmp 6), none⟩,
  ⟨some 17, .indexAddr 24 (.tmp 3) (.tmp 16), none⟩,
  ⟨some 18, .load 22 (.tmp 17), none⟩,
  ⟨some 19, .move (.tmp 6), none⟩,
  ⟨some 20, .indexAddr 24 (.tmp 5) (.tmp 19), none⟩,
  ⟨some 21, .load 22 (.tmp 20), none⟩,
  ⟨some 22, .binOp .or 22 (.tmp 18) (.tmp 21) 22, none⟩,
  ⟨some 23, .indexAddr 24 (.tmp 3) (.tmp 16), none⟩,
  ⟨none, .store 22 (.tmp 23) (.tmp 22), none⟩]
def f54_r9 : List LOp := [
  ⟨some 24, .binOp .add 3 (.tmp 13) (.const (.int .i64 1)) 3, none⟩,
  ⟨some 13, .move (.tmp 24), none⟩]
def f54_l10 : LC := (.seq (.reg f54_r6 [] none) (.seq (.cond (.tmp 14) .skip (.exit 2)) (.seq (.block 3 (.seq (.reg f54_r7 [] none) (.reg f54_r8 [] (some 6)))) (.reg f54_r9 [] none))))
def f54_i10 (t2 t3 t5 t7 t8 t9 t13 : D) : List D := [.any, .any, t2, t3, .any, t5, .any, t7, t8, t9, .any, .any, .any, t13, .any, .any, .any, .any, .any, .any, .any, .any, .any, .any, .any, .any, .any]
def f54_r11 : List LOp := [
  ⟨some 25, .binOp .add 3 (.tmp 9) (.const (.int .i64 1)) 3, none⟩,
  ⟨some 9, .move (.tmp 25), none⟩]
def f54_l12 : LC := (.seq (.reg f54_r3 [] none) (.seq (.cond (.tmp 10) .skip (.exit 0)) (.seq (.block 1 (.seq (.reg f54_r4 [] none) (.seq (.reg f54_r5 [] none) (.block 2 (.loop f54_l10))))) (.reg f54_r11 [] none))))
def f54_i12 (t2 t3 t7 t8 t9 : D) : List D := [.any, .any, t2, t3, .any, .any, .any, t7, t8, t9, .any, .any, .any, .any, .any, .any, .any, .any, .any, .any, .any, .any, .any, .any, .any, .any, .any]
def f54_r13 : List LOp := [
  ⟨some 26, .load 24 (.tmp 3), none⟩,
  ⟨none, .store 24 (.tmp 2) (.tmp 26), none⟩]
def f54_c : LC := (.seq (.reg f54_r0 [] none) (.seq (.reg f54_r1 [] none) (.seq (.seq (.reg f54_r2 [] none) (.block 0 (.loop f54_l12))) (.seq (.reg f54_r13 [] none) .ret))))
theorem f54_lc : Tryd.f54.body.map lc = some f54_c.st := by kernel_rfl
theorem f54_res : Tryd.f54.results.toList = [.cell 2 24] := by kernel_rfl
theorem f54_nt : Tryd.f54.ntmps = 27 := by kernel_rfl
theorem f54_nm : (Tryd.f54.name == "runtime.NumGoroutine") = false := by kernel_rfl

/-! quill/null.void -/
def f55_r0 : List LOp := [
  ⟨some 1, .box 27 (.tmp 0), none⟩,
  ⟨some 2, .assign (.const (.bool false)), none⟩]
def f55_r1 : List LOp := [
  ⟨some 3, .fieldAddr 27 (.tmp 1) 0, none⟩,
  ⟨some 4, .load 5 (.tmp 3), none⟩]
def f55_r2 : List LOp := [
  ⟨some 6, .binOp .eql 5 (.tmp 4) (.const (.int .u8 1)) 5, none⟩,
  ⟨some 5, .assign (.tmp 6), none⟩]
def f55_r3 : List LOp := [
  ⟨some 2, .assign (.const (.bool true)), none⟩]
def f55_r4 : List LOp := [
  ⟨some 8, .binOp .eql 5 (.tmp 4) (.const (.int .u8 4)) 5, none⟩,
  ⟨some 7, .assign (.tmp 8), none⟩]
def f55_r5 : List LOp := [
  ⟨some 9, .fieldAddr 27 (.tmp 1) 2, none⟩,
  ⟨some 10, .load 25 (.tmp 9), none⟩,
  ⟨some 11, .indexAddr 25 (.tmp 10) (.const (.int .i64 0)), none⟩,
  ⟨some 12, .load 27 (.tmp 11), none⟩,
  ⟨some 13, .call { callee := .value (.func 55), args := #[.tmp 12], argTypes := #[27] }, none⟩,
  ⟨some 14, .move (.tmp 13), none⟩,
  ⟨some 15, .fieldAddr 27 (.tmp 1) 2, some (5, false)⟩,
  ⟨some 16, .load 25 (.tmp 15), some (5, false)⟩,
  ⟨some 17, .indexAddr 25 (.tmp 16) (.const (.int .i64 1)), some (5, false)⟩,
  ⟨some 18, .load 27 (.tmp 17), some (5, false)⟩,
  ⟨some 19, .call { callee := .value (.func 55), args := #[.tmp 18], argTypes := #[27] }, some (5, false)⟩,
  ⟨some 20, .pick (.tmp 14) (.const (.bool true)) (.tmp 19), none⟩,
  ⟨some 2, .assign (.tmp 20), none⟩]
def f55_r6 : List LOp := [
  ⟨some 22, .binOp .eql 5 (.tmp 4) (.const (.int .u8 5)) 5, none⟩,
  ⟨some 21, .assign (.tmp 22), none⟩]
def f55_r7 : List LOp := [
  ⟨some 23, .fieldAddr 27 (.tmp 1) 2, none⟩,
  ⟨some 24, .load 25 (.tmp 23), none⟩,
  ⟨some 25, .indexAddr 25 (.tmp 24) (.const (.int .i64 0)), none⟩,
  ⟨some 26, .load 27 (.tmp 25), none⟩,
  ⟨some 27, .call { callee := .value (.func 55), args := #[.tmp 26], argTypes := #[27] }, none⟩,
  ⟨some 28, .move (.tmp 27), none⟩,
  ⟨some 29, .fieldAddr 27 (.tmp 1) 2, some (5, true)⟩,
  ⟨some 30, .load 25 (.tmp 29), some (5, true)⟩,
  ⟨some 31, .indexAddr 25 (.tmp 30) (.const (.int .i64 1)), some (5, true)⟩,
  ⟨some 32, .load 27 (.tmp 31), some (5, true)⟩,
  ⟨some 33, .call { callee := .value (.func 55), args := #[.tmp 32], argTypes := #[27] }, some (5, true)⟩,
  ⟨some 34, .pick (.tmp 28) (.tmp 33) (.const (.bool false)), none⟩,
  ⟨some 2, .assign (.tmp 34), none⟩]
def f55_r8 : List LOp := [
  ⟨some 2, .assign (.const (.bool false)), none⟩]
def f55_c : LC := (.seq (.reg f55_r0 [] none) (.seq (.seq (.reg f55_r1 [] none) (.block 0 (.seq (.reg f55_r2 [] none) (.cond (.tmp 5) (.seq (.reg f55_r3 [] none) .ret) (.seq (.reg f55_r4 [] none) (.cond (.tmp 7) (.seq (.reg f55_r5 [] none) .ret) (.seq (.reg f55_r6 [] none) (.cond (.tmp 21) (.seq (.reg f55_r7 [] none) .ret) .skip)))))))) (.seq (.reg f55_r8 [] none) .ret)))
theorem f55_lc : Tryd.f55.body.map lc = some f55_c.st := by kernel_rfl
theorem f55_res : Tryd.f55.results.toList = [.tmp 2] := by kernel_rfl
theorem f55_nt : Tryd.f55.ntmps = 35 := by kernel_rfl
theorem f55_nm : (Tryd.f55.name == "runtime.NumGoroutine") = false := by kernel_rfl

/-! quill/set.Bytes -/
def f56_r0 : List LOp := [
  ⟨some 1, .box 24 (.tmp 0), none⟩,
  ⟨some 2, .assign (.const (.slice none 0 0)), none⟩]
def f56_r1 : List LOp := [
  ⟨some 3, .assign (.const (.slice none 0 0)), none⟩]
def f56_r2 : List LOp := [
  ⟨some 6, .load 24 (.tmp 1), none⟩,
  ⟨some 7, .move (.const (.int .i64 0)), none⟩]
def f56_r3 : List LOp := [
  ⟨some 8, .binOp .lss 3 (.tmp 7) (.const (.int .i64 4)) 3, none⟩]
def f56_r4 : List LOp := [
  ⟨some 9, .move (.tmp 7), none⟩,
  ⟨some 10, .index 24 (.tmp 6) (.tmp 7), none⟩,
  ⟨some 4, .assign (.tmp 9), none⟩,
  ⟨some 5, .assign (.tmp 10), none⟩]
def f56_r5 : List LOp := [
  ⟨some 11, .move (.tmp 5), none⟩,
  ⟨some 12, .binOp .neq 22 (.tmp 11) (.const (.int .u64 0)) 22, none⟩]
def f56_r6 : List LOp := [
  ⟨some 17, .move (.tmp 3), none⟩,
  ⟨some 18, .move (.tmp 4), none⟩,
  ⟨some 19, .binOp .mul 3 (.const (.int .i64 64)) (.tmp 18) 3, none⟩,
  ⟨some 20, .move (.tmp 5), none⟩,
  ⟨some 21, .call { callee := .value (.func 80), args := #[.tmp 20], argTypes := #[22] }, none⟩,
  ⟨some 22, .binOp .add 3 (.tmp 19) (.tmp 21) 3, none⟩,
  ⟨some 23, .convert 3 5 (.tmp 22), none⟩,
  ⟨some 24, .buildSlice 59 1 #[(0, .tmp 23)], none⟩,
  ⟨some 25, .call { callee := .builtin .append, args := #[.tmp 17, .tmp 24], argTypes := #[59, 59] }, none⟩,
  ⟨some 3, .assign (.tmp 25), none⟩]
def f56_r7 : List LOp := [
  ⟨some 13, .move (.tmp 5), none⟩,
  ⟨some 14, .move (.tmp 5), none⟩,
  ⟨some 15, .binOp .sub 22 (.tmp 14) (.const (.int .u64 1)) 22, none⟩,
  ⟨some 16, .binOp .and 22 (.tmp 13) (.tmp 15) 22, none⟩,
  ⟨some 5, .assign (.tmp 16), none⟩]
def f56_l8 : LC := (.seq (.seq (.reg f56_r5 [] none) (.cond (.tmp 12) .skip (.exit 2))) (.seq (.block 3 (.reg f56_r6 [] none)) (.reg f56_r7 [] none)))
def f56_i8 (t3 t4 t5 t6 t7 : D) : List D := [.any, .any, .any, t3, t4, t5, t6, t7, .any, .any, .any, .any, .any, .any, .any, .any, .any, .any, .any, .any, .any, .any, .any, .any, .any, .any, .any, .any]
def f56_r9 : List LOp := [
  ⟨some 26, .binOp .add 3 (.tmp 7) (.const (.int .i64 1)) 3, none⟩,
  ⟨some 7, .move (.tmp 26), none⟩]
def f56_l10 : LC := (.seq (.reg f56_r3 [] none) (.seq (.cond (.tmp 8) .skip (.exit 0)) (.seq (.block 1 (.seq (.reg f56_r4 [] none) (.block 2 (.loop f56_l8)))) (.reg f56_r9 [] none))))
def f56_i10 (t3 t6 t7 : D) : List D := [.any, .any, .any, t3, .any, .any, t6, t7, .any, .any, .any, .any, .any, .any, .any, .any, .any, .any, .any, .any, .any, .any, .any, .any, .any, .any, .any, .any]
def f56_r11 : List LOp := [
  ⟨some 27, .move (.tmp 3), none⟩,
  ⟨some 2, .assign (.tmp 27), none⟩]
def f56_c : LC := (.seq (.reg f56_r0 [] none) (.seq (.reg f56_r1 [] none) (.seq (.seq (.reg f56_r2 [] none) (.block 0 (.loop f56_l10))) (.seq (.reg f56_r11 [] none) .ret))))
theorem f56_lc : Tryd.f56.body.map lc = some f56_c.st := by kernel_rfl
theorem f56_res : Tryd.f56.results.toList = [.tmp 2] := by kernel_rfl
theorem f56_nt : Tryd.f56.ntmps = 28 := by kernel_rfl
theorem f56_nm : (Tryd.f56.name == "runtime.NumGoroutine") = false := by kernel_rfl

/-! quill/null.less -/
def f57_r0 : List LOp := [
  ⟨some 4, .assign (.const (.bool false)), none⟩]
def f57_r1 : List LOp := [
  ⟨some 5, .move (.tmp 0), none⟩,
  ⟨some 6, .call { callee := .builtin .len, args := #[.tmp 5], argTypes := #[9] }, none⟩,
  ⟨some 7, .move (.tmp 1), none⟩,
  ⟨some 8, .call { callee := .builtin .len, args := #[.tmp 7], argTypes := #[9] }, none⟩,
  ⟨some 9, .binOp .lss 3 (.tmp 6) (.tmp 8) 3, none⟩,
  ⟨some 10, .move (.tmp 9), none⟩,
  ⟨some 11, .move (.tmp 0), some (5, false)⟩,
  ⟨some 12, .call { callee := .builtin .len, args := #[.tmp 11], argTypes := #[9] }, some (5, false)⟩,
  ⟨some 13, .move (.tmp 1), some (5, false)⟩,
  ⟨some 14, .call { callee := .builtin .len, args := #[.tmp 13], argTypes := #[9] }, some (5, false)⟩,
  ⟨some 15, .binOp .eql 3 (.tmp 12) (.tmp 14) 3, some (5, false)⟩,
  ⟨some 16, .move (.tmp 15), some (5, false)⟩,
  ⟨some 17, .move (.tmp 0), some (11, true)⟩,
  ⟨some 18, .move (.tmp 1), some (11, true)⟩,
  ⟨some 19, .binOp .lss 9 (.tmp 17) (.tmp 18) 9, some (11, true)⟩,
  ⟨some 20, .pick (.tmp 16) (.tmp 19) (.const (.bool false)), some (5, false)⟩,
  ⟨some 21, .pick (.tmp 10) (.const (.bool true)) (.tmp 20), none⟩,
  ⟨some 4, .assign (.tmp 21), none⟩]
def f57_c : LC := (.seq (.reg f57_r0 [] none) (.seq (.reg f57_r1 [] none) .ret))
theorem f57_lc : Tryd.f57.body.map lc = some f57_c.st := by kernel_rfl
theorem f57_res : Tryd.f57.results.toList = [.tmp 4] := by kernel_rfl
theorem f57_nt : Tryd.f57.ntmps = 22 := by kernel_rfl
theorem f57_nm : (Tryd.f57.name == "runtime.NumGoroutine") = false := by kernel_rfl

/-! quill/quillref02.Bytes -/
def f58_r0 : List LOp := [
  ⟨some 1, .box 24 (.tmp 0), none⟩,
  ⟨some 2, .assign (.const (.slice none 0 0)), none⟩]
def f58_r1 : List LOp := [
  ⟨some 5, .buildSlice 59 0 #[], none⟩,
  ⟨some 3, .assign (.tmp 5), none⟩]
def f58_r2 : List LOp := [
  ⟨some 4, .assign (.const (.int .i64 0)), none⟩]
def f58_r3 : List LOp := [
  ⟨some 6, .move (.tmp 4), none⟩,
  ⟨some 7, .binOp .lss 3 (.tmp 6) (.const (.int .i64 256)) 3, none⟩]
def f58_r4 : List LOp := [
  ⟨some 10, .load 24 (.tmp 1), none⟩,
  ⟨some 11, .move (.tmp 4), none⟩,
  ⟨some 12, .call { callee := .value (.func 15), args := #[.tmp 10, .tmp 11], argTypes := #[24, 3] }, none⟩]
def f58_r5 : List LOp := [
  ⟨some 13, .move (.tmp 3), none⟩,
  ⟨some 14, .move (.tmp 4), none⟩,
  ⟨some 15, .convert 3 5 (.tmp 14), none⟩,
  ⟨some 16, .buildSlice 59 1 #[(0, .tmp 15)], none⟩,
  ⟨some 17, .call { callee := .builtin .append, args := #[.tmp 13, .tmp 16], argTypes := #[59, 59] }, none⟩,
  ⟨some 3, .assign (.tmp 17), none⟩]
def f58_r6 : List LOp := [
  ⟨some 8, .move (.tmp 4), none⟩,
  ⟨some 9, .binOp .add 3 (.tmp 8) (.const (.int .i64 1)) 3, none⟩,
  ⟨some 4, .assign (.tmp 9), none⟩]
def f58_l7 : LC := (.seq (.seq (.reg f58_r3 [] none) (.cond (.tmp 7) .skip (.exit 0))) (.seq (.block 1 (.seq (.reg f58_r4 [] none) (.cond (.tmp 12) (.reg f58_r5 [] none) .skip))) (.reg f58_r6 [] none)))
def f58_i7 (t1 t3 t4 : D) : List D := [.any, t1, .any, t3, t4, .any, .any, .any, .any, .any, .any, .any, .any, .any, .any, .any, .any, .any, .any]
def f58_r8 : List LOp := [
  ⟨some 18, .move (.tmp 3), none⟩,
  ⟨some 2, .assign (.tmp 18), none⟩]
def f58_c : LC := (.seq (.reg f58_r0 [] none) (.seq (.reg f58_r1 [0] none) (.seq (.seq (.reg f58_r2 [] none) (.block 0 (.loop f58_l7))) (.seq (.reg f58_r8 [] none) .ret))))
theorem f58_lc : Tryd.f58.body.map lc = some f58_c.st := by kernel_rfl
theorem f58_res : Tryd.f58.results.toList = [.tmp 2] := by kernel_rfl
theorem f58_nt : Tryd.f58.ntmps = 19 := by kernel_rfl
theorem f58_nm : (Tryd.f58.name == "runtime.NumGoroutine") = false := by kernel_rfl

/-! quill/quillref07.ahead -/
def f59_r0 : List LOp := [
  ⟨some 4, .assign (.const (.bool false)), none⟩]
def f59_r1 : List LOp := [
  ⟨some 6, .move (.tmp 0), none⟩,
  ⟨some 7, .call { callee := .builtin .len, args := #[.tmp 6], argTypes := #[9] }, none⟩,
  ⟨some 8, .move (.tmp 1), none⟩,
  ⟨some 9, .call { callee := .builtin .len, args := #[.tmp 8], argTypes := #[9] }, none⟩,
  ⟨some 10, .binOp .neq 3 (.tmp 7) (.tmp 9) 3, none⟩]
def f59_r2 : List LOp := [
  ⟨some 11, .move (.tmp 0), none⟩,
  ⟨some 12, .call { callee := .builtin .len, args := #[.tmp 11], argTypes := #[9] }, none⟩,
  ⟨some 13, .move (.tmp 1), none⟩,
  ⟨some 14, .call { callee := .builtin .len, args := #[.tmp 13], argTypes := #[9] }, none⟩,
  ⟨some 15, .binOp .lss 3 (.tmp 12) (.tmp 14) 3, none⟩,
  ⟨some 4, .assign (.tmp 15), none⟩]
def f59_r3 : List LOp := [
  ⟨some 5, .assign (.const (.int .i64 0)), none⟩]
def f59_r4 : List LOp := [
  ⟨some 16, .move (.tmp 5), none⟩,
  ⟨some 17, .move (.tmp 0), none⟩,
  ⟨some 18, .call { callee := .builtin .len, args := #[.tmp 17], argTypes := #[9] }, none⟩,
  ⟨some 19, .binOp .lss 3 (.tmp 16) (.tmp 18) 3, none⟩]
def f59_r5 : List LOp := [
  ⟨some 22, .move (.tmp 0), none⟩,
  ⟨some 23, .move (.tmp 5), none⟩,
  ⟨some 24, .index 9 (.tmp 22) (.tmp 23), none⟩,
  ⟨some 25, .move (.tmp 1), none⟩,
  ⟨some 26, .move (.tmp 5), none⟩,
  ⟨some 27, .index 9 (.tmp 25) (.tmp 26), none⟩,
  ⟨some 28, .binOp .neq 5 (.tmp 24) (.tmp 27) 5, none⟩]
def f59_r6 : List LOp := [
  ⟨some 29, .move (.tmp 0), none⟩,
  ⟨some 30, .move (.tmp 5), none⟩,
  ⟨some 31, .index 9 (.tmp 29) (.tmp 30), none⟩,
  ⟨some 32, .move (.tmp 1), none⟩,
  ⟨some 33, .move (.tmp 5), none⟩,
  ⟨some 34, .index 9 (.tmp 32) (.tmp 33), none⟩,
  ⟨some 35, .binOp .lss 5 (.tmp 31) (.tmp 34) 5, none⟩,
  ⟨some 4, .assign (.tmp 35), none⟩]
def f59_r7 : List LOp := [
  ⟨some 20, .move (.tmp 5), none⟩,
  ⟨some 21, .binOp .add 3 (.tmp 20) (.const (.int .i64 1)) 3, none⟩,
  ⟨some 5, .assign (.tmp 21), none⟩]
def f59_l8 : LC := (.seq (.seq (.reg f59_r4 [] none) (.cond (.tmp 19) .skip (.exit 0))) (.seq (.block 1 (.seq (.reg f59_r5 [] (some 6)) (.cond (.tmp 28) (.seq (.reg f59_r6 [] (some 6)) .ret) .skip))) (.reg f59_r7 [] none)))
def f59_i8 (t0 t1 t5 : D) : List D := [t0, t1, .any, .any, .any, t5, .any, .any, .any, .any, .any, .any, .any, .any, .any, .any, .any, .any, .any, .any, .any, .any, .any, .any, .any, .any, .any, .any, .any, .any, .any, .any, .any, .any, .any, .any]
def f59_r9 : List LOp := [
  ⟨some 4, .assign (.const (.bool false)), none⟩]
def f59_c : LC := (.seq (.reg f59_r0 [] none) (.seq (.seq (.reg f59_r1 [] none) (.cond (.tmp 10) (.seq (.reg f59_r2 [] none) .ret) .skip)) (.seq (.seq (.reg f59_r3 [] none) (.block 0 (.loop f59_l8))) (.seq (.reg f59_r9 [] none) .ret))))
theorem f59_lc : Tryd.f59.body.map lc = some f59_c.st := by kernel_rfl
theorem f59_res : Tryd.f59.results.toList = [.tmp 4] := by kernel_rfl
theorem f59_nt : Tryd.f59.ntmps = 36 := by kernel_rfl
theorem f59_nm : (Tryd.f59.name == "runtime.NumGoroutine") = false := by kernel_rfl

/-! quill/quillref07.fits -/
def f60_r0 : List LOp := [
  ⟨some 1, .box 27 (.tmp 0), none⟩,
  ⟨some 2, .assign (.const (.bool false)), none⟩]
def f60_r1 : List LOp := [
  ⟨some 3, .fieldAddr 27 (.tmp 1) 0, none⟩,
  ⟨some 4, .load 5 (.tmp 3), none⟩,
  ⟨some 5, .binOp .eql 5 (.tmp 4) (.const (.int .u8 4)) 5, none⟩]
def f60_r2 : List LOp := [
  ⟨some 6, .fieldAddr 27 (.tmp 1) 2, none⟩,
  ⟨some 7, .load 25 (.tmp 6), none⟩,
  ⟨some 8, .indexAddr 25 (.tmp 7) (.const (.int .i64 0)), none⟩,
  ⟨some 9, .load 27 (.tmp 8), none⟩,
  ⟨some 10, .call { callee := .value (.func 60), args := #[.tmp 9], argTypes := #[27] }, none⟩,
  ⟨some 11, .move (.tmp 10), none⟩,
  ⟨some 12, .fieldAddr 27 (.tmp 1) 2, some (5, true)⟩,
  ⟨some 13, .load 25 (.tmp 12), some (5, true)⟩,
  ⟨some 14, .indexAddr 25 (.tmp 13) (.const (.int .i64 1)), some (5, true)⟩,
  ⟨some 15, .load 27 (.tmp 14), some (5, true)⟩,
  ⟨some 16, .call { callee := .value (.func 60), args := #[.tmp 15], argTypes := #[27] }, some (5, true)⟩,
  ⟨some 17, .pick (.tmp 11) (.tmp 16) (.const (.bool false)), none⟩,
  ⟨some 2, .assign (.tmp 17), none⟩]
def f60_r3 : List LOp := [
  ⟨some 18, .fieldAddr 27 (.tmp 1) 0, none⟩,
  ⟨some 19, .load 5 (.tmp 18), none⟩,
  ⟨some 20, .binOp .eql 5 (.tmp 19) (.const (.int .u8 5)) 5, none⟩]
def f60_r4 : List LOp := [
  ⟨some 21, .fieldAddr 27 (.tmp 1) 2, none⟩,
  ⟨some 22, .load 25 (.tmp 21), none⟩,
  ⟨some 23, .indexAddr 25 (.tmp 22) (.const (.int .i64 0)), none⟩,
  ⟨some 24, .load 27 (.tmp 23), none⟩,
  ⟨some 25, .call { callee := .value (.func 60), args := #[.tmp 24], argTypes := #[27] }, none⟩,
  ⟨some 26, .move (.tmp 25), none⟩,
  ⟨some 27, .fieldAddr 27 (.tmp 1) 2, some (5, false)⟩,
  ⟨some 28, .load 25 (.tmp 27), some (5, false)⟩,
  ⟨some 29, .indexAddr 25 (.tmp 28) (.const (.int .i64 1)), some (5, false)⟩,
  ⟨some 30, .load 27 (.tmp 29), some (5, false)⟩,
  ⟨some 31, .call { callee := .value (.func 60), args := #[.tmp 30], argTypes := #[27] }, some (5, false)⟩,
  ⟨some 32, .pick (.tmp 26) (.const (.bool true)) (.tmp 31), none⟩,
  ⟨some 2, .assign (.tmp 32), none⟩]
def f60_r5 : List LOp := [
  ⟨some 33, .fieldAddr 27 (.tmp 1) 0, none⟩,
  ⟨some 34, .load 5 (.tmp 33), none⟩,
  ⟨some 35, .binOp .neq 5 (.tmp 34) (.const (.int .u8 1)) 5, none⟩,
  ⟨some 2, .assign (.tmp 35), none⟩]
def f60_c : LC := (.seq (.reg f60_r0 [] none) (.seq (.seq (.reg f60_r1 [] none) (.cond (.tmp 5) (.seq (.reg f60_r2 [] none) .ret) .skip)) (.seq (.seq (.reg f60_r3 [] none) (.cond (.tmp 20) (.seq (.reg f60_r4 [] none) .ret) .skip)) (.seq (.reg f60_r5 [] none) .ret))))
theorem f60_lc : Tryd.f60.body.map lc = some f60_c.st := by kernel_rfl
theorem f60_res : Tryd.f60.results.toList = [.tmp 2] := by kernel_rfl
theorem f60_nt : Tryd.f60.ntmps = 36 := by kernel_rfl
theorem f60_nm : (Tryd.f60.name == "runtime.NumGoroutine") = false := by kernel_rfl

/-! quill/quillref02.Join -/
def f61_r0 : List LOp := [
  ⟨some 2, .box 24 (.tmp 0), none⟩,
  ⟨some 3, .box 24 (.tmp 1), none⟩,
  ⟨some 4, .alloc 24, none⟩]
def f61_r1 : List LOp := [
  ⟨some 7, .load 24 (.tmp 2), none⟩,
  ⟨some 5, .alloc 24, none⟩,
  ⟨none, .store 24 (.tmp 5) (.tmp 7), none⟩]
def f61_r2 : List LOp := [
  ⟨some 6, .assign (.const (.int .i64 0)), none⟩]
def f61_r3 : List LOp := [
  ⟨some 8, .move (.tmp 6), none⟩,
  ⟨some 9, .binOp .lss 3 (.tmp 8) (.const (.int .i64 256)) 3, none⟩]
def f61_r4 : List LOp := [
  ⟨some 12, .load 24 (.tmp 3), none⟩,
  ⟨some 13, .move (.tmp 6), none⟩,
  ⟨some 14, .call { callee := .value (.func 15), args := #[.tmp 12, .tmp 13], argTypes := #[24, 3] }, none⟩]
def f61_r5 : List LOp := [
  ⟨some 15, .load 24 (.tmp 5), none⟩,
  ⟨some 16, .move (.tmp 6), none⟩,
  ⟨some 17, .call { callee := .value (.func 81), args := #[.tmp 15, .tmp 16], argTypes := #[24, 3] }, none⟩,
  ⟨none, .store 24 (.tmp 5) (.tmp 17), none⟩]
def f61_r6 : List LOp := [
  ⟨some 10, .move (.tmp 6), none⟩,
  ⟨some 11, .binOp .add 3 (.tmp 10) (.const (.int .i64 1)) 3, none⟩,
  ⟨some 6, .assign (.tmp 11), none⟩]
def f61_l7 : LC := (.seq (.seq (.reg f61_r3 [] none) (.cond (.tmp 9) .skip (.exit 0))) (.seq (.block 1 (.seq (.reg f61_r4 [] none) (.cond (.tmp 14) (.reg f61_r5 [] none) .skip))) (.reg f61_r6 [] none)))
def f61_i7 (t3 t4 t5 t6 : D) : List D := [.any, .any, .any, t3, t4, t5, t6, .any, .any, .any, .any, .any, .any, .any, .any, .any, .any, .any, .any]
def f61_r8 : List LOp := [
  ⟨some 18, .load 24 (.tmp 5), none⟩,
  ⟨none, .store 24 (.tmp 4) (.tmp 18), none⟩]
def f61_c : LC := (.seq (.reg f61_r0 [] none) (.seq (.reg f61_r1 [] none) (.seq (.seq (.reg f61_r2 [] none) (.block 0 (.loop f61_l7))) (.seq (.reg f61_r8 [] none) .ret))))
theorem f61_lc : Tryd.f61.body.map lc = some f61_c.st := by kernel_rfl
theorem f61_res : Tryd.f61.results.toList = [.cell 4 24] := by kernel_rfl
theorem f61_nt : Tryd.f61.ntmps = 19 := by kernel_rfl
theorem f61_nm : (Tryd.f61.name == "runtime.NumGoroutine") = false := by kernel_rfl

/-! (*quill/read.reader).whole$1 -/
def f64_r0 : List LOp := [
  ⟨some 6, .call { callee := .builtin .recover, args := #[], argTypes := #[] }, none⟩]
def f64_r1 : List LOp := [
  ⟨some 8, .binOp .eql 20 (.tmp 6) (.const .nilIface) 20, none⟩]
def f64_r2 : List LOp := [
  ⟨some 3, .assign (.tmp 6), none⟩]
def f64_r3 : List LOp := [
  ⟨some 9, .typeAssert (.tmp 6) 20 84 true, none⟩,
  ⟨some 10, .extract (.tmp 9) 1, none⟩,
  ⟨some 11, .extract (.tmp 9) 0, none⟩]
def f64_r4 : List LOp := [
  ⟨some 4, .alloc 84, none⟩,
  ⟨none, .store 84 (.tmp 4) (.tmp 11), none⟩]
def f64_r5 : List LOp := [
  ⟨some 12, .build 27 #[], none⟩,
  ⟨some 13, .fieldAddr 84 (.tmp 4) 0, none⟩,
  ⟨some 14, .load 3 (.tmp 13), none⟩,
  ⟨none, .store 27 (.tmp 0) (.tmp 12), none⟩,
  ⟨none, .store 3 (.tmp 1) (.tmp 14), none⟩,
  ⟨none, .store 35 (.tmp 2) (.const (.int .i64 2)), none⟩]
def f64_r6 : List LOp := [
  ⟨some 5, .assign (.tmp 6), none⟩]
def f64_r7 : List LOp := [
  ⟨some 7, .move (.tmp 5), none⟩,
  ⟨none, .panic (.tmp 7), none⟩]
def f64_c : LC := (.seq (.reg f64_r0 [] none) (.block 0 (.seq (.reg f64_r1 [] none) (.cond (.tmp 8) (.reg f64_r2 [] none) (.seq (.reg f64_r3 [] none) (.cond (.tmp 10) (.seq (.reg f64_r4 [] none) (.regq f64_r5 [] 0 (.both (.op 0 (.both (.op 1 (.both (.op 2 (.op 3 (.op 4 (.op 5 .done)))) (.op 3 (.op 2 (.op 4 (.op 5 .done)))))) (.op 3 (.op 1 (.op 2 (.op 4 (.op 5 .done))))))) (.op 1 (.both (.op 0 (.both (.op 2 (.op 3 (.op 4 (.op 5 .done)))) (.op 3 (.op 2 (.op 4 (.op 5 .done)))))) (.op 2 (.op 0 (.op 3 (.op 4 (.op 5 .done)))))))))) (.seq (.reg f64_r6 [] none) (.reg f64_r7 [] none))))))))
theorem f64_lc : Tryd.f64.body.map lc = some f64_c.st := by kernel_rfl
theorem f64_res : Tryd.f64.results.toList = [] := by kernel_rfl
theorem f64_nt : Tryd.f64.ntmps = 15 := by kernel_rfl
theorem f64_nm : (Tryd.f64.name == "runtime.NumGoroutine") = false := by kernel_rfl

/-! (*quill/read.reader).alt -/
def f65_r0 : List LOp := [
  ⟨some 2, .alloc 27, none⟩]
def f65_r1 : List LOp := [
  ⟨some 4, .move (.tmp 0), none⟩,
  ⟨some 5, .call { callee := .value (.func 83), args := #[.tmp 4], argTypes := #[53] }, none⟩,
  ⟨some 6, .buildSlice 25 1 #[(0, .tmp 5)], none⟩,
  ⟨some 3, .assign (.tmp 6), none⟩]
def f65_r2 : List LOp := [
  ⟨some 7, .move (.tmp 0), none⟩,
  ⟨some 8, .call { callee := .value (.func 84), args := #[.tmp 7, .const (.string { data := #[124] })], argTypes := #[53, 9] }, none⟩]
def f65_r3 : List LOp := [
  ⟨some 9, .move (.tmp 0), none⟩,
  ⟨some 10, .nilCheck (.tmp 9), none⟩,
  ⟨some 11, .fieldAddr 55 (.tmp 10) 1, none⟩,
  ⟨some 12, .load 3 (.tmp 11), none⟩,
  ⟨some 13, .binOp .add 3 (.tmp 12) (.const (.int .i64 1)) 3, none⟩,
  ⟨some 14, .nilCheck (.tmp 9), none⟩,
  ⟨some 15, .fieldAddr 55 (.tmp 14) 1, none⟩,
  ⟨none, .store 3 (.tmp 15) (.tmp 13), none⟩]
def f65_r4 : List LOp := [
  ⟨some 16, .move (.tmp 3), none⟩,
  ⟨some 17, .move (.tmp 0), none⟩,
  ⟨some 18, .call { callee := .value (.func 83), args := #[.tmp 17], argTypes := #[53] }, none⟩,
  ⟨some 19, .buildSlice 25 1 #[(0, .tmp 18)], none⟩,
  ⟨some 20, .call { callee := .builtin .append, args := #[.tmp 16, .tmp 19], argTypes := #[25, 25] }, none⟩,
  ⟨some 3, .assign (.tmp 20), none⟩]
def f65_l5 : LC := (.seq (.seq (.reg f65_r2 [] none) (.cond (.tmp 8) .skip (.exit 0))) (.block 1 (.seq (.reg f65_r3 [] none) (.reg f65_r4 [] none))))
def f65_i5 (t0 t2 t3 : D) : List D := [t0, .any, t2, t3, .any, .any, .any, .any, .any, .any, .any, .any, .any, .any, .any, .any, .any, .any, .any, .any, .any, .any, .any]
def f65_r6 : List LOp := [
  ⟨some 21, .move (.tmp 3), none⟩,
  ⟨some 22, .call { callee := .value (.func 85), args := #[.tmp 21], argTypes := #[25] }, none⟩,
  ⟨none, .store 27 (.tmp 2) (.tmp 22), none⟩]
def f65_c : LC := (.seq (.reg f65_r0 [] none) (.seq (.reg f65_r1 [2] none) (.seq (.block 0 (.loop f65_l5)) (.seq (.reg f65_r6 [] none) .ret))))
theorem f65_lc : Tryd.f65.body.map lc = some f65_c.st := by kernel_rfl
theorem f65_res : Tryd.f65.results.toList = [.cell 2 27] := by kernel_rfl
theorem f65_nt : Tryd.f65.ntmps = 23 := by kernel_rfl
theorem f65_nm : (Tryd.f65.name == "runtime.NumGoroutine") = false := by kernel_rfl

/-! slices.IndexFunc[[]quill/api.Re,quill/api.Re] -/
def f77_r0 : List LOp := [
  ⟨some 4, .assign (.const (.int .i64 0)), none⟩]
def f77_r1 : List LOp := [
  ⟨some 6, .move (.tmp 0), none⟩,
  ⟨some 7, .call { callee := .builtin .len, args := #[.tmp 6], argTypes := #[25] }, none⟩,
  ⟨some 8, .move (.const (.int .i64 0)), none⟩]
def f77_r2 : List LOp := [
  ⟨some 9, .binOp .lss 3 (.tmp 8) (.tmp 7) 3, none⟩]
def f77_r3 : List LOp := [
  ⟨some 10, .move (.tmp 8), none⟩,
  ⟨some 5, .assign (.tmp 10), none⟩]
def f77_r4 : List LOp := [
  ⟨some 11, .move (.tmp 1), none⟩,
  ⟨some 12, .move (.tmp 0), none⟩,
  ⟨some 13, .move (.tmp 5), none⟩,
  ⟨some 14, .indexAddr 25 (.tmp 12) (.tmp 13), none⟩,
  ⟨some 15, .load 27 (.tmp 14), none⟩,
  ⟨some 16, .call { callee := .value (.tmp 11), args := #[.tmp 15], argTypes := #[27] }, none⟩]
def f77_r5 : List LOp := [
  ⟨some 17, .move (.tmp 5), none⟩,
  ⟨some 4, .assign (.tmp 17), none⟩]
def f77_r6 : List LOp := [
  ⟨some 18, .binOp .add 3 (.tmp 8) (.const (.int .i64 1)) 3, none⟩,
  ⟨some 8, .move (.tmp 18), none⟩]
def f77_l7 : LC := (.seq (.reg f77_r2 [] none) (.seq (.cond (.tmp 9) .skip (.exit 0)) (.seq (.block 1 (.seq (.reg f77_r3 [] none) (.seq (.reg f77_r4 [] none) (.cond (.tmp 16) (.seq (.reg f77_r5 [] none) .ret) .skip)))) (.reg f77_r6 [] none))))
def f77_i7 (t0 t1 t7 t8 : D) : List D := [t0, t1, .any, .any, .any, .any, .any, t7, t8, .any, .any, .any, .any, .any, .any, .any, .any, .any, .any]
def f77_r8 : List LOp := [
  ⟨some 4, .assign (.const (.int .i64 (-1))), none⟩]
def f77_c : LC := (.seq (.reg f77_r0 [] none) (.seq (.seq (.reg f77_r1 [] none) (.block 0 (.loop f77_l7))) (.seq (.reg f77_r8 [] none) .ret)))
theorem f77_lc : Tryd.f77.body.map lc = some f77_c.st := by kernel_rfl
theorem f77_res : Tryd.f77.results.toList = [.tmp 4] := by kernel_rfl
theorem f77_nt : Tryd.f77.ntmps = 19 := by kernel_rfl
theorem f77_nm : (Tryd.f77.name == "runtime.NumGoroutine") = false := by kernel_rfl

/-! quill/rex.node -/
def f78_r0 : List LOp := [
  ⟨some 1, .box 27 (.tmp 0), none⟩,
  ⟨some 2, .assign (.const (.bool false)), none⟩]
def f78_r1 : List LOp := [
  ⟨some 5, .fieldAddr 27 (.tmp 1) 2, none⟩,
  ⟨some 6, .load 25 (.tmp 5), none⟩,
  ⟨some 7, .call { callee := .builtin .len, args := #[.tmp 6], argTypes := #[25] }, none⟩,
  ⟨some 8, .fieldAddr 27 (.tmp 1) 1, none⟩,
  ⟨some 9, .load 24 (.tmp 8), none⟩,
  ⟨some 10, .build 24 #[], none⟩,
  ⟨some 11, .binOp .eql 24 (.tmp 9) (.tmp 10) 24, none⟩,
  ⟨some 3, .assign (.tmp 7), none⟩,
  ⟨some 4, .assign (.tmp 11), none⟩]
def f78_r2 : List LOp := [
  ⟨some 12, .fieldAddr 27 (.tmp 1) 0, none⟩,
  ⟨some 13, .load 5 (.tmp 12), none⟩]
def f78_r3 : List LOp := [
  ⟨some 15, .binOp .eql 5 (.tmp 13) (.const (.int .u8 1)) 5, none⟩,
  ⟨some 14, .assign (.tmp 15), none⟩]
def f78_r4 : List LOp := [
  ⟨some 16, .binOp .eql 5 (.tmp 13) (.const (.int .u8 2)) 5, none⟩,
  ⟨some 14, .assign (.tmp 16), none⟩]
def f78_r5 : List LOp := [
  ⟨some 17, .move (.tmp 3), none⟩,
  ⟨some 18, .binOp .eql 3 (.tmp 17) (.const (.int .i64 0)) 3, none⟩,
  ⟨some 19, .move (.tmp 18), none⟩,
  ⟨some 20, .move (.tmp 4), some (2, true)⟩,
  ⟨some 21, .pick (.tmp 19) (.tmp 20) (.const (.bool false)), none⟩,
  ⟨some 2, .assign (.tmp 21), none⟩]
def f78_r6 : List LOp := [
  ⟨some 23, .binOp .eql 5 (.tmp 13) (.const (.int .u8 3)) 5, none⟩,
  ⟨some 22, .assign (.tmp 23), none⟩]
def f78_r7 : List LOp := [
  ⟨some 24, .move (.tmp 3), none⟩,
  ⟨some 25, .binOp .eql 3 (.tmp 24) (.const (.int .i64 0)) 3, none⟩,
  ⟨some 26, .move (.tmp 25), none⟩,
  ⟨some 27, .move (.tmp 4), some (2, true)⟩,
  ⟨some 28, .unOp .not 4 (.tmp 27), some (2, true)⟩,
  ⟨some 29, .pick (.tmp 26) (.tmp 28) (.const (.bool false)), none⟩,
  ⟨some 2, .assign (.tmp 29), none⟩]
def f78_r8 : List LOp := [
  ⟨some 31, .binOp .eql 5 (.tmp 13) (.const (.int .u8 4)) 5, none⟩,
  ⟨some 30, .assign (.tmp 31), none⟩]
def f78_r9 : List LOp := [
  ⟨some 32, .binOp .eql 5 (.tmp 13) (.const (.int .u8 5)) 5, none⟩,
  ⟨some 30, .assign (.tmp 32), none⟩]
def f78_r10 : List LOp := [
  ⟨some 33, .move (.tmp 3), none⟩,
  ⟨some 34, .binOp .eql 3 (.tmp 33) (.const (.int .i64 2)) 3, none⟩,
  ⟨some 35, .move (.tmp 34), none⟩,
  ⟨some 36, .move (.tmp 4), some (2, true)⟩,
  ⟨some 37, .pick (.tmp 35) (.tmp 36) (.const (.bool false)), none⟩,
  ⟨some 2, .assign (.tmp 37), none⟩]
def f78_r11 : List LOp := [
  ⟨some 39, .binOp .eql 5 (.tmp 13) (.const (.int .u8 6)) 5, none⟩,
  ⟨some 38, .assign (.tmp 39), none⟩]
def f78_r12 : List LOp := [
  ⟨some 40, .move (.tmp 3), none⟩,
  ⟨some 41, .binOp .eql 3 (.tmp 40) (.const (.int .i64 1)) 3, none⟩,
  ⟨some 42, .move (.tmp 41), none⟩,
  ⟨some 43, .move (.tmp 4), some (2, true)⟩,
  ⟨some 44, .pick (.tmp 42) (.tmp 43) (.const (.bool false)), none⟩,
  ⟨some 2, .assign (.tmp 44), none⟩]
def f78_r13 : List LOp := [
  ⟨some 2, .assign (.const (.bool false)), none⟩]
def f78_c : LC := (.seq (.reg f78_r0 [] none) (.seq (.regp f78_r1 [] [] 8) (.seq (.seq (.reg f78_r2 [] none) (.block 0 (.seq (.seq (.reg f78_r3 [] none) (.cond (.tmp 14) .skip (.reg f78_r4 [] none))) (.cond (.tmp 14) (.seq (.reg f78_r5 [] none) .ret) (.seq (.reg f78_r6 [] none) (.cond (.tmp 22) (.seq (.reg f78_r7 [] none) .ret) (.seq (.seq (.reg f78_r8 [] none) (.cond (.tmp 30) .skip (.reg f78_r9 [] none))) (.cond (.tmp 30) (.seq (.reg f78_r10 [] none) .ret) (.seq (.reg f78_r11 [] none) (.cond (.tmp 38) (.seq (.reg f78_r12 [] none) .ret) .skip)))))))))) (.seq (.reg f78_r13 [] none) .ret))))
theorem f78_lc : Tryd.f78.body.map lc = some f78_c.st := by kernel_rfl
theorem f78_res : Tryd.f78.results.toList = [.tmp 2] := by kernel_rfl
theorem f78_nt : Tryd.f78.ntmps = 45 := by kernel_rfl
theorem f78_nm : (Tryd.f78.name == "runtime.NumGoroutine") = false := by kernel_rfl

/-! quill/rex.nodes$1 -/
def f79_r0 : List LOp := [
  ⟨some 1, .box 27 (.tmp 0), none⟩,
  ⟨some 2, .assign (.const (.bool false)), none⟩]
def f79_r1 : List LOp := [
  ⟨some 3, .load 27 (.tmp 1), none⟩,
  ⟨some 4, .call { callee := .value (.func 52), args := #[.tmp 3], argTypes := #[27] }, none⟩,
  ⟨some 5, .unOp .not 4 (.tmp 4), none⟩,
  ⟨some 2, .assign (.tmp 5), none⟩]
def f79_c : LC := (.seq (.reg f79_r0 [] none) (.seq (.reg f79_r1 [] none) .ret))
theorem f79_lc : Tryd.f79.body.map lc = some f79_c.st := by kernel_rfl
theorem f79_res : Tryd.f79.results.toList = [.tmp 2] := by kernel_rfl
theorem f79_nt : Tryd.f79.ntmps = 6 := by kernel_rfl
theorem f79_nm : (Tryd.f79.name == "runtime.NumGoroutine") = false := by kernel_rfl

/-! math/bits.TrailingZeros64 -/
def f80_r0 : List LOp := [
  ⟨some 2, .assign (.const (.int .i64 0)), none⟩]
def f80_r1 : List LOp := [
  ⟨some 3, .move (.tmp 0), none⟩,
  ⟨some 4, .binOp .eql 22 (.tmp 3) (.const (.int .u64 0)) 22, none⟩]
def f80_r2 : List LOp := [
  ⟨some 2, .assign (.const (.int .i64 64)), none⟩]
def f80_r3 : List LOp := [
  ⟨some 5, .move (.tmp 0), none⟩,
  ⟨some 6, .move (.tmp 0), none⟩,
  ⟨some 7, .unOp .neg 22 (.tmp 6), none⟩,
  ⟨some 8, .binOp .and 22 (.tmp 5) (.tmp 7) 22, none⟩,
  ⟨some 9, .binOp .mul 22 (.tmp 8) (.const (.int .u64 285870213051353865)) 22, none⟩,
  ⟨some 10, .binOp .shr 22 (.tmp 9) (.const (.int .u64 58)) 114, none⟩,
  ⟨some 11, .indexAddr 113 (.global 0) (.tmp 10), none⟩,
  ⟨some 12, .load 5 (.tmp 11), none⟩,
  ⟨some 13, .convert 5 3 (.tmp 12), none⟩,
  ⟨some 2, .assign (.tmp 13), none⟩]
def f80_c : LC := (.seq (.reg f80_r0 [] none) (.seq (.seq (.reg f80_r1 [] none) (.cond (.tmp 4) (.seq (.reg f80_r2 [] none) .ret) .skip)) (.seq (.reg f80_r3 [] none) .ret)))
theorem f80_lc : Tryd.f80.body.map lc = some f80_c.st := by kernel_rfl
theorem f80_res : Tryd.f80.results.toList = [.tmp 2] := by kernel_rfl
theorem f80_nt : Tryd.f80.ntmps = 14 := by kernel_rfl
theorem f80_nm : (Tryd.f80.name == "runtime.NumGoroutine") = false := by kernel_rfl

/-! quill/quillref02.With -/
def f81_r0 : List LOp := [
  ⟨some 2, .box 24 (.tmp 0), none⟩,
  ⟨some 4, .alloc 24, none⟩]
def f81_r1 : List LOp := [
  ⟨some 7, .load 24 (.tmp 2), none⟩,
  ⟨some 8, .move (.tmp 1), none⟩,
  ⟨some 9, .call { callee := .value (.func 15), args := #[.tmp 7, .tmp 8], argTypes := #[24, 3] }, none⟩]
def f81_r2 : List LOp := [
  ⟨some 10, .load 24 (.tmp 2), none⟩,
  ⟨none, .store 24 (.tmp 4) (.tmp 10), none⟩]
def f81_r3 : List LOp := [
  ⟨some 5, .assign (.const (.int .u64 1)), none⟩]
def f81_r4 : List LOp := [
  ⟨some 6, .assign (.const (.int .i64 0)), none⟩]
def f81_r5 : List LOp := [
  ⟨some 11, .move (.tmp 6), none⟩,
  ⟨some 12, .move (.tmp 1), none⟩,
  ⟨some 13, .binOp .rem 3 (.tmp 12) (.const (.int .i64 64)) 3, none⟩,
  ⟨some 14, .binOp .lss 3 (.tmp 11) (.tmp 13) 3, none⟩]
def f81_r6 : List LOp := [
  ⟨some 17, .move (.tmp 5), none⟩,
  ⟨some 18, .binOp .mul 22 (.const (.int .u64 2)) (.tmp 17) 22, none⟩,
  ⟨some 5, .assign (.tmp 18), none⟩]
def f81_r7 : List LOp := [
  ⟨some 15, .move (.tmp 6), none⟩,
  ⟨some 16, .binOp .add 3 (.tmp 15) (.const (.int .i64 1)) 3, none⟩,
  ⟨some 6, .assign (.tmp 16), none⟩]
def f81_l8 : LC := (.seq (.seq (.reg f81_r5 [] none) (.cond (.tmp 14) .skip (.exit 0))) (.seq (.block 1 (.reg f81_r6 [] none)) (.reg f81_r7 [] none)))
def f81_i8 (t1 t2 t4 t5 t6 : D) : List D := [.any, t1, t2, .any, t4, t5, t6, .any, .any, .any, .any, .any, .any, .any, .any, .any, .any, .any, .any, .any, .any, .any, .any, .any, .any, .any, .any, .any, .any]
def f81_r9 : List LOp := [
  ⟨some 19, .move (.tmp 1), none⟩,
  ⟨some 20, .binOp .quo 3 (.tmp 19) (.const (.int .i64 64)) 3, none⟩,
  ⟨some 21, .move (.tmp 1), none⟩,
  ⟨some 22, .binOp .quo 3 (.tmp 21) (.const (.int .i64 64)) 3, none⟩,
  ⟨some 23, .indexAddr 24 (.tmp 2) (.tmp 22), none⟩,
  ⟨some 24, .load 22 (.tmp 23), none⟩,
  ⟨some 25, .move (.tmp 5), none⟩,
  ⟨some 26, .binOp .add 22 (.tmp 24) (.tmp 25) 22, none⟩,
  ⟨some 27, .indexAddr 24 (.tmp 2) (.tmp 20), none⟩,
  ⟨none, .store 22 (.tmp 27) (.tmp 26), none⟩]
def f81_r10 : List LOp := [
  ⟨some 28, .load 24 (.tmp 2), none⟩,
  ⟨none, .store 24 (.tmp 4) (.tmp 28), none⟩]
def f81_c : LC := (.seq (.reg f81_r0 [0] none) (.seq (.seq (.reg f81_r1 [] none) (.cond (.tmp 9) (.seq (.reg f81_r2 [] none) .ret) .skip)) (.seq (.reg f81_r3 [] none) (.seq (.seq (.reg f81_r4 [] none) (.block 0 (.loop f81_l8))) (.seq (.reg f81_r9 [] none) (.seq (.reg f81_r10 [] none) .ret))))))
theorem f81_lc : Tryd.f81.body.map lc = some f81_c.st := by kernel_rfl
theorem f81_res : Tryd.f81.results.toList = [.cell 4 24] := by kernel_rfl
theorem f81_nt : Tryd.f81.ntmps = 29 := by kernel_rfl
theorem f81_nm : (Tryd.f81.name == "runtime.NumGoroutine") = false := by kernel_rfl

/-! (*quill/read.reader).row -/
def f83_r0 : List LOp := [
  ⟨some 2, .alloc 27, none⟩]
def f83_r1 : List LOp := [
  ⟨some 4, .move (.tmp 0), none⟩,
  ⟨some 5, .call { callee := .value (.func 101), args := #[.tmp 4], argTypes := #[53] }, none⟩,
  ⟨some 6, .buildSlice 25 1 #[(0, .tmp 5)], none⟩,
  ⟨some 3, .assign (.tmp 6), none⟩]
def f83_r2 : List LOp := [
  ⟨some 7, .move (.tmp 0), none⟩,
  ⟨some 8, .call { callee := .value (.func 84), args := #[.tmp 7, .const (.string { data := #[46, 91, 40] })], argTypes := #[53, 9] }, none⟩,
  ⟨some 9, .move (.tmp 8), none⟩,
  ⟨some 10, .move (.tmp 0), some (2, false)⟩,
  ⟨some 11, .call { callee := .value (.func 102), args := #[.tmp 10], argTypes := #[53] }, some (2, false)⟩,
  ⟨some 12, .pick (.tmp 9) (.const (.bool true)) (.tmp 11), none⟩]
def f83_r3 : List LOp := [
  ⟨some 13, .move (.tmp 3), none⟩,
  ⟨some 14, .move (.tmp 0), none⟩,
  ⟨some 15, .call { callee := .value (.func 101), args := #[.tmp 14], argTypes := #[53] }, none⟩,
  ⟨some 16, .buildSlice 25 1 #[(0, .tmp 15)], none⟩,
  ⟨some 17, .call { callee := .builtin .append, args := #[.tmp 13, .tmp 16], argTypes := #[25, 25] }, none⟩,
  ⟨some 3, .assign (.tmp 17), none⟩]
def f83_l4 : LC := (.seq (.seq (.reg f83_r2 [] none) (.cond (.tmp 12) .skip (.exit 0))) (.block 1 (.reg f83_r3 [] none)))
def f83_i4 (t0 t2 t3 : D) : List D := [t0, .any, t2, t3, .any, .any, .any, .any, .any, .any, .any, .any, .any, .any, .any, .any, .any, .any, .any, .any]
def f83_r5 : List LOp := [
  ⟨some 18, .move (.tmp 3), none⟩,
  ⟨some 19, .call { callee := .value (.func 92), args := #[.tmp 18], argTypes := #[25] }, none⟩,
  ⟨none, .store 27 (.tmp 2) (.tmp 19), none⟩]
def f83_c : LC := (.seq (.reg f83_r0 [] none) (.seq (.reg f83_r1 [2] none) (.seq (.block 0 (.loop f83_l4)) (.seq (.reg f83_r5 [] none) .ret))))
theorem f83_lc : Tryd.f83.body.map lc = some f83_c.st := by kernel_rfl
theorem f83_res : Tryd.f83.results.toList = [.cell 2 27] := by kernel_rfl
theorem f83_nt : Tryd.f83.ntmps = 20 := by kernel_rfl
theorem f83_nm : (Tryd.f83.name == "runtime.NumGoroutine") = false := by kernel_rfl

/-! (*quill/read.reader).is -/
def f84_r0 : List LOp := [
  ⟨some 4, .assign (.const (.bool false)), none⟩]
def f84_r1 : List LOp := [
  ⟨some 5, .move (.tmp 0), none⟩,
  ⟨some 6, .nilCheck (.tmp 5), none⟩,
  ⟨some 7, .fieldAddr 55 (.tmp 6) 1, none⟩,
  ⟨some 8, .load 3 (.tmp 7), none⟩,
  ⟨some 9, .move (.tmp 0), none⟩,
  ⟨some 10, .nilCheck (.tmp 9), none⟩,
  ⟨some 11, .fieldAddr 55 (.tmp 10) 0, none⟩,
  ⟨some 12, .load 9 (.tmp 11), none⟩,
  ⟨some 13, .call { callee := .builtin .len, args := #[.tmp 12], argTypes := #[9] }, none⟩,
  ⟨some 14, .binOp .lss 3 (.tmp 8) (.tmp 13) 3, none⟩,
  ⟨some 15, .move (.tmp 14), none⟩,
  ⟨some 16, .move (.tmp 1), some (10, true)⟩,
  ⟨some 17, .move (.tmp 0), some (10, true)⟩,
  ⟨some 18, .nilCheck (.tmp 17), some (10, true)⟩,
  ⟨some 19, .fieldAddr 55 (.tmp 18) 0, some (10, true)⟩,
  ⟨some 20, .load 9 (.tmp 19), some (10, true)⟩,
  ⟨some 21, .move (.tmp 0), some (10, true)⟩,
  ⟨some 22, .nilCheck (.tmp 21), some (10, true)⟩,
  ⟨some 23, .fieldAddr 55 (.tmp 22) 1, some (10, true)⟩,
  ⟨some 24, .load 3 (.tmp 23), some (10, true)⟩,
  ⟨some 25, .index 9 (.tmp 20) (.tmp 24), some (10, true)⟩,
  ⟨some 26, .call { callee := .value (.func 103), args := #[.tmp 16, .tmp 25], argTypes := #[9, 5] }, some (10, true)⟩,
  ⟨some 27, .binOp .geq 3 (.tmp 26) (.const (.int .i64 0)) 3, some (10, true)⟩,
  ⟨some 28, .pick (.tmp 15) (.tmp 27) (.const (.bool false)), none⟩,
  ⟨some 4, .assign (.tmp 28), none⟩]
def f84_c : LC := (.seq (.reg f84_r0 [] none) (.seq (.reg f84_r1 [] (some 24)) .ret))
theorem f84_lc : Tryd.f84.body.map lc = some f84_c.st := by kernel_rfl
theorem f84_res : Tryd.f84.results.toList = [.tmp 4] := by kernel_rfl
theorem f84_nt : Tryd.f84.ntmps = 29 := by kernel_rfl
theorem f84_nm : (Tryd.f84.name == "runtime.NumGoroutine") = false := by kernel_rfl

/-! quill/rex.Or -/
def f85_r0 : List LOp := [
  ⟨some 2, .alloc 27, none⟩]
def f85_r1 : List LOp := [
  ⟨some 3, .move (.tmp 0), none⟩,
  ⟨some 4, .call { callee := .value (.func 104), args := #[.const (.int .u8 5), .const (.int .u8 1), .tmp 3], argTypes := #[5, 5, 25] }, none⟩,
  ⟨none, .store 27 (.tmp 2) (.tmp 4), none⟩]
def f85_c : LC := (.seq (.reg f85_r0 [] none) (.seq (.reg f85_r1 [] none) .ret))
theorem f85_lc : Tryd.f85.body.map lc = some f85_c.st := by kernel_rfl
theorem f85_res : Tryd.f85.results.toList = [.cell 2 27] := by kernel_rfl
theorem f85_nt : Tryd.f85.ntmps = 5 := by kernel_rfl
theorem f85_nm : (Tryd.f85.name == "runtime.NumGoroutine") = false := by kernel_rfl

/-! quill/set.Sign -/
def f89_r0 : List LOp := [
  ⟨some 2, .assign (.const (.string { data := #[] })), none⟩]
def f89_r1 : List LOp := [
  ⟨some 3, .move (.tmp 0), none⟩,
  ⟨some 4, .binOp .lss 5 (.tmp 3) (.const (.int .u8 33)) 5, none⟩,
  ⟨some 5, .move (.tmp 4), none⟩,
  ⟨some 6, .move (.tmp 0), some (2, false)⟩,
  ⟨some 7, .binOp .gtr 5 (.tmp 6) (.const (.int .u8 126)) 5, some (2, false)⟩,
  ⟨some 8, .pick (.tmp 5) (.const (.bool true)) (.tmp 7), none⟩,
  ⟨some 9, .move (.tmp 8), none⟩,
  ⟨some 10, .move (.tmp 0), some (6, false)⟩,
  ⟨some 11, .call { callee := .value (.func 103), args := #[.const (.string { data := #[92, 124, 42, 40, 41, 91, 93, 46, 45] }), .tmp 10], argTypes := #[9, 5] }, some (6, false)⟩,
  ⟨some 12, .binOp .geq 3 (.tmp 11) (.const (.int .i64 0)) 3, some (6, false)⟩,
  ⟨some 13, .pick (.tmp 9) (.const (.bool true)) (.tmp 12), none⟩]
def f89_r2 : List LOp := [
  ⟨some 14, .move (.tmp 0), none⟩,
  ⟨some 15, .buildSlice 59 1 #[(0, .tmp 14)], none⟩,
  ⟨some 16, .call { callee := .value (.func 106), args := #[.tmp 15], argTypes := #[59] }, none⟩,
  ⟨some 17, .binOp .add 9 (.const (.string { data := #[92] })) (.tmp 16) 9, none⟩,
  ⟨some 2, .assign (.tmp 17), none⟩]
def f89_r3 : List LOp := [
  ⟨some 18, .move (.tmp 0), none⟩,
  ⟨some 19, .buildSlice 59 1 #[(0, .tmp 18)], none⟩,
  ⟨some 20, .convert 59 9 (.tmp 19), none⟩,
  ⟨some 2, .assign (.tmp 20), none⟩]
def f89_c : LC := (.seq (.reg f89_r0 [] none) (.seq (.seq (.reg f89_r1 [] none) (.cond (.tmp 13) (.seq (.reg f89_r2 [] none) .ret) .skip)) (.seq (.reg f89_r3 [] none) .ret)))
theorem f89_lc : Tryd.f89.body.map lc = some f89_c.st := by kernel_rfl
theorem f89_res : Tryd.f89.results.toList = [.tmp 2] := by kernel_rfl
theorem f89_nt : Tryd.f89.ntmps = 21 := by kernel_rfl
theorem f89_nm : (Tryd.f89.name == "runtime.NumGoroutine") = false := by kernel_rfl

/-! quill/rex.Then -/
def f92_r0 : List LOp := [
  ⟨some 2, .alloc 27, none⟩]
def f92_r1 : List LOp := [
  ⟨some 3, .move (.tmp 0), none⟩,
  ⟨some 4, .call { callee := .value (.func 104), args := #[.const (.int .u8 4), .const (.int .u8 2), .tmp 3], argTypes := #[5, 5, 25] }, none⟩,
  ⟨none, .store 27 (.tmp 2) (.tmp 4), none⟩]
def f92_c : LC := (.seq (.reg f92_r0 [] none) (.seq (.reg f92_r1 [] none) .ret))
theorem f92_lc : Tryd.f92.body.map lc = some f92_c.st := by kernel_rfl
theorem f92_res : Tryd.f92.results.toList = [.cell 2 27] := by kernel_rfl
theorem f92_nt : Tryd.f92.ntmps = 5 := by kernel_rfl
theorem f92_nm : (Tryd.f92.name == "runtime.NumGoroutine") = false := by kernel_rfl

/-! quill/rex.Of -/
def f96_r0 : List LOp := [
  ⟨some 1, .box 24 (.tmp 0), none⟩,
  ⟨some 2, .alloc 27, none⟩]
def f96_r1 : List LOp := [
  ⟨some 3, .load 24 (.tmp 1), none⟩,
  ⟨some 4, .build 24 #[], none⟩,
  ⟨some 5, .binOp .eql 24 (.tmp 3) (.tmp 4) 24, none⟩]
def f96_r2 : List LOp := [
  ⟨some 6, .build 27 #[(0, .const (.int .u8 1))], none⟩,
  ⟨none, .store 27 (.tmp 2) (.tmp 6), none⟩]
def f96_r3 : List LOp := [
  ⟨some 7, .load 24 (.tmp 1), none⟩,
  ⟨some 8, .build 27 #[(0, .const (.int .u8 3)), (1, .tmp 7)], none⟩,
  ⟨none, .store 27 (.tmp 2) (.tmp 8), none⟩]
def f96_c : LC := (.seq (.reg f96_r0 [] none) (.seq (.seq (.reg f96_r1 [] none) (.cond (.tmp 5) (.seq (.reg f96_r2 [] none) .ret) .skip)) (.seq (.reg f96_r3 [] none) .ret)))
theorem f96_lc : Tryd.f96.body.map lc = some f96_c.st := by kernel_rfl
theorem f96_res : Tryd.f96.results.toList = [.cell 2 27] := by kernel_rfl
theorem f96_nt : Tryd.f96.ntmps = 9 := by kernel_rfl
theorem f96_nm : (Tryd.f96.name == "runtime.NumGoroutine") = false := by kernel_rfl

/-! quill/rex.Many -/
def f99_r0 : List LOp := [
  ⟨some 1, .box 27 (.tmp 0), none⟩,
  ⟨some 2, .alloc 27, none⟩]
def f99_r1 : List LOp := [
  ⟨some 3, .load 27 (.tmp 1), none⟩,
  ⟨some 4, .buildSlice 25 1 #[(0, .tmp 3)], none⟩,
  ⟨some 5, .build 27 #[(0, .const (.int .u8 6)), (2, .tmp 4)], none⟩,
  ⟨none, .store 27 (.tmp 2) (.tmp 5), none⟩]
def f99_c : LC := (.seq (.reg f99_r0 [] none) (.seq (.reg f99_r1 [] none) .ret))
theorem f99_lc : Tryd.f99.body.map lc = some f99_c.st := by kernel_rfl
theorem f99_res : Tryd.f99.results.toList = [.cell 2 27] := by kernel_rfl
theorem f99_nt : Tryd.f99.ntmps = 6 := by kernel_rfl
theorem f99_nm : (Tryd.f99.name == "runtime.NumGoroutine") = false := by kernel_rfl

/-! (*quill/read.reader).part -/
def f101_r0 : List LOp := [
  ⟨some 2, .alloc 27, none⟩]
def f101_r1 : List LOp := [
  ⟨some 4, .move (.tmp 0), none⟩,
  ⟨some 5, .call { callee := .value (.func 113), args := #[.tmp 4], argTypes := #[53] }, none⟩,
  ⟨some 3, .alloc 27, none⟩,
  ⟨none, .store 27 (.tmp 3) (.tmp 5), none⟩]
def f101_r2 : List LOp := [
  ⟨some 6, .move (.tmp 0), none⟩,
  ⟨some 7, .call { callee := .value (.func 84), args := #[.tmp 6, .const (.string { data := #[42] })], argTypes := #[53, 9] }, none⟩]
def f101_r3 : List LOp := [
  ⟨some 8, .move (.tmp 0), none⟩,
  ⟨some 9, .nilCheck (.tmp 8), none⟩,
  ⟨some 10, .fieldAddr 55 (.tmp 9) 1, none⟩,
  ⟨some 11, .load 3 (.tmp 10), none⟩,
  ⟨some 12, .binOp .add 3 (.tmp 11) (.const (.int .i64 1)) 3, none⟩,
  ⟨some 13, .nilCheck (.tmp 8), none⟩,
  ⟨some 14, .fieldAddr 55 (.tmp 13) 1, none⟩,
  ⟨none, .store 3 (.tmp 14) (.tmp 12), none⟩]
def f101_r4 : List LOp := [
  ⟨some 15, .load 27 (.tmp 3), none⟩,
  ⟨some 16, .call { callee := .value (.func 99), args := #[.tmp 15], argTypes := #[27] }, none⟩,
  ⟨none, .store 27 (.tmp 3) (.tmp 16), none⟩]
def f101_l5 : LC := (.seq (.seq (.reg f101_r2 [] none) (.cond (.tmp 7) .skip (.exit 0))) (.block 1 (.seq (.reg f101_r3 [] none) (.reg f101_r4 [] none))))
def f101_i5 (t0 t2 t3 : D) : List D := [t0, .any, t2, t3, .any, .any, .any, .any, .any, .any, .any, .any, .any, .any, .any, .any, .any, .any]
def f101_r6 : List LOp := [
  ⟨some 17, .load 27 (.tmp 3), none⟩,
  ⟨none, .store 27 (.tmp 2) (.tmp 17), none⟩]
def f101_c : LC := (.seq (.reg f101_r0 [] none) (.seq (.reg f101_r1 [] none) (.seq (.block 0 (.loop f101_l5)) (.seq (.reg f101_r6 [] none) .ret))))
theorem f101_lc : Tryd.f101.body.map lc = some f101_c.st := by kernel_rfl
theorem f101_res : Tryd.f101.results.toList = [.cell 2 27] := by kernel_rfl
theorem f101_nt : Tryd.f101.ntmps = 18 := by kernel_rfl
theorem f101_nm : (Tryd.f101.name == "runtime.NumGoroutine") = false := by kernel_rfl

/-! (*quill/read.reader).begins -/
def f102_r0 : List LOp := [
  ⟨some 2, .assign (.const (.bool false)), none⟩]
def f102_r1 : List LOp := [
  ⟨some 3, .move (.tmp 0), none⟩,
  ⟨some 4, .call { callee := .value (.func 84), args := #[.tmp 3, .const (.string { data := #[92] })], argTypes := #[53, 9] }, none⟩,
  ⟨some 5, .move (.tmp 4), none⟩,
  ⟨some 6, .move (.tmp 0), some (2, false)⟩,
  ⟨some 7, .nilCheck (.tmp 6), some (2, false)⟩,
  ⟨some 8, .fieldAddr 55 (.tmp 7) 1, some (2, false)⟩,
  ⟨some 9, .load 3 (.tmp 8), some (2, false)⟩,
  ⟨some 10, .move (.tmp 0), some (2, false)⟩,
  ⟨some 11, .nilCheck (.tmp 10), some (2, false)⟩,
  ⟨some 12, .fieldAddr 55 (.tmp 11) 0, some (2, false)⟩,
  ⟨some 13, .load 9 (.tmp 12), some (2, false)⟩,
  ⟨some 14, .call { callee := .builtin .len, args := #[.tmp 13], argTypes := #[9] }, some (2, false)⟩,
  ⟨some 15, .binOp .lss 3 (.tmp 9) (.tmp 14) 3, some (2, false)⟩,
  ⟨some 16, .move (.tmp 15), some (2, false)⟩,
  ⟨some 17, .move (.tmp 0), some (13, true)⟩,
  ⟨some 18, .nilCheck (.tmp 17), some (13, true)⟩,
  ⟨some 19, .fieldAddr 55 (.tmp 18) 0, some (13, true)⟩,
  ⟨some 20, .load 9 (.tmp 19), some (13, true)⟩,
  ⟨some 21, .move (.tmp 0), some (13, true)⟩,
  ⟨some 22, .nilCheck (.tmp 21), some (13, true)⟩,
  ⟨some 23, .fieldAddr 55 (.tmp 22) 1, some (13, true)⟩,
  ⟨some 24, .load 3 (.tmp 23), some (13, true)⟩,
  ⟨some 25, .index 9 (.tmp 20) (.tmp 24), some (13, true)⟩,
  ⟨some 26, .call { callee := .value (.func 89), args := #[.tmp 25], argTypes := #[5] }, some (13, true)⟩,
  ⟨some 27, .move (.tmp 0), some (13, true)⟩,
  ⟨some 28, .nilCheck (.tmp 27), some (13, true)⟩,
  ⟨some 29, .fieldAddr 55 (.tmp 28) 0, some (13, true)⟩,
  ⟨some 30, .load 9 (.tmp 29), some (13, true)⟩,
  ⟨some 31, .move (.tmp 0), some (13, true)⟩,
  ⟨some 32, .nilCheck (.tmp 31), some (13, true)⟩,
  ⟨some 33, .fieldAddr 55 (.tmp 32) 1, some (13, true)⟩,
  ⟨some 34, .load 3 (.tmp 33), some (13, true)⟩,
  ⟨some 35, .move (.tmp 0), some (13, true)⟩,
  ⟨some 36, .nilCheck (.tmp 35), some (13, true)⟩,
  ⟨some 37, .fieldAddr 55 (.tmp 36) 1, some (13, true)⟩,
  ⟨some 38, .load 3 (.tmp 37), some (13, true)⟩,
  ⟨some 39, .binOp .add 3 (.tmp 38) (.const (.int .i64 1)) 3, some (13, true)⟩,
  ⟨some 40, .slice 9 (.tmp 30) (some (.tmp 34)) (some (.tmp 39)) none, some (13, true)⟩,
  ⟨some 41, .binOp .eql 9 (.tmp 26) (.tmp 40) 9, some (13, true)⟩,
  ⟨some 42, .pick (.tmp 16) (.tmp 41) (.const (.bool false)), some (2, false)⟩,
  ⟨some 43, .pick (.tmp 5) (.const (.bool true)) (.tmp 42), none⟩,
  ⟨some 2, .assign (.tmp 43), none⟩]
def f102_c : LC := (.seq (.reg f102_r0 [] none) (.seq (.reg f102_r1 [] (some 41)) .ret))
theorem f102_lc : Tryd.f102.body.map lc = some f102_c.st := by kernel_rfl
theorem f102_res : Tryd.f102.results.toList = [.tmp 2] := by kernel_rfl
theorem f102_nt : Tryd.f102.ntmps = 44 := by kernel_rfl
theorem f102_nm : (Tryd.f102.name == "runtime.NumGoroutine") = false := by kernel_rfl

/-! strings.IndexByte -/
def f103_r0 : List LOp := [
  ⟨some 4, .assign (.const (.int .i64 0)), none⟩]
def f103_r1 : List LOp := [
  ⟨some 5, .move (.tmp 0), none⟩,
  ⟨some 6, .move (.tmp 1), none⟩,
  ⟨some 7, .call { callee := .value (.func 114), args := #[.tmp 5, .tmp 6], argTypes := #[9, 5] }, none⟩,
  ⟨some 4, .assign (.tmp 7), none⟩]
def f103_c : LC := (.seq (.reg f103_r0 [] none) (.seq (.reg f103_r1 [] none) .ret))
theorem f103_lc : Tryd.f103.body.map lc = some f103_c.st := by kernel_rfl
theorem f103_res : Tryd.f103.results.toList = [.tmp 4] := by kernel_rfl
theorem f103_nt : Tryd.f103.ntmps = 8 := by kernel_rfl
theorem f103_nm : (Tryd.f103.name == "runtime.NumGoroutine") = false := by kernel_rfl

/-! quill/rex.fold -/
def f104_r0 : List LOp := [
  ⟨some 3, .box 5 (.tmp 0), none⟩,
  ⟨some 6, .alloc 27, none⟩]
def f104_r1 : List LOp := [
  ⟨some 10, .move (.tmp 2), none⟩,
  ⟨some 11, .call { callee := .builtin .len, args := #[.tmp 10], argTypes := #[25] }, none⟩,
  ⟨some 12, .binOp .eql 3 (.tmp 11) (.const (.int .i64 0)) 3, none⟩]
def f104_r2 : List LOp := [
  ⟨some 13, .move (.tmp 1), none⟩,
  ⟨some 14, .build 27 #[(0, .tmp 13)], none⟩,
  ⟨none, .store 27 (.tmp 6) (.tmp 14), none⟩]
def f104_r3 : List LOp := [
  ⟨some 15, .move (.tmp 2), none⟩,
  ⟨some 16, .move (.tmp 2), none⟩,
  ⟨some 17, .call { callee := .builtin .len, args := #[.tmp 16], argTypes := #[25] }, none⟩,
  ⟨some 18, .binOp .sub 3 (.tmp 17) (.const (.int .i64 1)) 3, none⟩,
  ⟨some 19, .indexAddr 25 (.tmp 15) (.tmp 18), none⟩,
  ⟨some 20, .load 27 (.tmp 19), none⟩,
  ⟨some 7, .alloc 27, none⟩,
  ⟨none, .store 27 (.tmp 7) (.tmp 20), none⟩]
def f104_r4 : List LOp := [
  ⟨some 21, .move (.tmp 2), none⟩,
  ⟨some 22, .move (.tmp 2), none⟩,
  ⟨some 23, .call { callee := .builtin .len, args := #[.tmp 22], argTypes := #[25] }, none⟩,
  ⟨some 24, .binOp .sub 3 (.tmp 23) (.const (.int .i64 1)) 3, none⟩,
  ⟨some 25, .slice 25 (.tmp 21) none (some (.tmp 24)) none, none⟩,
  ⟨some 26, .call { callee := .value (.func 115), args := #[.tmp 25], argTypes := #[25] }, none⟩]
def f104_r5 : List LOp := [
  ⟨some 9, .alloc 27, none⟩,
  ⟨none, .store 27 (.tmp 9) (.tmp 28), none⟩]
def f104_r6 : List LOp := [
  ⟨some 29, .load 5 (.tmp 3), none⟩,
  ⟨some 30, .load 27 (.tmp 9), none⟩,
  ⟨some 31, .load 27 (.tmp 7), none⟩,
  ⟨some 32, .buildSlice 25 2 #[(0, .tmp 30), (1, .tmp 31)], none⟩,
  ⟨some 33, .build 27 #[(0, .tmp 29), (2, .tmp 32)], none⟩,
  ⟨none, .store 27 (.tmp 7) (.tmp 33), none⟩]
def f104_a7 : LC := (.reg f104_r5 [] none)
def f104_b7 : LC := (.block 1 (.reg f104_r6 [] none))
def f104_r8 : List LOp := [
  ⟨some 34, .load 27 (.tmp 7), none⟩,
  ⟨none, .store 27 (.tmp 6) (.tmp 34), none⟩]
def f104_c : LC := (.seq (.reg f104_r0 [] none) (.seq (.seq (.reg f104_r1 [] none) (.cond (.tmp 12) (.seq (.reg f104_r2 [] none) .ret) .skip)) (.seq (.reg f104_r3 [] none) (.seq (.seq (.reg f104_r4 [] none) (.block 0 (.rfun (.tmp 26) [27, 28] f104_a7 f104_b7))) (.seq (.reg f104_r8 [] none) .ret)))))
theorem f104_lc : Tryd.f104.body.map lc = some f104_c.st := by kernel_rfl
theorem f104_res : Tryd.f104.results.toList = [.cell 6 27] := by kernel_rfl
theorem f104_nt : Tryd.f104.ntmps = 35 := by kernel_rfl
theorem f104_nm : (Tryd.f104.name == "runtime.NumGoroutine") = false := by kernel_rfl

/-! quill/num.Hex -/
def f106_r0 : List LOp := [
  ⟨some 2, .assign (.const (.string { data := #[] })), none⟩]
def f106_r1 : List LOp := [
  ⟨some 6, .move (.tmp 0), none⟩,
  ⟨some 7, .call { callee := .builtin .len, args := #[.tmp 6], argTypes := #[59] }, none⟩,
  ⟨some 8, .binOp .mul 3 (.const (.int .i64 2)) (.tmp 7) 3, none⟩,
  ⟨some 9, .makeSlice 59 (.const (.int .i64 0)) (.tmp 8), none⟩,
  ⟨some 3, .assign (.tmp 9), none⟩]
def f106_r2 : List LOp := [
  ⟨some 10, .move (.tmp 0), none⟩,
  ⟨some 11, .call { callee := .builtin .len, args := #[.tmp 10], argTypes := #[59] }, none⟩,
  ⟨some 12, .move (.const (.int .i64 0)), none⟩]
def f106_r3 : List LOp := [
  ⟨some 13, .binOp .lss 3 (.tmp 12) (.tmp 11) 3, none⟩]
def f106_r4 : List LOp := [
  ⟨some 14, .indexAddr 59 (.tmp 10) (.tmp 12), none⟩,
  ⟨some 15, .load 5 (.tmp 14), none⟩,
  ⟨some 5, .assign (.tmp 15), none⟩]
def f106_r5 : List LOp := [
  ⟨some 16, .move (.tmp 3), none⟩,
  ⟨some 17, .move (.tmp 5), none⟩,
  ⟨some 18, .binOp .shr 5 (.tmp 17) (.const (.int .u64 4)) 114, none⟩,
  ⟨some 19, .call { callee := .value (.func 116), args := #[.tmp 18], argTypes := #[5] }, none⟩,
  ⟨some 20, .move (.tmp 5), none⟩,
  ⟨some 21, .call { callee := .value (.func 116), args := #[.tmp 20], argTypes := #[5] }, none⟩,
  ⟨some 22, .buildSlice 59 2 #[(0, .tmp 19), (1, .tmp 21)], none⟩,
  ⟨some 23, .call { callee := .builtin .append, args := #[.tmp 16, .tmp 22], argTypes := #[59, 59] }, none⟩,
  ⟨some 3, .assign (.tmp 23), none⟩]
def f106_r6 : List LOp := [
  ⟨some 24, .binOp .add 3 (.tmp 12) (.const (.int .i64 1)) 3, none⟩,
  ⟨some 12, .move (.tmp 24), none⟩]
def f106_l7 : LC := (.seq (.reg f106_r3 [] none) (.seq (.cond (.tmp 13) .skip (.exit 0)) (.seq (.block 1 (.seq (.reg f106_r4 [] none) (.reg f106_r5 [] none))) (.reg f106_r6 [] none))))
def f106_i7 (t3 t10 t11 t12 : D) : List D := [.any, .any, .any, t3, .any, .any, .any, .any, .any, .any, t10, t11, t12, .any, .any, .any, .any, .any, .any, .any, .any, .any, .any, .any, .any, .any, .any]
def f106_r8 : List LOp := [
  ⟨some 25, .move (.tmp 3), none⟩,
  ⟨some 26, .convert 59 9 (.tmp 25), none⟩,
  ⟨some 2, .assign (.tmp 26), none⟩]
def f106_c : LC := (.seq (.reg f106_r0 [] none) (.seq (.reg f106_r1 [3] none) (.seq (.seq (.reg f106_r2 [] none) (.block 0 (.loop f106_l7))) (.seq (.reg f106_r8 [] none) .ret))))
theorem f106_lc : Tryd.f106.body.map lc = some f106_c.st := by kernel_rfl
theorem f106_res : Tryd.f106.results.toList = [.tmp 2] := by kernel_rfl
theorem f106_nt : Tryd.f106.ntmps = 27 := by kernel_rfl
theorem f106_nm : (Tryd.f106.name == "runtime.NumGoroutine") = false := by kernel_rfl

/-! (*quill/read.reader).atom -/
def f113_r0 : List LOp := [
  ⟨some 2, .alloc 27, none⟩]
def f113_r1 : List LOp := [
  ⟨some 5, .move (.tmp 0), none⟩,
  ⟨some 6, .call { callee := .value (.func 84), args := #[.tmp 5, .const (.string { data := #[46] })], argTypes := #[53, 9] }, none⟩,
  ⟨some 4, .assign (.tmp 6), none⟩]
def f113_r2 : List LOp := [
  ⟨some 7, .move (.tmp 0), none⟩,
  ⟨some 8, .nilCheck (.tmp 7), none⟩,
  ⟨some 9, .fieldAddr 55 (.tmp 8) 1, none⟩,
  ⟨some 10, .load 3 (.tmp 9), none⟩,
  ⟨some 11, .binOp .add 3 (.tmp 10) (.const (.int .i64 1)) 3, none⟩,
  ⟨some 12, .nilCheck (.tmp 7), none⟩,
  ⟨some 13, .fieldAddr 55 (.tmp 12) 1, none⟩,
  ⟨none, .store 3 (.tmp 13) (.tmp 11), none⟩]
def f113_r3 : List LOp := [
  ⟨some 14, .call { callee := .value (.func 124), args := #[.const (.int .u8 0), .const (.int .u8 255)], argTypes := #[5, 5] }, none⟩,
  ⟨some 15, .call { callee := .value (.func 96), args := #[.tmp 14], argTypes := #[24] }, none⟩,
  ⟨none, .store 27 (.tmp 2) (.tmp 15), none⟩]
def f113_r4 : List LOp := [
  ⟨some 17, .move (.tmp 0), none⟩,
  ⟨some 18, .call { callee := .value (.func 84), args := #[.tmp 17, .const (.string { data := #[91] })], argTypes := #[53, 9] }, none⟩,
  ⟨some 16, .assign (.tmp 18), none⟩]
def f113_r5 : List LOp := [
  ⟨some 19, .move (.tmp 0), none⟩,
  ⟨some 20, .nilCheck (.tmp 19), none⟩,
  ⟨some 21, .fieldAddr 55 (.tmp 20) 1, none⟩,
  ⟨some 22, .load 3 (.tmp 21), none⟩,
  ⟨some 23, .binOp .add 3 (.tmp 22) (.const (.int .i64 1)) 3, none⟩,
  ⟨some 24, .nilCheck (.tmp 19), none⟩,
  ⟨some 25, .fieldAddr 55 (.tmp 24) 1, none⟩,
  ⟨none, .store 3 (.tmp 25) (.tmp 23), none⟩]
def f113_r6 : List LOp := [
  ⟨some 26, .move (.tmp 0), none⟩,
  ⟨some 27, .call { callee := .value (.func 125), args := #[.tmp 26], argTypes := #[53] }, none⟩,
  ⟨none, .store 27 (.tmp 2) (.tmp 27), none⟩]
def f113_r7 : List LOp := [
  ⟨some 29, .move (.tmp 0), none⟩,
  ⟨some 30, .call { callee := .value (.func 84), args := #[.tmp 29, .const (.string { data := #[40] })], argTypes := #[53, 9] }, none⟩,
  ⟨some 28, .assign (.tmp 30), none⟩]
def f113_r8 : List LOp := [
  ⟨some 31, .move (.tmp 0), none⟩,
  ⟨some 32, .nilCheck (.tmp 31), none⟩,
  ⟨some 33, .fieldAddr 55 (.tmp 32) 1, none⟩,
  ⟨some 34, .load 3 (.tmp 33), none⟩,
  ⟨some 35, .binOp .add 3 (.tmp 34) (.const (.int .i64 1)) 3, none⟩,
  ⟨some 36, .nilCheck (.tmp 31), none⟩,
  ⟨some 37, .fieldAddr 55 (.tmp 36) 1, none⟩,
  ⟨none, .store 3 (.tmp 37) (.tmp 35), none⟩]
def f113_r9 : List LOp := [
  ⟨some 38, .move (.tmp 0), none⟩,
  ⟨some 39, .call { callee := .value (.func 84), args := #[.tmp 38, .const (.string { data := #[41] })], argTypes := #[53, 9] }, none⟩]
def f113_r10 : List LOp := [
  ⟨some 40, .move (.tmp 0), none⟩,
  ⟨some 41, .nilCheck (.tmp 40), none⟩,
  ⟨some 42, .fieldAddr 55 (.tmp 41) 1, none⟩,
  ⟨some 43, .load 3 (.tmp 42), none⟩,
  ⟨some 44, .binOp .add 3 (.tmp 43) (.const (.int .i64 1)) 3, none⟩,
  ⟨some 45, .nilCheck (.tmp 40), none⟩,
  ⟨some 46, .fieldAddr 55 (.tmp 45) 1, none⟩,
  ⟨none, .store 3 (.tmp 46) (.tmp 44), none⟩]
def f113_r11 : List LOp := [
  ⟨some 47, .call { callee := .value (.func 92), args := #[.const (.slice none 0 0)], argTypes := #[25] }, none⟩,
  ⟨none, .store 27 (.tmp 2) (.tmp 47), none⟩]
def f113_r12 : List LOp := [
  ⟨some 48, .move (.tmp 0), none⟩,
  ⟨some 49, .call { callee := .value (.func 65), args := #[.tmp 48], argTypes := #[53] }, none⟩,
  ⟨some 3, .alloc 27, none⟩,
  ⟨none, .store 27 (.tmp 3) (.tmp 49), none⟩]
def f113_r13 : List LOp := [
  ⟨some 50, .move (.tmp 0), none⟩,
  ⟨some 51, .call { callee := .value (.func 126), args := #[.tmp 50, .const (.string { data := #[41] })], argTypes := #[53, 9] }, none⟩]
def f113_r14 : List LOp := [
  ⟨some 52, .load 27 (.tmp 3), none⟩,
  ⟨none, .store 27 (.tmp 2) (.tmp 52), none⟩]
def f113_r15 : List LOp := [
  ⟨some 53, .move (.tmp 0), none⟩,
  ⟨some 54, .call { callee := .value (.func 127), args := #[.tmp 53], argTypes := #[53] }, none⟩,
  ⟨some 55, .buildSlice 59 1 #[(0, .tmp 54)], none⟩,
  ⟨some 56, .call { callee := .value (.func 29), args := #[.tmp 55], argTypes := #[59] }, none⟩,
  ⟨some 57, .call { callee := .value (.func 96), args := #[.tmp 56], argTypes := #[24] }, none⟩,
  ⟨none, .store 27 (.tmp 2) (.tmp 57), none⟩]
def f113_c : LC := (.seq (.reg f113_r0 [] none) (.seq (.block 0 (.seq (.reg f113_r1 [] none) (.cond (.tmp 4) (.seq (.reg f113_r2 [] none) (.seq (.reg f113_r3 [] none) .ret)) (.seq (.reg f113_r4 [] none) (.cond (.tmp 16) (.seq (.reg f113_r5 [] none) (.seq (.reg f113_r6 [] none) .ret)) (.seq (.reg f113_r7 [] none) (.cond (.tmp 28) (.seq (.reg f113_r8 [] none) (.seq (.seq (.reg f113_r9 [] none) (.cond (.tmp 39) (.seq (.reg f113_r10 [] none) (.seq (.reg f113_r11 [] none) .ret)) .skip)) (.seq (.reg f113_r12 [] none) (.seq (.reg f113_r13 [] none) (.seq (.reg f113_r14 [] none) .ret))))) .skip))))))) (.seq (.reg f113_r15 [] none) .ret)))
theorem f113_lc : Tryd.f113.body.map lc = some f113_c.st := by kernel_rfl
theorem f113_res : Tryd.f113.results.toList = [.cell 2 27] := by kernel_rfl
theorem f113_nt : Tryd.f113.ntmps = 58 := by kernel_rfl
theorem f113_nm : (Tryd.f113.name == "runtime.NumGoroutine") = false := by kernel_rfl

/-! internal/stringslite.IndexByte -/
def f114_r0 : List LOp := [
  ⟨some 4, .assign (.const (.int .i64 0)), none⟩]
def f114_r1 : List LOp := [
  ⟨some 5, .move (.tmp 0), none⟩,
  ⟨some 6, .move (.tmp 1), none⟩,
  ⟨some 7, .call { callee := .value (.func 128), args := #[.tmp 5, .tmp 6], argTypes := #[9, 5] }, none⟩,
  ⟨some 4, .assign (.tmp 7), none⟩]
def f114_c : LC := (.seq (.reg f114_r0 [] none) (.seq (.reg f114_r1 [] none) .ret))
theorem f114_lc : Tryd.f114.body.map lc = some f114_c.st := by kernel_rfl
theorem f114_res : Tryd.f114.results.toList = [.tmp 4] := by kernel_rfl
theorem f114_nt : Tryd.f114.ntmps = 8 := by kernel_rfl
theorem f114_nm : (Tryd.f114.name == "runtime.NumGoroutine") = false := by kernel_rfl

/-! slices.Backward[[]quill/api.Re,quill/api.Re] -/
def f115_r0 : List LOp := [
  ⟨some 1, .box 25 (.tmp 0), none⟩,
  ⟨some 2, .assign (.const .nilFunc), none⟩]
def f115_r1 : List LOp := [
  ⟨some 3, .makeFunc (.func 129) #[] #[.tmp 1], none⟩,
  ⟨some 2, .assign (.tmp 3), none⟩]
def f115_c : LC := (.seq (.reg f115_r0 [] none) (.seq (.reg f115_r1 [] none) .ret))
theorem f115_lc : Tryd.f115.body.map lc = some f115_c.st := by kernel_rfl
theorem f115_res : Tryd.f115.results.toList = [.tmp 2] := by kernel_rfl
theorem f115_nt : Tryd.f115.ntmps = 4 := by kernel_rfl
theorem f115_nm : (Tryd.f115.name == "runtime.NumGoroutine") = false := by kernel_rfl

/-! quill/num.digit -/
def f116_r0 : List LOp := [
  ⟨some 2, .assign (.const (.int .u8 0)), none⟩]
def f116_r1 : List LOp := [
  ⟨some 3, .move (.tmp 0), none⟩,
  ⟨some 4, .binOp .and 5 (.tmp 3) (.const (.int .u8 15)) 5, none⟩,
  ⟨some 5, .index 9 (.const (.string { data := #[48, 49, 50, 51, 52, 53, 54, 55, 56, 57, 97, 98, 99, 100, 101, 102] })) (.tmp 4), none⟩,
  ⟨some 2, .assign (.tmp 5), none⟩]
def f116_c : LC := (.seq (.reg f116_r0 [] none) (.seq (.reg f116_r1 [] none) .ret))
theorem f116_lc : Tryd.f116.body.map lc = some f116_c.st := by kernel_rfl
theorem f116_res : Tryd.f116.results.toList = [.tmp 2] := by kernel_rfl
theorem f116_nt : Tryd.f116.ntmps = 6 := by kernel_rfl
theorem f116_nm : (Tryd.f116.name == "runtime.NumGoroutine") = false := by kernel_rfl

/-! quill/set.Range -/
def f124_r0 : List LOp := [
  ⟨some 4, .alloc 24, none⟩]
def f124_r1 : List LOp := [
  ⟨some 5, .alloc 24, none⟩]
def f124_r2 : List LOp := [
  ⟨some 7, .move (.tmp 0), none⟩,
  ⟨some 8, .convert 5 3 (.tmp 7), none⟩,
  ⟨some 6, .assign (.tmp 8), none⟩]
def f124_r3 : List LOp := [
  ⟨some 9, .move (.tmp 6), none⟩,
  ⟨some 10, .move (.tmp 1), none⟩,
  ⟨some 11, .convert 5 3 (.tmp 10), none⟩,
  ⟨some 12, .binOp .leq 3 (.tmp 9) (.tmp 11) 3, none⟩]
def f124_r4 : List LOp := [
  ⟨some 15, .move (.tmp 6), none⟩,
  ⟨some 16, .binOp .quo 3 (.tmp 15) (.const (.int .i64 64)) 3, none⟩,
  ⟨some 17, .indexAddr 24 (.tmp 5) (.tmp 16), none⟩,
  ⟨some 18, .load 22 (.tmp 17), none⟩,
  ⟨some 19, .move (.tmp 6), none⟩,
  ⟨some 20, .binOp .rem 3 (.tmp 19) (.const (.int .i64 64)) 3, none⟩,
  ⟨some 21, .binOp .shl 22 (.const (.int .u64 1)) (.tmp 20) 3, none⟩,
  ⟨some 22, .binOp .or 22 (.tmp 18) (.tmp 21) 22, none⟩,
  ⟨some 23, .indexAddr 24 (.tmp 5) (.tmp 16), none⟩,
  ⟨none, .store 22 (.tmp 23) (.tmp 22), none⟩]
def f124_r5 : List LOp := [
  ⟨some 13, .move (.tmp 6), none⟩,
  ⟨some 14, .binOp .add 3 (.tmp 13) (.const (.int .i64 1)) 3, none⟩,
  ⟨some 6, .assign (.tmp 14), none⟩]
def f124_l6 : LC := (.seq (.seq (.reg f124_r3 [] none) (.cond (.tmp 12) .skip (.exit 0))) (.seq (.block 1 (.reg f124_r4 [] (some 7))) (.reg f124_r5 [] none)))
def f124_i6 (t1 t4 t5 t6 : D) : List D := [.any, t1, .any, .any, t4, t5, t6, .any, .any, .any, .any, .any, .any, .any, .any, .any, .any, .any, .any, .any, .any, .any, .any, .any, .any]
def f124_r7 : List LOp := [
  ⟨some 24, .load 24 (.tmp 5), none⟩,
  ⟨none, .store 24 (.tmp 4) (.tmp 24), none⟩]
def f124_c : LC := (.seq (.reg f124_r0 [] none) (.seq (.reg f124_r1 [] none) (.seq (.seq (.reg f124_r2 [] none) (.block 0 (.loop f124_l6))) (.seq (.reg f124_r7 [] none) .ret))))
theorem f124_lc : Tryd.f124.body.map lc = some f124_c.st := by kernel_rfl
theorem f124_res : Tryd.f124.results.toList = [.cell 4 24] := by kernel_rfl
theorem f124_nt : Tryd.f124.ntmps = 25 := by kernel_rfl
theorem f124_nm : (Tryd.f124.name == "runtime.NumGoroutine") = false := by kernel_rfl

/-! (*quill/read.reader).class -/
def f125_r0 : List LOp := [
  ⟨some 2, .alloc 27, none⟩]
def f125_r1 : List LOp := [
  ⟨some 3, .alloc 24, none⟩]
def f125_r2 : List LOp := [
  ⟨some 7, .move (.tmp 0), none⟩,
  ⟨some 8, .call { callee := .value (.func 84), args := #[.tmp 7, .const (.string { data := #[93] })], argTypes := #[53, 9] }, none⟩,
  ⟨some 9, .unOp .not 4 (.tmp 8), none⟩]
def f125_r3 : List LOp := [
  ⟨some 10, .move (.tmp 0), none⟩,
  ⟨some 11, .call { callee := .value (.func 127), args := #[.tmp 10], argTypes := #[53] }, none⟩,
  ⟨some 4, .assign (.tmp 11), none⟩]
def f125_r4 : List LOp := [
  ⟨some 12, .move (.tmp 4), none⟩,
  ⟨some 5, .assign (.tmp 12), none⟩]
def f125_r5 : List LOp := [
  ⟨some 13, .move (.tmp 0), none⟩,
  ⟨some 14, .call { callee := .value (.func 84), args := #[.tmp 13, .const (.string { data := #[45] })], argTypes := #[53, 9] }, none⟩]
def f125_r6 : List LOp := [
  ⟨some 15, .move (.tmp 0), none⟩,
  ⟨some 16, .nilCheck (.tmp 15), none⟩,
  ⟨some 17, .fieldAddr 55 (.tmp 16) 1, none⟩,
  ⟨some 18, .load 3 (.tmp 17), none⟩,
  ⟨some 19, .binOp .add 3 (.tmp 18) (.const (.int .i64 1)) 3, none⟩,
  ⟨some 20, .nilCheck (.tmp 15), none⟩,
  ⟨some 21, .fieldAddr 55 (.tmp 20) 1, none⟩,
  ⟨none, .store 3 (.tmp 21) (.tmp 19), none⟩]
def f125_r7 : List LOp := [
  ⟨some 22, .move (.tmp 0), none⟩,
  ⟨some 23, .nilCheck (.tmp 22), none⟩,
  ⟨some 24, .fieldAddr 55 (.tmp 23) 1, none⟩,
  ⟨some 25, .load 3 (.tmp 24), none⟩,
  ⟨some 6, .assign (.tmp 25), none⟩]
def f125_r8 : List LOp := [
  ⟨some 26, .move (.tmp 0), none⟩,
  ⟨some 27, .call { callee := .value (.func 127), args := #[.tmp 26], argTypes := #[53] }, none⟩,
  ⟨some 5, .assign (.tmp 27), none⟩]
def f125_r9 : List LOp := [
  ⟨some 28, .move (.tmp 5), none⟩,
  ⟨some 29, .move (.tmp 4), none⟩,
  ⟨some 30, .binOp .lss 5 (.tmp 28) (.tmp 29) 5, none⟩]
def f125_r10 : List LOp := [
  ⟨some 31, .move (.tmp 6), none⟩,
  ⟨some 32, .build 84 #[(0, .tmp 31)], none⟩,
  ⟨some 33, .makeInterface 84 (.tmp 32), none⟩,
  ⟨none, .panic (.tmp 33), none⟩]
def f125_r11 : List LOp := [
  ⟨some 34, .load 24 (.tmp 3), none⟩,
  ⟨some 35, .move (.tmp 4), none⟩,
  ⟨some 36, .move (.tmp 5), none⟩,
  ⟨some 37, .call { callee := .value (.func 124), args := #[.tmp 35, .tmp 36], argTypes := #[5, 5] }, none⟩,
  ⟨some 38, .buildSlice 100 2 #[(0, .tmp 34), (1, .tmp 37)], none⟩,
  ⟨some 39, .call { callee := .value (.func 54), args := #[.tmp 38], argTypes := #[100] }, none⟩,
  ⟨none, .store 24 (.tmp 3) (.tmp 39), none⟩]
def f125_l12 : LC := (.seq (.seq (.reg f125_r2 [] none) (.cond (.tmp 9) .skip (.exit 0))) (.block 1 (.seq (.reg f125_r3 [] none) (.seq (.reg f125_r4 [] none) (.seq (.seq (.reg f125_r5 [] none) (.cond (.tmp 14) (.seq (.reg f125_r6 [] none) (.seq (.reg f125_r7 [] none) (.seq (.reg f125_r8 [] none) (.seq (.reg f125_r9 [] none) (.cond (.tmp 30) (.reg f125_r10 [] none) .skip))))) .skip)) (.reg f125_r11 [] (some 4)))))))
def f125_i12 (t0 t2 t3 : D) : List D := [t0, .any, t2, t3, .any, .any, .any, .any, .any, .any, .any, .any, .any, .any, .any, .any, .any, .any, .any, .any, .any, .any, .any, .any, .any, .any, .any, .any, .any, .any, .any, .any, .any, .any, .any, .any, .any, .any, .any, .any, .any, .any, .any, .any, .any, .any, .any, .any, .any]
def f125_r13 : List LOp := [
  ⟨some 40, .move (.tmp 0), none⟩,
  ⟨some 41, .nilCheck (.tmp 40), none⟩,
  ⟨some 42, .fieldAddr 55 (.tmp 41) 1, none⟩,
  ⟨some 43, .load 3 (.tmp 42), none⟩,
  ⟨some 44, .binOp .add 3 (.tmp 43) (.const (.int .i64 1)) 3, none⟩,
  ⟨some 45, .nilCheck (.tmp 40), none⟩,
  ⟨some 46, .fieldAddr 55 (.tmp 45) 1, none⟩,
  ⟨none, .store 3 (.tmp 46) (.tmp 44), none⟩]
def f125_r14 : List LOp := [
  ⟨some 47, .load 24 (.tmp 3), none⟩,
  ⟨some 48, .call { callee := .value (.func 96), args := #[.tmp 47], argTypes := #[24] }, none⟩,
  ⟨none, .store 27 (.tmp 2) (.tmp 48), none⟩]
def f125_c : LC := (.seq (.reg f125_r0 [] none) (.seq (.reg f125_r1 [] none) (.seq (.block 0 (.loop f125_l12)) (.seq (.reg f125_r13 [] none) (.seq (.reg f125_r14 [] none) .ret)))))
theorem f125_lc : Tryd.f125.body.map lc = some f125_c.st := by kernel_rfl
theorem f125_res : Tryd.f125.results.toList = [.cell 2 27] := by kernel_rfl
theorem f125_nt : Tryd.f125.ntmps = 49 := by kernel_rfl
theorem f125_nm : (Tryd.f125.name == "runtime.NumGoroutine") = false := by kernel_rfl

/-! (*quill/read.reader).eat -/
def f126_r0 : List LOp := [
  ⟨some 4, .move (.tmp 0), none⟩,
  ⟨some 5, .move (.tmp 1), none⟩,
  ⟨some 6, .call { callee := .value (.func 84), args := #[.tmp 4, .tmp 5], argTypes := #[53, 9] }, none⟩,
  ⟨some 7, .unOp .not 4 (.tmp 6), none⟩]
def f126_r1 : List LOp := [
  ⟨some 8, .move (.tmp 0), none⟩,
  ⟨some 9, .nilCheck (.tmp 8), none⟩,
  ⟨some 10, .fieldAddr 55 (.tmp 9) 1, none⟩,
  ⟨some 11, .load 3 (.tmp 10), none⟩,
  ⟨some 12, .build 84 #[(0, .tmp 11)], none⟩,
  ⟨some 13, .makeInterface 84 (.tmp 12), none⟩,
  ⟨none, .panic (.tmp 13), none⟩]
def f126_r2 : List LOp := [
  ⟨some 14, .move (.tmp 0), none⟩,
  ⟨some 15, .nilCheck (.tmp 14), none⟩,
  ⟨some 16, .fieldAddr 55 (.tmp 15) 1, none⟩,
  ⟨some 17, .load 3 (.tmp 16), none⟩,
  ⟨some 18, .binOp .add 3 (.tmp 17) (.const (.int .i64 1)) 3, none⟩,
  ⟨some 19, .nilCheck (.tmp 14), none⟩,
  ⟨some 20, .fieldAddr 55 (.tmp 19) 1, none⟩,
  ⟨none, .store 3 (.tmp 20) (.tmp 18), none⟩]
def f126_c : LC := (.seq (.seq (.reg f126_r0 [] none) (.cond (.tmp 7) (.reg f126_r1 [] none) .skip)) (.reg f126_r2 [] none))
theorem f126_lc : Tryd.f126.body.map lc = some f126_c.st := by kernel_rfl
theorem f126_res : Tryd.f126.results.toList = [] := by kernel_rfl
theorem f126_nt : Tryd.f126.ntmps = 21 := by kernel_rfl
theorem f126_nm : (Tryd.f126.name == "runtime.NumGoroutine") = false := by kernel_rfl

/-! (*quill/read.reader).sign -/
def f127_r0 : List LOp := [
  ⟨some 2, .assign (.const (.int .u8 0)), none⟩]
def f127_r1 : List LOp := [
  ⟨some 7, .move (.tmp 0), none⟩,
  ⟨some 8, .call { callee := .value (.func 102), args := #[.tmp 7], argTypes := #[53] }, none⟩,
  ⟨some 9, .unOp .not 4 (.tmp 8), none⟩]
def f127_r2 : List LOp := [
  ⟨some 10, .move (.tmp 0), none⟩,
  ⟨some 11, .nilCheck (.tmp 10), none⟩,
  ⟨some 12, .fieldAddr 55 (.tmp 11) 1, none⟩,
  ⟨some 13, .load 3 (.tmp 12), none⟩,
  ⟨some 14, .build 84 #[(0, .tmp 13)], none⟩,
  ⟨some 15, .makeInterface 84 (.tmp 14), none⟩,
  ⟨none, .panic (.tmp 15), none⟩]
def f127_r3 : List LOp := [
  ⟨some 16, .move (.tmp 0), none⟩,
  ⟨some 17, .nilCheck (.tmp 16), none⟩,
  ⟨some 18, .fieldAddr 55 (.tmp 17) 0, none⟩,
  ⟨some 19, .load 9 (.tmp 18), none⟩,
  ⟨some 20, .move (.tmp 0), none⟩,
  ⟨some 21, .nilCheck (.tmp 20), none⟩,
  ⟨some 22, .fieldAddr 55 (.tmp 21) 1, none⟩,
  ⟨some 23, .load 3 (.tmp 22), none⟩,
  ⟨some 24, .index 9 (.tmp 19) (.tmp 23), none⟩,
  ⟨some 3, .assign (.tmp 24), none⟩]
def f127_r4 : List LOp := [
  ⟨some 25, .move (.tmp 0), none⟩,
  ⟨some 26, .nilCheck (.tmp 25), none⟩,
  ⟨some 27, .fieldAddr 55 (.tmp 26) 1, none⟩,
  ⟨some 28, .load 3 (.tmp 27), none⟩,
  ⟨some 29, .binOp .add 3 (.tmp 28) (.const (.int .i64 1)) 3, none⟩,
  ⟨some 30, .nilCheck (.tmp 25), none⟩,
  ⟨some 31, .fieldAddr 55 (.tmp 30) 1, none⟩,
  ⟨none, .store 3 (.tmp 31) (.tmp 29), none⟩]
def f127_r5 : List LOp := [
  ⟨some 32, .move (.tmp 3), none⟩,
  ⟨some 33, .binOp .neq 5 (.tmp 32) (.const (.int .u8 92)) 5, none⟩]
def f127_r6 : List LOp := [
  ⟨some 34, .move (.tmp 3), none⟩,
  ⟨some 2, .assign (.tmp 34), none⟩]
def f127_r7 : List LOp := [
  ⟨some 35, .move (.tmp 0), none⟩,
  ⟨some 36, .nilCheck (.tmp 35), none⟩,
  ⟨some 37, .fieldAddr 55 (.tmp 36) 1, none⟩,
  ⟨some 38, .load 3 (.tmp 37), none⟩,
  ⟨some 4, .assign (.tmp 38), none⟩]
def f127_r8 : List LOp := [
  ⟨some 39, .move (.tmp 0), none⟩,
  ⟨some 40, .call { callee := .value (.func 135), args := #[.tmp 39], argTypes := #[53] }, none⟩]
def f127_r9 : List LOp := [
  ⟨some 41, .move (.tmp 0), none⟩,
  ⟨some 42, .call { callee := .value (.func 135), args := #[.tmp 41], argTypes := #[53] }, none⟩]
def f127_r10 : List LOp := [
  ⟨some 44, .move (.tmp 0), none⟩,
  ⟨some 45, .nilCheck (.tmp 44), none⟩,
  ⟨some 46, .fieldAddr 55 (.tmp 45) 0, none⟩,
  ⟨some 47, .load 9 (.tmp 46), none⟩,
  ⟨some 48, .move (.tmp 4), none⟩,
  ⟨some 49, .move (.tmp 0), none⟩,
  ⟨some 50, .nilCheck (.tmp 49), none⟩,
  ⟨some 51, .fieldAddr 55 (.tmp 50) 1, none⟩,
  ⟨some 52, .load 3 (.tmp 51), none⟩,
  ⟨some 53, .slice 9 (.tmp 47) (some (.tmp 48)) (some (.tmp 52)) none, none⟩,
  ⟨some 54, .call { callee := .value (.func 136), args := #[.tmp 53], argTypes := #[9] }, none⟩,
  ⟨some 43, .move (.tmp 54), none⟩,
  ⟨some 55, .extract (.tmp 43) 0, none⟩,
  ⟨some 56, .extract (.tmp 43) 1, none⟩,
  ⟨some 5, .assign (.tmp 55), none⟩,
  ⟨some 6, .assign (.tmp 56), none⟩]
def f127_r11 : List LOp := [
  ⟨some 57, .move (.tmp 5), none⟩,
  ⟨some 58, .indexAddr 59 (.tmp 57) (.const (.int .i64 0)), none⟩,
  ⟨some 59, .load 5 (.tmp 58), none⟩,
  ⟨some 2, .assign (.tmp 59), none⟩]
def f127_c : LC := (.seq (.reg f127_r0 [] none) (.seq (.seq (.reg f127_r1 [] none) (.cond (.tmp 9) (.reg f127_r2 [] none) .skip)) (.seq (.reg f127_r3 [] (some 8)) (.seq (.reg f127_r4 [] none) (.seq (.seq (.reg f127_r5 [] none) (.cond (.tmp 33) (.seq (.reg f127_r6 [] none) .ret) .skip)) (.seq (.reg f127_r7 [] none) (.seq (.reg f127_r8 [] none) (.seq (.reg f127_r9 [] none) (.seq (.regp f127_r10 [] [0, 4, 5] 15) (.seq (.reg f127_r11 [] none) .ret))))))))))
theorem f127_lc : Tryd.f127.body.map lc = some f127_c.st := by kernel_rfl
theorem f127_res : Tryd.f127.results.toList = [.tmp 2] := by kernel_rfl
theorem f127_nt : Tryd.f127.ntmps = 60 := by kernel_rfl
theorem f127_nm : (Tryd.f127.name == "runtime.NumGoroutine") = false := by kernel_rfl

/-! slices.Backward[[]quill/api.Re,quill/api.Re]$1 -/
def f129_r0 : List LOp := [
  ⟨some 4, .load 25 (.tmp 1), none⟩,
  ⟨some 5, .call { callee := .builtin .len, args := #[.tmp 4], argTypes := #[25] }, none⟩,
  ⟨some 6, .binOp .sub 3 (.tmp 5) (.const (.int .i64 1)) 3, none⟩,
  ⟨some 3, .assign (.tmp 6), none⟩]
def f129_r1 : List LOp := [
  ⟨some 7, .move (.tmp 3), none⟩,
  ⟨some 8, .binOp .geq 3 (.tmp 7) (.const (.int .i64 0)) 3, none⟩]
def f129_r2 : List LOp := [
  ⟨some 11, .move (.tmp 0), none⟩,
  ⟨some 12, .move (.tmp 3), none⟩,
  ⟨some 13, .load 25 (.tmp 1), none⟩,
  ⟨some 14, .move (.tmp 3), none⟩,
  ⟨some 15, .indexAddr 25 (.tmp 13) (.tmp 14), none⟩,
  ⟨some 16, .load 27 (.tmp 15), none⟩,
  ⟨some 17, .call { callee := .value (.tmp 11), args := #[.tmp 12, .tmp 16], argTypes := #[3, 27] }, none⟩,
  ⟨some 18, .unOp .not 4 (.tmp 17), none⟩]
def f129_r3 : List LOp := [
  ⟨some 9, .move (.tmp 3), none⟩,
  ⟨some 10, .binOp .sub 3 (.tmp 9) (.const (.int .i64 1)) 3, none⟩,
  ⟨some 3, .assign (.tmp 10), none⟩]
def f129_l4 : LC := (.seq (.seq (.reg f129_r1 [] none) (.cond (.tmp 8) .skip (.exit 0))) (.seq (.block 1 (.seq (.reg f129_r2 [] none) (.cond (.tmp 18) .ret .skip))) (.reg f129_r3 [] none)))
def f129_i4 (t0 t1 t3 : D) : List D := [t0, t1, .any, t3, .any, .any, .any, .any, .any, .any, .any, .any, .any, .any, .any, .any, .any, .any, .any]
def f129_c : LC := (.seq (.reg f129_r0 [] none) (.block 0 (.loop f129_l4)))
theorem f129_lc : Tryd.f129.body.map lc = some f129_c.st := by kernel_rfl
theorem f129_res : Tryd.f129.results.toList = [] := by kernel_rfl
theorem f129_nt : Tryd.f129.ntmps = 19 := by kernel_rfl
theorem f129_nm : (Tryd.f129.name == "runtime.NumGoroutine") = false := by kernel_rfl

/-! (*quill/read.reader).digit -/
def f135_r0 : List LOp := [
  ⟨some 2, .move (.tmp 0), none⟩,
  ⟨some 3, .call { callee := .value (.func 84), args := #[.tmp 2, .const (.string { data := #[48, 49, 50, 51, 52, 53, 54, 55, 56, 57, 97, 98, 99, 100, 101, 102] })], argTypes := #[53, 9] }, none⟩,
  ⟨some 4, .unOp .not 4 (.tmp 3), none⟩]
def f135_r1 : List LOp := [
  ⟨some 5, .move (.tmp 0), none⟩,
  ⟨some 6, .nilCheck (.tmp 5), none⟩,
  ⟨some 7, .fieldAddr 55 (.tmp 6) 1, none⟩,
  ⟨some 8, .load 3 (.tmp 7), none⟩,
  ⟨some 9, .build 84 #[(0, .tmp 8)], none⟩,
  ⟨some 10, .makeInterface 84 (.tmp 9), none⟩,
  ⟨none, .panic (.tmp 10), none⟩]
def f135_r2 : List LOp := [
  ⟨some 11, .move (.tmp 0), none⟩,
  ⟨some 12, .nilCheck (.tmp 11), none⟩,
  ⟨some 13, .fieldAddr 55 (.tmp 12) 1, none⟩,
  ⟨some 14, .load 3 (.tmp 13), none⟩,
  ⟨some 15, .binOp .add 3 (.tmp 14) (.const (.int .i64 1)) 3, none⟩,
  ⟨some 16, .nilCheck (.tmp 11), none⟩,
  ⟨some 17, .fieldAddr 55 (.tmp 16) 1, none⟩,
  ⟨none, .store 3 (.tmp 17) (.tmp 15), none⟩]
def f135_c : LC := (.seq (.seq (.reg f135_r0 [] none) (.cond (.tmp 4) (.reg f135_r1 [] none) .skip)) (.reg f135_r2 [] none))
theorem f135_lc : Tryd.f135.body.map lc = some f135_c.st := by kernel_rfl
theorem f135_res : Tryd.f135.results.toList = [] := by kernel_rfl
theorem f135_nt : Tryd.f135.ntmps = 18 := by kernel_rfl
theorem f135_nm : (Tryd.f135.name == "runtime.NumGoroutine") = false := by kernel_rfl

/-! quill/num.ReadHex -/
def f136_r0 : List LOp := [
  ⟨some 2, .assign (.const (.slice none 0 0)), none⟩,
  ⟨some 3, .assign (.const (.int .i64 0)), none⟩]
def f136_r1 : List LOp := [
  ⟨some 4, .assign (.const (.slice none 0 0)), none⟩]
def f136_r2 : List LOp := [
  ⟨some 5, .assign (.const (.int .i64 0)), none⟩]
def f136_r3 : List LOp := [
  ⟨some 8, .move (.tmp 5), none⟩,
  ⟨some 9, .binOp .add 3 (.tmp 8) (.const (.int .i64 1)) 3, none⟩,
  ⟨some 10, .move (.tmp 0), none⟩,
  ⟨some 11, .call { callee := .builtin .len, args := #[.tmp 10], argTypes := #[9] }, none⟩,
  ⟨some 12, .binOp .lss 3 (.tmp 9) (.tmp 11) 3, none⟩]
def f136_r4 : List LOp := [
  ⟨some 15, .move (.tmp 0), none⟩,
  ⟨some 16, .move (.tmp 5), none⟩,
  ⟨some 17, .index 9 (.tmp 15) (.tmp 16), none⟩,
  ⟨some 18, .call { callee := .value (.func 103), args := #[.const (.string { data := #[48, 49, 50, 51, 52, 53, 54, 55, 56, 57, 97, 98, 99, 100, 101, 102] }), .tmp 17], argTypes := #[9, 5] }, none⟩,
  ⟨some 6, .assign (.tmp 18), none⟩]
def f136_r5 : List LOp := [
  ⟨some 19, .move (.tmp 0), none⟩,
  ⟨some 20, .move (.tmp 5), none⟩,
  ⟨some 21, .binOp .add 3 (.tmp 20) (.const (.int .i64 1)) 3, none⟩,
  ⟨some 22, .index 9 (.tmp 19) (.tmp 21), none⟩,
  ⟨some 23, .call { callee := .value (.func 103), args := #[.const (.string { data := #[48, 49, 50, 51, 52, 53, 54, 55, 56, 57, 97, 98, 99, 100, 101, 102] }), .tmp 22], argTypes := #[9, 5] }, none⟩,
  ⟨some 7, .assign (.tmp 23), none⟩]
def f136_r6 : List LOp := [
  ⟨some 24, .move (.tmp 6), none⟩,
  ⟨some 25, .binOp .lss 3 (.tmp 24) (.const (.int .i64 0)) 3, none⟩,
  ⟨some 26, .move (.tmp 25), none⟩,
  ⟨some 27, .move (.tmp 7), some (2, false)⟩,
  ⟨some 28, .binOp .lss 3 (.tmp 27) (.const (.int .i64 0)) 3, some (2, false)⟩,
  ⟨some 29, .pick (.tmp 26) (.const (.bool true)) (.tmp 28), none⟩]
def f136_r7 : List LOp := [
  ⟨some 2, .assign (.const (.slice none 0 0)), none⟩,
  ⟨some 3, .assign (.const (.int .i64 2)), none⟩]
def f136_r8 : List LOp := [
  ⟨some 30, .move (.tmp 4), none⟩,
  ⟨some 31, .move (.tmp 6), none⟩,
  ⟨some 32, .binOp .shl 3 (.tmp 31) (.const (.int .u64 4)) 114, none⟩,
  ⟨some 33, .move (.tmp 7), none⟩,
  ⟨some 34, .binOp .or 3 (.tmp 32) (.tmp 33) 3, none⟩,
  ⟨some 35, .convert 3 5 (.tmp 34), none⟩,
  ⟨some 36, .buildSlice 59 1 #[(0, .tmp 35)], none⟩,
  ⟨some 37, .call { callee := .builtin .append, args := #[.tmp 30, .tmp 36], argTypes := #[59, 59] }, none⟩,
  ⟨some 4, .assign (.tmp 37), none⟩]
def f136_r9 : List LOp := [
  ⟨some 13, .move (.tmp 5), none⟩,
  ⟨some 14, .binOp .add 3 (.tmp 13) (.const (.int .i64 2)) 3, none⟩,
  ⟨some 5, .assign (.tmp 14), none⟩]
def f136_l10 : LC := (.seq (.seq (.reg f136_r3 [] none) (.cond (.tmp 12) .skip (.exit 0))) (.seq (.block 1 (.seq (.reg f136_r4 [] none) (.seq (.reg f136_r5 [] none) (.seq (.seq (.reg f136_r6 [] none) (.cond (.tmp 29) (.seq (.reg f136_r7 [] none) .ret) .skip)) (.reg f136_r8 [] none))))) (.reg f136_r9 [] none)))
def f136_i10 (t0 t4 t5 : D) : List D := [t0, .any, .any, .any, t4, t5, .any, .any, .any, .any, .any, .any, .any, .any, .any, .any, .any, .any, .any, .any, .any, .any, .any, .any, .any, .any, .any, .any, .any, .any, .any, .any, .any, .any, .any, .any, .any, .any, .any, .any, .any, .any, .any]
def f136_r11 : List LOp := [
  ⟨some 38, .move (.tmp 0), none⟩,
  ⟨some 39, .call { callee := .builtin .len, args := #[.tmp 38], argTypes := #[9] }, none⟩,
  ⟨some 40, .binOp .rem 3 (.tmp 39) (.const (.int .i64 2)) 3, none⟩,
  ⟨some 41, .binOp .eql 3 (.tmp 40) (.const (.int .i64 1)) 3, none⟩]
def f136_r12 : List LOp := [
  ⟨some 2, .assign (.const (.slice none 0 0)), none⟩,
  ⟨some 3, .assign (.const (.int .i64 2)), none⟩]
def f136_r13 : List LOp := [
  ⟨some 42, .move (.tmp 4), none⟩,
  ⟨some 2, .assign (.tmp 42), none⟩,
  ⟨some 3, .assign (.const (.int .i64 0)), none⟩]
def f136_c : LC := (.seq (.reg f136_r0 [] none) (.seq (.reg f136_r1 [] none) (.seq (.seq (.reg f136_r2 [] none) (.block 0 (.loop f136_l10))) (.seq (.seq (.reg f136_r11 [] none) (.cond (.tmp 41) (.seq (.reg f136_r12 [] none) .ret) .skip)) (.seq (.reg f136_r13 [] none) .ret)))))
theorem f136_lc : Tryd.f136.body.map lc = some f136_c.st := by kernel_rfl
theorem f136_res : Tryd.f136.results.toList = [.tmp 2, .tmp 3] := by kernel_rfl
theorem f136_nt : Tryd.f136.ntmps = 43 := by kernel_rfl
theorem f136_nm : (Tryd.f136.name == "runtime.NumGoroutine") = false := by kernel_rfl

attribute [go_sem] f3_r0 f3_r1 f3_r2 f3_r3 f3_r4 f3_r5 f3_r6 f3_r7 f3_r8 f3_c f7_r0 f7_r1 f7_c f8_r0 f8_r1 f8_r2 f8_c f9_r0 f9_r1 f9_r2 f9_r3 f9_c f10_r0 f10_r1 f10_r2 f10_r3 f10_c f11_r0 f11_r1 f11_r2 f11_r3 f11_c f12_r0 f12_r1 f12_r2 f12_r3 f12_c f13_r0 f13_r1 f13_c f14_r0 f14_r1 f14_c f15_r0 f15_r1 f15_r2 f15_r3 f15_r4 f15_r5 f15_l6 f15_i6 f15_r7 f15_c f17_r0 f17_r1 f17_r2 f17_r3 f17_r4 f17_r5 f17_r6 f17_r7 f17_r8 f17_r9 f17_r10 f17_l11 f17_i11 f17_r12 f17_c f18_r0 f18_r1 f18_r2 f18_r3 f18_r4 f18_r5 f18_r6 f18_c f28_r0 f28_r1 f28_r2 f28_r3 f28_r4 f28_r5 f28_r6 f28_r7 f28_r8 f28_l9 f28_i9 f28_r10 f28_c f29_r0 f29_r1 f29_r2 f29_r3 f29_r4 f29_r5 f29_r6 f29_l7 f29_i7 f29_r8 f29_c f30_r0 f30_r1 f30_c f31_r0 f31_r1 f31_c f32_r0 f32_r1 f32_r2 f32_r3 f32_r4 f32_r5 f32_r6 f32_r7 f32_r8 f32_r9 f32_r10 f32_r11 f32_r12 f32_r13 f32_r14 f32_c f33_r0 f33_r1 f33_r2 f33_r3 f33_r4 f33_r5 f33_r6 f33_r7 f33_r8 f33_r9 f33_r10 f33_r11 f33_r12 f33_r13 f33_r14 f33_r15 f33_r16 f33_r17 f33_c f34_r0 f34_r1 f34_r2 f34_r3 f34_r4 f34_r5 f34_r6 f34_r7 f34_r8 f34_r9 f34_r10 f34_r11 f34_r12 f34_r13 f34_r14 f34_r15 f34_c f35_r0 f35_r1 f35_r2 f35_r3 f35_r4 f35_r5 f35_r6 f35_r7 f35_r8 f35_c f36_r0 f36_r1 f36_r2 f36_r3 f36_r4 f36_r5 f36_c f38_r0 f38_r1 f38_r2 f38_r3 f38_r4 f38_r5 f38_r6 f38_l7 f38_i7 f38_r8 f38_c f39_r0 f39_r1 f39_r2 f39_r3 f39_r4 f39_r5 f39_c f48_r0 f48_r1 f48_c f49_r0 f49_r1 f49_c f50_r0 f50_r1 f50_r2 f50_r3 f50_r4 f50_r5 f50_r6 f50_r7 f50_r8 f50_r9 f50_c f51_r0 f51_r1 f51_c f52_r0 f52_r1 f52_c f53_r0 f53_r1 f53_r2 f53_r3 f53_r4 f53_r5 f53_r6 f53_l7 f53_i7 f53_r8 f53_c f54_r0 f54_r1 f54_r2 f54_r3 f54_r4 f54_r5 f54_r6 f54_r7 f54_r8 f54_r9 f54_l10 f54_i10 f54_r11 f54_l12 f54_i12 f54_r13 f54_c f55_r0 f55_r1 f55_r2 f55_r3 f55_r4 f55_r5 f55_r6 f55_r7 f55_r8 f55_c f56_r0 f56_r1 f56_r2 f56_r3 f56_r4 f56_r5 f56_r6 f56_r7 f56_l8 f56_i8 f56_r9 f56_l10 f56_i10 f56_r11 f56_c f57_r0 f57_r1 f57_c f58_r0 f58_r1 f58_r2 f58_r3 f58_r4 f58_r5 f58_r6 f58_l7 f58_i7 f58_r8 f58_c f59_r0 f59_r1 f59_r2 f59_r3 f59_r4 f59_r5 f59_r6 f59_r7 f59_l8 f59_i8 f59_r9 f59_c f60_r0 f60_r1 f60_r2 f60_r3 f60_r4 f60_r5 f60_c f61_r0 f61_r1 f61_r2 f61_r3 f61_r4 f61_r5 f61_r6 f61_l7 f61_i7 f61_r8 f61_c f64_r0 f64_r1 f64_r2 f64_r3 f64_r4 f64_r5 f64_r6 f64_r7 f64_c f65_r0 f65_r1 f65_r2 f65_r3 f65_r4 f65_l5 f65_i5 f65_r6 f65_c f77_r0 f77_r1 f77_r2 f77_r3 f77_r4 f77_r5 f77_r6 f77_l7 f77_i7 f77_r8 f77_c f78_r0 f78_r1 f78_r2 f78_r3 f78_r4 f78_r5 f78_r6 f78_r7 f78_r8 f78_r9 f78_r10 f78_r11 f78_r12 f78_r13 f78_c f79_r0 f79_r1 f79_c f80_r0 f80_r1 f80_r2 f80_r3 f80_c f81_r0 f81_r1 f81_r2 f81_r3 f81_r4 f81_r5 f81_r6 f81_r7 f81_l8 f81_i8 f81_r9 f81_r10 f81_c f83_r0 f83_r1 f83_r2 f83_r3 f83_l4 f83_i4 f83_r5 f83_c f84_r0 f84_r1 f84_c f85_r0 f85_r1 f85_c f89_r0 f89_r1 f89_r2 f89_r3 f89_c f92_r0 f92_r1 f92_c f96_r0 f96_r1 f96_r2 f96_r3 f96_c f99_r0 f99_r1 f99_c f101_r0 f101_r1 f101_r2 f101_r3 f101_r4 f101_l5 f101_i5 f101_r6 f101_c f102_r0 f102_r1 f102_c f103_r0 f103_r1 f103_c f104_r0 f104_r1 f104_r2 f104_r3 f104_r4 f104_r5 f104_r6 f104_a7 f104_b7 f104_r8 f104_c f106_r0 f106_r1 f106_r2 f106_r3 f106_r4 f106_r5 f106_r6 f106_l7 f106_i7 f106_r8 f106_c f113_r0 f113_r1 f113_r2 f113_r3 f113_r4 f113_r5 f113_r6 f113_r7 f113_r8 f113_r9 f113_r10 f113_r11 f113_r12 f113_r13 f113_r14 f113_r15 f113_c f114_r0 f114_r1 f114_c f115_r0 f115_r1 f115_c f116_r0 f116_r1 f116_c f124_r0 f124_r1 f124_r2 f124_r3 f124_r4 f124_r5 f124_l6 f124_i6 f124_r7 f124_c f125_r0 f125_r1 f125_r2 f125_r3 f125_r4 f125_r5 f125_r6 f125_r7 f125_r8 f125_r9 f125_r10 f125_r11 f125_l12 f125_i12 f125_r13 f125_r14 f125_c f126_r0 f126_r1 f126_r2 f126_c f127_r0 f127_r1 f127_r2 f127_r3 f127_r4 f127_r5 f127_r6 f127_r7 f127_r8 f127_r9 f127_r10 f127_r11 f127_c f129_r0 f129_r1 f129_r2 f129_r3 f129_l4 f129_i4 f129_c f135_r0 f135_r1 f135_r2 f135_c f136_r0 f136_r1 f136_r2 f136_r3 f136_r4 f136_r5 f136_r6 f136_r7 f136_r8 f136_r9 f136_l10 f136_i10 f136_r11 f136_r12 f136_r13 f136_c T3 T4 T5 T9 T20 T22 T24 T25 T27 T33 T35 T41 T53 T55 T57 T58 T59 T61 T63 T69 T80 T82 T84 T92 T100 T113 T114 T117 T121 T124 T142 T143 ti3 ti4 ti5 ti9 ti20 ti22 ti24 ti25 ti27 ti33 ti35 ti41 ti53 ti55 ti57 ti58 ti59 ti61 ti63 ti69 ti80 ti82 ti84 ti92 ti100 ti113 ti114 ti117 ti121 ti124 ti142 ti143

end Go.Proofs.YtfpfcokhnddddaaDoor.W
