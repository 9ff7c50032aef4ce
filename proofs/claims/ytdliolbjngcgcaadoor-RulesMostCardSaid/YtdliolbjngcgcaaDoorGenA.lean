/- Part of a program logic over data: rules of the walk, each proved. -/
import Derived.Test.YtdliolbjngcgcaaDoorChecked
import Derived.Test.YtdliolbjngcgcaaDoorLogicC
import Derived.KernelRfl
set_option linter.unusedVariables false
set_option linter.unusedSimpArgs false
set_option linter.unusedSectionVars false
set_option maxRecDepth 100000
namespace Go.Proofs.YtdliolbjngcgcaaDoor.W
open Go Go.Proofs Go.Proofs.YtdliolbjngcgcaaDoor.AWP
/-! ### types -/
def ti3 : TI := ⟨.int .i64, 1, 8, [.int .i64 0]⟩
def ti4 : TI := ⟨.bool, 1, 1, [.bool false]⟩
def ti5 : TI := ⟨.int .u8, 1, 1, [.int .u8 0]⟩
def ti9 : TI := ⟨.str, 1, 16, [.string .empty]⟩
def ti20 : TI := ⟨.other, 1, 16, [.nilIface]⟩
def ti21 : TI := ⟨.int .i32, 1, 4, [.int .i32 0]⟩
def ti22 : TI := ⟨.slice 5, 1, 24, [.slice none 0 0]⟩
def ti23 : TI := ⟨.slice 39, 1, 24, [.slice none 0 0]⟩
def ti24 : TI := ⟨.int .i64, 1, 8, [.int .i64 0]⟩
def ti30 : TI := ⟨.slice 9, 1, 24, [.slice none 0 0]⟩
def ti32 : TI := ⟨.int .u64, 1, 8, [.int .u64 0]⟩
def ti34 : TI := ⟨.arr 4 32, 4, 32, [.int .u64 0, .int .u64 0, .int .u64 0, .int .u64 0]⟩
def ti35 : TI := ⟨.slice 37, 1, 24, [.slice none 0 0]⟩
def ti37 : TI := ⟨.struct [(0, 5), (1, 34), (5, 35)], 6, 64, [.int .u8 0, .int .u64 0, .int .u64 0, .int .u64 0, .int .u64 0, .slice none 0 0]⟩
def ti39 : TI := ⟨.struct [(0, 9), (1, 37)], 7, 80, [.string .empty, .int .u8 0, .int .u64 0, .int .u64 0, .int .u64 0, .int .u64 0, .slice none 0 0]⟩
def ti40 : TI := ⟨.other, 1, 8, [.pointer none]⟩
def ti41 : TI := ⟨.map 9 4 (.bool false), 1, 8, [.map none]⟩
def ti43 : TI := ⟨.struct [(0, 23), (1, 41)], 2, 32, [.slice none 0 0, .map none]⟩
def ti54 : TI := ⟨.other, 1, 8, [.nilFunc]⟩
def ti63 : TI := ⟨.other, 1, 8, [.pointer none]⟩
def ti65 : TI := ⟨.struct [(0, 63), (1, 22)], 2, 32, [.pointer none, .slice none 0 0]⟩
def ti76 : TI := ⟨.other, 1, 8, [.pointer none]⟩
def ti78 : TI := ⟨.struct [(0, 9), (1, 3)], 2, 24, [.string .empty, .int .i64 0]⟩
def ti81 : TI := ⟨.other, 1, 8, [.pointer none]⟩
def ti83 : TI := ⟨.struct [(0, 65)], 2, 32, [.pointer none, .slice none 0 0]⟩
def ti85 : TI := ⟨.other, 1, 8, [.pointer none]⟩
def ti89 : TI := ⟨.struct [(0, 3)], 1, 8, [.int .i64 0]⟩
def ti92 : TI := ⟨.other, 1, 8, [.nilFunc]⟩
def ti93 : TI := ⟨.other, 1, 8, [.pointer none]⟩
def ti106 : TI := ⟨.int .u32, 1, 4, [.int .u32 0]⟩
def ti116 : TI := ⟨.arr 64 5, 64, 64, [.int .u8 0, .int .u8 0, .int .u8 0, .int .u8 0, .int .u8 0, .int .u8 0, .int .u8 0, .int .u8 0, .int .u8 0, .int .u8 0, .int .u8 0, .int .u8 0, .int .u8 0, .int .u8 0, .int .u8 0, .int .u8 0, .int .u8 0, .int .u8 0, .int .u8 0, .int .u8 0, .int .u8 0, .int .u8 0, .int .u8 0, .int .u8 0, .int .u8 0, .int .u8 0, .int .u8 0, .int .u8 0, .int .u8 0, .int .u8 0, .int .u8 0, .int .u8 0, .int .u8 0, .int .u8 0, .int .u8 0, .int .u8 0, .int .u8 0, .int .u8 0, .int .u8 0, .int .u8 0, .int .u8 0, .int .u8 0, .int .u8 0, .int .u8 0, .int .u8 0, .int .u8 0, .int .u8 0, .int .u8 0, .int .u8 0, .int .u8 0, .int .u8 0, .int .u8 0, .int .u8 0, .int .u8 0, .int .u8 0, .int .u8 0, .int .u8 0, .int .u8 0, .int .u8 0, .int .u8 0, .int .u8 0, .int .u8 0, .int .u8 0, .int .u8 0]⟩
def ti127 : TI := ⟨.slice 34, 1, 24, [.slice none 0 0]⟩
def tab : List (Nat × TI) := [(3, ti3), (4, ti4), (5, ti5), (9, ti9), (20, ti20), (21, ti21), (22, ti22), (23, ti23), (24, ti24), (30, ti30), (32, ti32), (34, ti34), (35, ti35), (37, ti37), (39, ti39), (40, ti40), (41, ti41), (43, ti43), (54, ti54), (63, ti63), (65, ti65), (76, ti76), (78, ti78), (81, ti81), (83, ti83), (85, ti85), (89, ti89), (92, ti92), (93, ti93), (106, ti106), (116, ti116), (127, ti127)]
def T : Tab := fun t => (tab.find? fun p => p.1 == t).map (·.2)
theorem T3 : T 3 = some ti3 := rfl
theorem T4 : T 4 = some ti4 := rfl
theorem T5 : T 5 = some ti5 := rfl
theorem T9 : T 9 = some ti9 := rfl
theorem T20 : T 20 = some ti20 := rfl
theorem T21 : T 21 = some ti21 := rfl
theorem T22 : T 22 = some ti22 := rfl
theorem T23 : T 23 = some ti23 := rfl
theorem T24 : T 24 = some ti24 := rfl
theorem T30 : T 30 = some ti30 := rfl
theorem T32 : T 32 = some ti32 := rfl
theorem T34 : T 34 = some ti34 := rfl
theorem T35 : T 35 = some ti35 := rfl
theorem T37 : T 37 = some ti37 := rfl
theorem T39 : T 39 = some ti39 := rfl
theorem T40 : T 40 = some ti40 := rfl
theorem T41 : T 41 = some ti41 := rfl
theorem T43 : T 43 = some ti43 := rfl
theorem T54 : T 54 = some ti54 := rfl
theorem T63 : T 63 = some ti63 := rfl
theorem T65 : T 65 = some ti65 := rfl
theorem T76 : T 76 = some ti76 := rfl
theorem T78 : T 78 = some ti78 := rfl
theorem T81 : T 81 = some ti81 := rfl
theorem T83 : T 83 = some ti83 := rfl
theorem T85 : T 85 = some ti85 := rfl
theorem T89 : T 89 = some ti89 := rfl
theorem T92 : T 92 = some ti92 := rfl
theorem T93 : T 93 = some ti93 := rfl
theorem T106 : T 106 = some ti106 := rfl
theorem T116 : T 116 = some ti116 := rfl
theorem T127 : T 127 = some ti127 := rfl
theorem tab_ok : tabB Tryd.prog tab = true := by kernel_rfl
theorem hT : TabOk Tryd.prog T := by
  intro t i h
  unfold T at h
  simp only [Option.map_eq_some_iff] at h
  obtain ⟨p, hp, rfl⟩ := h
  have h1 := List.find?_some hp
  have h2 := List.mem_of_find?_eq_some hp
  simp only [beq_iff_eq] at h1
  obtain ⟨t', i'⟩ := p
  subst h1
  exact tabB_ok tab_ok t' i' h2
theorem hm : Tryd.prog.follows .mixedOrders = true := by kernel_rfl
/-! quill/quillref03.Great -/
def f14_r0 : List LOp := [
  ⟨some 2, .box 37 (.tmp 0), none⟩,
  ⟨some 4, .assign (.const (.bool false)), none⟩]
def f14_r1 : List LOp := [
  ⟨some 5, .load 37 (.tmp 2), none⟩,
  ⟨some 6, .move (.tmp 1), none⟩,
  ⟨some 7, .call { callee := .value (.func 27), args := #[.tmp 5, .tmp 6], argTypes := #[37, 3] }, none⟩,
  ⟨some 8, .move (.tmp 1), none⟩,
  ⟨some 9, .binOp .gtr 3 (.tmp 7) (.tmp 8) 3, none⟩,
  ⟨some 4, .assign (.tmp 9), none⟩]
def f14_c : LC := (.seq (.reg f14_r0 [] none) (.seq (.reg f14_r1 [] none) .ret))
theorem f14_lc : Tryd.f14.body.map lc = some f14_c.st := by kernel_rfl
theorem f14_res : Tryd.f14.results.toList = [.tmp 4] := by kernel_rfl
theorem f14_nt : Tryd.f14.ntmps = 10 := by kernel_rfl
theorem f14_nm : (Tryd.f14.name == "runtime.NumGoroutine") = false := by kernel_rfl
/-! strings.IndexByte -/
def f16_r0 : List LOp := [
  ⟨some 4, .assign (.const (.int .i64 0)), none⟩]
def f16_r1 : List LOp := [
  ⟨some 5, .move (.tmp 0), none⟩,
  ⟨some 6, .move (.tmp 1), none⟩,
  ⟨some 7, .call { callee := .value (.func 28), args := #[.tmp 5, .tmp 6], argTypes := #[9, 5] }, none⟩,
  ⟨some 4, .assign (.tmp 7), none⟩]
def f16_c : LC := (.seq (.reg f16_r0 [] none) (.seq (.reg f16_r1 [] none) .ret))
theorem f16_lc : Tryd.f16.body.map lc = some f16_c.st := by kernel_rfl
theorem f16_res : Tryd.f16.results.toList = [.tmp 4] := by kernel_rfl
theorem f16_nt : Tryd.f16.ntmps = 8 := by kernel_rfl
theorem f16_nm : (Tryd.f16.name == "runtime.NumGoroutine") = false := by kernel_rfl
/-! quill/read.Read -/
def f20_r0 : List LOp := [
  ⟨some 2, .alloc 37, none⟩,
  ⟨some 3, .assign (.const (.int .i64 0)), none⟩,
  ⟨some 4, .assign (.const (.int .i64 0)), none⟩]
def f20_r1 : List LOp := [
  ⟨some 8, .move (.tmp 0), none⟩,
  ⟨some 9, .call { callee := .builtin .len, args := #[.tmp 8], argTypes := #[9] }, none⟩,
  ⟨some 10, .binOp .gtr 3 (.tmp 9) (.const (.int .i64 65536)) 3, none⟩]
def f20_r2 : List LOp := [
  ⟨some 11, .build 37 #[], none⟩,
  ⟨none, .store 37 (.tmp 2) (.tmp 11), none⟩,
  ⟨some 3, .assign (.const (.int .i64 0)), none⟩,
  ⟨some 4, .assign (.const (.int .i64 3)), none⟩]
def f20_r3 : List LOp := [
  ⟨some 13, .move (.tmp 0), none⟩,
  ⟨some 14, .build 78 #[(0, .tmp 13)], none⟩,
  ⟨some 15, .box 78 (.tmp 14), none⟩,
  ⟨some 16, .call { callee := .value (.func 34), args := #[.tmp 15], argTypes := #[76] }, none⟩,
  ⟨some 12, .move (.tmp 16), none⟩,
  ⟨some 17, .extract (.tmp 12) 0, none⟩,
  ⟨some 18, .extract (.tmp 12) 1, none⟩,
  ⟨some 19, .extract (.tmp 12) 2, none⟩,
  ⟨some 5, .alloc 37, none⟩,
  ⟨none, .store 37 (.tmp 5) (.tmp 17), none⟩,
  ⟨some 6, .assign (.tmp 18), none⟩,
  ⟨some 7, .assign (.tmp 19), none⟩]
def f20_r4 : List LOp := [
  ⟨some 20, .move (.tmp 7), none⟩,
  ⟨some 21, .binOp .eql 24 (.tmp 20) (.const (.int .i64 0)) 24, none⟩,
  ⟨some 22, .move (.tmp 21), none⟩,
  ⟨some 23, .load 37 (.tmp 5), some (2, true)⟩,
  ⟨some 24, .buildSlice 35 1 #[(0, .tmp 23)], some (2, true)⟩,
  ⟨some 25, .call { callee := .value (.func 35), args := #[.tmp 24], argTypes := #[35] }, some (2, true)⟩,
  ⟨some 26, .unOp .not 4 (.tmp 25), some (2, true)⟩,
  ⟨some 27, .pick (.tmp 22) (.tmp 26) (.const (.bool false)), none⟩]
def f20_r5 : List LOp := [
  ⟨some 28, .build 37 #[], none⟩,
  ⟨none, .store 37 (.tmp 2) (.tmp 28), none⟩,
  ⟨some 3, .assign (.const (.int .i64 0)), none⟩,
  ⟨some 4, .assign (.const (.int .i64 4)), none⟩]
def f20_r6 : List LOp := [
  ⟨some 29, .load 37 (.tmp 5), none⟩,
  ⟨some 30, .move (.tmp 6), none⟩,
  ⟨some 31, .move (.tmp 7), none⟩,
  ⟨none, .store 37 (.tmp 2) (.tmp 29), none⟩,
  ⟨some 3, .assign (.tmp 30), none⟩,
  ⟨some 4, .assign (.tmp 31), none⟩]
def f20_c : LC := (.seq (.reg f20_r0 [] none) (.seq (.seq (.reg f20_r1 [] none) (.cond (.tmp 10) (.seq (.reg f20_r2 [] none) .ret) .skip)) (.seq (.reg f20_r3 [2] none) (.seq (.seq (.reg f20_r4 [] none) (.cond (.tmp 27) (.seq (.reg f20_r5 [] none) .ret) .skip)) (.seq (.reg f20_r6 [] none) .ret)))))
theorem f20_lc : Tryd.f20.body.map lc = some f20_c.st := by kernel_rfl
theorem f20_res : Tryd.f20.results.toList = [.cell 2 37, .tmp 3, .tmp 4] := by kernel_rfl
theorem f20_nt : Tryd.f20.ntmps = 32 := by kernel_rfl
theorem f20_nm : (Tryd.f20.name == "runtime.NumGoroutine") = false := by kernel_rfl
/-! quill/rex.Size -/
def f21_r0 : List LOp := [
  ⟨some 2, .assign (.const (.int .i64 0)), none⟩]
def f21_r1 : List LOp := [
  ⟨some 6, .move (.tmp 0), none⟩,
  ⟨some 7, .call { callee := .builtin .len, args := #[.tmp 6], argTypes := #[35] }, none⟩,
  ⟨some 3, .assign (.tmp 7), none⟩]
def f21_r2 : List LOp := [
  ⟨some 8, .move (.tmp 0), none⟩,
  ⟨some 9, .call { callee := .builtin .len, args := #[.tmp 8], argTypes := #[35] }, none⟩,
  ⟨some 10, .move (.const (.int .i64 0)), none⟩]
def f21_r3 : List LOp := [
  ⟨some 11, .binOp .lss 3 (.tmp 10) (.tmp 9) 3, none⟩]
def f21_r4 : List LOp := [
  ⟨some 12, .indexAddr 35 (.tmp 8) (.tmp 10), none⟩,
  ⟨some 13, .load 37 (.tmp 12), none⟩,
  ⟨some 5, .alloc 37, none⟩,
  ⟨none, .store 37 (.tmp 5) (.tmp 13), none⟩]
def f21_r5 : List LOp := [
  ⟨some 14, .move (.tmp 3), none⟩,
  ⟨some 15, .fieldAddr 37 (.tmp 5) 2, none⟩,
  ⟨some 16, .load 35 (.tmp 15), none⟩,
  ⟨some 17, .call { callee := .value (.func 21), args := #[.tmp 16], argTypes := #[35] }, none⟩,
  ⟨some 18, .binOp .add 3 (.tmp 14) (.tmp 17) 3, none⟩,
  ⟨some 3, .assign (.tmp 18), none⟩]
def f21_r6 : List LOp := [
  ⟨some 19, .binOp .add 3 (.tmp 10) (.const (.int .i64 1)) 3, none⟩,
  ⟨some 10, .move (.tmp 19), none⟩]
def f21_l7 : LC := (.seq (.reg f21_r3 [] none) (.seq (.cond (.tmp 11) .skip (.exit 0)) (.seq (.block 1 (.seq (.reg f21_r4 [] none) (.reg f21_r5 [] none))) (.reg f21_r6 [] none))))
def f21_i7 (t3 t8 t9 t10 : D) : List D := [.any, .any, .any, t3, .any, .any, .any, .any, t8, t9, t10, .any, .any, .any, .any, .any, .any, .any, .any, .any, .any]
def f21_r8 : List LOp := [
  ⟨some 20, .move (.tmp 3), none⟩,
  ⟨some 2, .assign (.tmp 20), none⟩]
def f21_c : LC := (.seq (.reg f21_r0 [] none) (.seq (.reg f21_r1 [] none) (.seq (.seq (.reg f21_r2 [] none) (.block 0 (.loop f21_l7))) (.seq (.reg f21_r8 [] none) .ret))))
theorem f21_lc : Tryd.f21.body.map lc = some f21_c.st := by kernel_rfl
theorem f21_res : Tryd.f21.results.toList = [.tmp 2] := by kernel_rfl
theorem f21_nt : Tryd.f21.ntmps = 21 := by kernel_rfl
theorem f21_nm : (Tryd.f21.name == "runtime.NumGoroutine") = false := by kernel_rfl
/-! (*strings.Builder).WriteString -/
def f23_r0 : List LOp := [
  ⟨some 4, .assign (.const (.int .i64 0)), none⟩,
  ⟨some 5, .assign (.const .nilIface), none⟩]
def f23_r1 : List LOp := [
  ⟨some 6, .move (.tmp 0), none⟩,
  ⟨some 7, .call { callee := .value (.func 36), args := #[.tmp 6], argTypes := #[63] }, none⟩]
def f23_r2 : List LOp := [
  ⟨some 8, .move (.tmp 0), none⟩,
  ⟨some 9, .move (.tmp 0), none⟩,
  ⟨some 10, .nilCheck (.tmp 9), none⟩,
  ⟨some 11, .fieldAddr 65 (.tmp 10) 1, none⟩,
  ⟨some 12, .load 22 (.tmp 11), none⟩,
  ⟨some 13, .move (.tmp 1), none⟩,
  ⟨some 14, .call { callee := .builtin .append, args := #[.tmp 12, .tmp 13], argTypes := #[22, 9] }, none⟩,
  ⟨some 15, .nilCheck (.tmp 8), none⟩,
  ⟨some 16, .fieldAddr 65 (.tmp 15) 1, none⟩,
  ⟨none, .store 22 (.tmp 16) (.tmp 14), none⟩]
def f23_r3 : List LOp := [
  ⟨some 17, .move (.tmp 1), none⟩,
  ⟨some 18, .call { callee := .builtin .len, args := #[.tmp 17], argTypes := #[9] }, none⟩,
  ⟨some 4, .assign (.tmp 18), none⟩,
  ⟨some 5, .assign (.const .nilIface), none⟩]
def f23_c : LC := (.seq (.reg f23_r0 [] none) (.seq (.reg f23_r1 [] none) (.seq (.reg f23_r2 [] none) (.seq (.reg f23_r3 [] none) .ret))))
theorem f23_lc : Tryd.f23.body.map lc = some f23_c.st := by kernel_rfl
theorem f23_res : Tryd.f23.results.toList = [.tmp 4, .tmp 5] := by kernel_rfl
theorem f23_nt : Tryd.f23.ntmps = 19 := by kernel_rfl
theorem f23_nm : (Tryd.f23.name == "runtime.NumGoroutine") = false := by kernel_rfl
/-! quill/show.Text -/
def f24_r0 : List LOp := [
  ⟨some 1, .box 37 (.tmp 0), none⟩,
  ⟨some 2, .assign (.const (.string { data := #[] })), none⟩]
def f24_r1 : List LOp := [
  ⟨some 4, .load 37 (.tmp 1), none⟩,
  ⟨some 5, .buildSlice 35 1 #[(0, .tmp 4)], none⟩,
  ⟨some 6, .call { callee := .value (.func 35), args := #[.tmp 5], argTypes := #[35] }, none⟩,
  ⟨some 7, .unOp .not 4 (.tmp 6), none⟩]
def f24_r2 : List LOp := [
  ⟨some 2, .assign (.const (.string { data := #[] })), none⟩]
def f24_r3 : List LOp := [
  ⟨some 8, .build 83 #[], none⟩,
  ⟨some 9, .box 83 (.tmp 8), none⟩,
  ⟨some 3, .assign (.tmp 9), none⟩]
def f24_r4 : List LOp := [
  ⟨some 10, .move (.tmp 3), none⟩,
  ⟨some 11, .load 37 (.tmp 1), none⟩,
  ⟨some 12, .call { callee := .value (.func 37), args := #[.tmp 10, .tmp 11, .const (.slice none 0 0)], argTypes := #[81, 37, 22] }, none⟩]
def f24_r5 : List LOp := [
  ⟨some 13, .move (.tmp 3), none⟩,
  ⟨some 14, .nilCheck (.tmp 13), none⟩,
  ⟨some 15, .fieldAddr 83 (.tmp 14) 0, none⟩,
  ⟨some 16, .call { callee := .value (.func 26), args := #[.tmp 15], argTypes := #[65] }, none⟩,
  ⟨some 2, .assign (.tmp 16), none⟩]
def f24_c : LC := (.seq (.reg f24_r0 [] none) (.seq (.seq (.reg f24_r1 [] none) (.cond (.tmp 7) (.seq (.reg f24_r2 [] none) .ret) .skip)) (.seq (.reg f24_r3 [1] none) (.seq (.reg f24_r4 [] none) (.seq (.reg f24_r5 [] none) .ret)))))
theorem f24_lc : Tryd.f24.body.map lc = some f24_c.st := by kernel_rfl
theorem f24_res : Tryd.f24.results.toList = [.tmp 2] := by kernel_rfl
theorem f24_nt : Tryd.f24.ntmps = 17 := by kernel_rfl
theorem f24_nm : (Tryd.f24.name == "runtime.NumGoroutine") = false := by kernel_rfl
/-! (*strings.Builder).String -/
/-! quill/quillref03.count -/
def f27_r0 : List LOp := [
  ⟨some 2, .box 37 (.tmp 0), none⟩,
  ⟨some 4, .assign (.const (.int .i64 0)), none⟩]
def f27_r1 : List LOp := [
  ⟨some 5, .assign (.const (.int .i64 1)), none⟩]
def f27_r2 : List LOp := [
  ⟨some 7, .fieldAddr 37 (.tmp 2) 2, none⟩,
  ⟨some 8, .load 35 (.tmp 7), none⟩,
  ⟨some 9, .call { callee := .builtin .len, args := #[.tmp 8], argTypes := #[35] }, none⟩,
  ⟨some 10, .move (.const (.int .i64 0)), none⟩]
def f27_r3 : List LOp := [
  ⟨some 11, .binOp .lss 3 (.tmp 10) (.tmp 9) 3, none⟩]
def f27_r4 : List LOp := [
  ⟨some 12, .move (.tmp 10), none⟩,
  ⟨some 6, .assign (.tmp 12), none⟩]
def f27_r5 : List LOp := [
  ⟨some 13, .move (.tmp 5), none⟩,
  ⟨some 14, .move (.tmp 1), none⟩,
  ⟨some 15, .binOp .gtr 3 (.tmp 13) (.tmp 14) 3, none⟩]
def f27_r6 : List LOp := [
  ⟨some 16, .move (.tmp 5), none⟩,
  ⟨some 4, .assign (.tmp 16), none⟩]
def f27_r7 : List LOp := [
  ⟨some 17, .move (.tmp 5), none⟩,
  ⟨some 18, .fieldAddr 37 (.tmp 2) 2, none⟩,
  ⟨some 19, .load 35 (.tmp 18), none⟩,
  ⟨some 20, .move (.tmp 6), none⟩,
  ⟨some 21, .indexAddr 35 (.tmp 19) (.tmp 20), none⟩,
  ⟨some 22, .load 37 (.tmp 21), none⟩,
  ⟨some 23, .move (.tmp 1), none⟩,
  ⟨some 24, .call { callee := .value (.func 27), args := #[.tmp 22, .tmp 23], argTypes := #[37, 3] }, none⟩,
  ⟨some 25, .binOp .add 3 (.tmp 17) (.tmp 24) 3, none⟩,
  ⟨some 5, .assign (.tmp 25), none⟩]
def f27_r8 : List LOp := [
  ⟨some 26, .binOp .add 3 (.tmp 10) (.const (.int .i64 1)) 3, none⟩,
  ⟨some 10, .move (.tmp 26), none⟩]
def f27_l9 : LC := (.seq (.reg f27_r3 [] none) (.seq (.cond (.tmp 11) .skip (.exit 0)) (.seq (.block 1 (.seq (.reg f27_r4 [] none) (.seq (.seq (.reg f27_r5 [] none) (.cond (.tmp 15) (.seq (.reg f27_r6 [] none) .ret) .skip)) (.reg f27_r7 [] none)))) (.reg f27_r8 [] none))))
def f27_i9 (t1 t2 t5 t9 t10 : D) : List D := [.any, t1, t2, .any, .any, t5, .any, .any, .any, t9, t10, .any, .any, .any, .any, .any, .any, .any, .any, .any, .any, .any, .any, .any, .any, .any, .any, .any]
def f27_r10 : List LOp := [
  ⟨some 27, .move (.tmp 5), none⟩,
  ⟨some 4, .assign (.tmp 27), none⟩]
def f27_c : LC := (.seq (.reg f27_r0 [] none) (.seq (.reg f27_r1 [] none) (.seq (.seq (.reg f27_r2 [] none) (.block 0 (.loop f27_l9))) (.seq (.reg f27_r10 [] none) .ret))))
theorem f27_lc : Tryd.f27.body.map lc = some f27_c.st := by kernel_rfl
theorem f27_res : Tryd.f27.results.toList = [.tmp 4] := by kernel_rfl
theorem f27_nt : Tryd.f27.ntmps = 28 := by kernel_rfl
theorem f27_nm : (Tryd.f27.name == "runtime.NumGoroutine") = false := by kernel_rfl
/-! internal/stringslite.IndexByte -/
/-! (*quill/read.reader).whole -/
def f34_r0 : List LOp := [
  ⟨some 2, .alloc 37, none⟩,
  ⟨some 3, .alloc 3, none⟩,
  ⟨some 4, .alloc 24, none⟩]
def f34_r1 : List LOp := [
  ⟨some 5, .makeFunc (.func 41) #[] #[.tmp 2, .tmp 3, .tmp 4], none⟩,
  ⟨none, .defer { callee := .value (.tmp 5), args := #[], argTypes := #[] }, none⟩]
def f34_r2 : List LOp := [
  ⟨some 6, .move (.tmp 0), none⟩,
  ⟨some 7, .call { callee := .value (.func 42), args := #[.tmp 6], argTypes := #[76] }, none⟩,
  ⟨none, .store 37 (.tmp 2) (.tmp 7), none⟩]
def f34_r3 : List LOp := [
  ⟨some 8, .move (.tmp 0), none⟩,
  ⟨some 9, .nilCheck (.tmp 8), none⟩,
  ⟨some 10, .fieldAddr 78 (.tmp 9) 1, none⟩,
  ⟨some 11, .load 3 (.tmp 10), none⟩,
  ⟨some 12, .move (.tmp 0), none⟩,
  ⟨some 13, .nilCheck (.tmp 12), none⟩,
  ⟨some 14, .fieldAddr 78 (.tmp 13) 0, none⟩,
  ⟨some 15, .load 9 (.tmp 14), none⟩,
  ⟨some 16, .call { callee := .builtin .len, args := #[.tmp 15], argTypes := #[9] }, none⟩,
  ⟨some 17, .binOp .lss 3 (.tmp 11) (.tmp 16) 3, none⟩]
def f34_r4 : List LOp := [
  ⟨some 18, .move (.tmp 0), none⟩,
  ⟨some 19, .nilCheck (.tmp 18), none⟩,
  ⟨some 20, .fieldAddr 78 (.tmp 19) 1, none⟩,
  ⟨some 21, .load 3 (.tmp 20), none⟩,
  ⟨some 22, .build 89 #[(0, .tmp 21)], none⟩,
  ⟨some 23, .makeInterface 89 (.tmp 22), none⟩,
  ⟨none, .panic (.tmp 23), none⟩]
def f34_r5 : List LOp := [
  ⟨some 24, .load 37 (.tmp 2), none⟩,
  ⟨none, .store 37 (.tmp 2) (.tmp 24), none⟩,
  ⟨none, .store 3 (.tmp 3) (.const (.int .i64 0)), none⟩,
  ⟨none, .store 24 (.tmp 4) (.const (.int .i64 0)), none⟩]
def f34_c : LC := (.seq (.reg f34_r0 [] none) (.seq (.reg f34_r1 [] none) (.seq (.reg f34_r2 [] none) (.seq (.seq (.reg f34_r3 [] (some 9)) (.cond (.tmp 17) (.reg f34_r4 [] none) .skip)) (.seq (.reg f34_r5 [] none) .ret)))))
theorem f34_lc : Tryd.f34.body.map lc = some f34_c.st := by kernel_rfl
theorem f34_res : Tryd.f34.results.toList = [.cell 2 37, .cell 3 3, .cell 4 24] := by kernel_rfl
theorem f34_nt : Tryd.f34.ntmps = 25 := by kernel_rfl
theorem f34_nm : (Tryd.f34.name == "runtime.NumGoroutine") = false := by kernel_rfl
/-! quill/rex.May -/
def f35_r0 : List LOp := [
  ⟨some 2, .assign (.const (.bool false)), none⟩]
def f35_r1 : List LOp := [
  ⟨some 3, .move (.tmp 0), none⟩,
  ⟨some 4, .call { callee := .value (.func 43), args := #[.tmp 3, .func 44], argTypes := #[35, 92] }, none⟩,
  ⟨some 5, .unOp .not 4 (.tmp 4), none⟩,
  ⟨some 2, .assign (.tmp 5), none⟩]
def f35_c : LC := (.seq (.reg f35_r0 [] none) (.seq (.reg f35_r1 [] none) .ret))
theorem f35_lc : Tryd.f35.body.map lc = some f35_c.st := by kernel_rfl
theorem f35_res : Tryd.f35.results.toList = [.tmp 2] := by kernel_rfl
theorem f35_nt : Tryd.f35.ntmps = 6 := by kernel_rfl
theorem f35_nm : (Tryd.f35.name == "runtime.NumGoroutine") = false := by kernel_rfl
/-! (*strings.Builder).copyCheck -/
/-! (*quill/show.page).put -/
def f37_r0 : List LOp := [
  ⟨some 4, .box 37 (.tmp 1), none⟩]
def f37_r1 : List LOp := [
  ⟨some 7, .move (.tmp 2), none⟩,
  ⟨some 8, .fieldAddr 37 (.tmp 4) 0, none⟩,
  ⟨some 9, .load 5 (.tmp 8), none⟩,
  ⟨some 10, .call { callee := .value (.func 47), args := #[.tmp 7, .tmp 9], argTypes := #[22, 5] }, none⟩,
  ⟨some 6, .assign (.tmp 10), none⟩]
def f37_r2 : List LOp := [
  ⟨some 11, .move (.tmp 6), none⟩]
def f37_r3 : List LOp := [
  ⟨some 12, .move (.tmp 0), none⟩,
  ⟨some 13, .nilCheck (.tmp 12), none⟩,
  ⟨some 14, .fieldAddr 83 (.tmp 13) 0, none⟩,
  ⟨some 15, .call { callee := .value (.func 48), args := #[.tmp 14, .const (.int .u8 40)], argTypes := #[65, 5] }, none⟩]
def f37_r4 : List LOp := [
  ⟨some 16, .fieldAddr 37 (.tmp 4) 0, none⟩,
  ⟨some 17, .load 5 (.tmp 16), none⟩]
def f37_r5 : List LOp := [
  ⟨some 19, .binOp .eql 5 (.tmp 17) (.const (.int .u8 1)) 5, none⟩,
  ⟨some 18, .assign (.tmp 19), none⟩]
def f37_r6 : List LOp := [
  ⟨some 20, .move (.tmp 0), none⟩,
  ⟨some 21, .nilCheck (.tmp 20), none⟩,
  ⟨some 22, .fieldAddr 83 (.tmp 21) 0, none⟩,
  ⟨some 23, .call { callee := .value (.func 23), args := #[.tmp 22, .const (.string { data := #[91, 93] })], argTypes := #[65, 9] }, none⟩]
def f37_r7 : List LOp := [
  ⟨some 25, .binOp .eql 5 (.tmp 17) (.const (.int .u8 2)) 5, none⟩,
  ⟨some 24, .assign (.tmp 25), none⟩]
def f37_r8 : List LOp := [
  ⟨some 26, .move (.tmp 0), none⟩,
  ⟨some 27, .nilCheck (.tmp 26), none⟩,
  ⟨some 28, .fieldAddr 83 (.tmp 27) 0, none⟩,
  ⟨some 29, .call { callee := .value (.func 23), args := #[.tmp 28, .const (.string { data := #[40, 41] })], argTypes := #[65, 9] }, none⟩]
def f37_r9 : List LOp := [
  ⟨some 31, .binOp .eql 5 (.tmp 17) (.const (.int .u8 3)) 5, none⟩,
  ⟨some 30, .assign (.tmp 31), none⟩]
def f37_r10 : List LOp := [
  ⟨some 32, .move (.tmp 0), none⟩,
  ⟨some 33, .nilCheck (.tmp 32), none⟩,
  ⟨some 34, .fieldAddr 83 (.tmp 33) 0, none⟩,
  ⟨some 35, .fieldAddr 37 (.tmp 4) 1, none⟩,
  ⟨some 36, .load 34 (.tmp 35), none⟩,
  ⟨some 37, .call { callee := .value (.func 49), args := #[.tmp 36], argTypes := #[34] }, none⟩,
  ⟨some 38, .call { callee := .value (.func 23), args := #[.tmp 34, .tmp 37], argTypes := #[65, 9] }, none⟩]
def f37_r11 : List LOp := [
  ⟨some 40, .binOp .eql 5 (.tmp 17) (.const (.int .u8 4)) 5, none⟩,
  ⟨some 39, .assign (.tmp 40), none⟩]
def f37_r12 : List LOp := [
  ⟨some 41, .move (.tmp 0), none⟩,
  ⟨some 42, .fieldAddr 37 (.tmp 4) 2, none⟩,
  ⟨some 43, .load 35 (.tmp 42), none⟩,
  ⟨some 44, .indexAddr 35 (.tmp 43) (.const (.int .i64 0)), none⟩,
  ⟨some 45, .load 37 (.tmp 44), none⟩,
  ⟨some 46, .buildSlice 22 2 #[(0, .const (.int .u8 4)), (1, .const (.int .u8 5))], none⟩,
  ⟨some 47, .call { callee := .value (.func 37), args := #[.tmp 41, .tmp 45, .tmp 46], argTypes := #[81, 37, 22] }, none⟩]
def f37_r13 : List LOp := [
  ⟨some 48, .move (.tmp 0), none⟩,
  ⟨some 49, .fieldAddr 37 (.tmp 4) 2, none⟩,
  ⟨some 50, .load 35 (.tmp 49), none⟩,
  ⟨some 51, .indexAddr 35 (.tmp 50) (.const (.int .i64 1)), none⟩,
  ⟨some 52, .load 37 (.tmp 51), none⟩,
  ⟨some 53, .buildSlice 22 1 #[(0, .const (.int .u8 5))], none⟩,
  ⟨some 54, .call { callee := .value (.func 37), args := #[.tmp 48, .tmp 52, .tmp 53], argTypes := #[81, 37, 22] }, none⟩]
def f37_r14 : List LOp := [
  ⟨some 56, .binOp .eql 5 (.tmp 17) (.const (.int .u8 5)) 5, none⟩,
  ⟨some 55, .assign (.tmp 56), none⟩]
def f37_r15 : List LOp := [
  ⟨some 57, .move (.tmp 0), none⟩,
  ⟨some 58, .fieldAddr 37 (.tmp 4) 2, none⟩,
  ⟨some 59, .load 35 (.tmp 58), none⟩,
  ⟨some 60, .indexAddr 35 (.tmp 59) (.const (.int .i64 0)), none⟩,
  ⟨some 61, .load 37 (.tmp 60), none⟩,
  ⟨some 62, .buildSlice 22 1 #[(0, .const (.int .u8 5))], none⟩,
  ⟨some 63, .call { callee := .value (.func 37), args := #[.tmp 57, .tmp 61, .tmp 62], argTypes := #[81, 37, 22] }, none⟩]
def f37_r16 : List LOp := [
  ⟨some 64, .move (.tmp 0), none⟩,
  ⟨some 65, .nilCheck (.tmp 64), none⟩,
  ⟨some 66, .fieldAddr 83 (.tmp 65) 0, none⟩,
  ⟨some 67, .call { callee := .value (.func 48), args := #[.tmp 66, .const (.int .u8 124)], argTypes := #[65, 5] }, none⟩]
def f37_r17 : List LOp := [
  ⟨some 68, .move (.tmp 0), none⟩,
  ⟨some 69, .fieldAddr 37 (.tmp 4) 2, none⟩,
  ⟨some 70, .load 35 (.tmp 69), none⟩,
  ⟨some 71, .indexAddr 35 (.tmp 70) (.const (.int .i64 1)), none⟩,
  ⟨some 72, .load 37 (.tmp 71), none⟩,
  ⟨some 73, .call { callee := .value (.func 37), args := #[.tmp 68, .tmp 72, .const (.slice none 0 0)], argTypes := #[81, 37, 22] }, none⟩]
def f37_r18 : List LOp := [
  ⟨some 75, .binOp .eql 5 (.tmp 17) (.const (.int .u8 6)) 5, none⟩,
  ⟨some 74, .assign (.tmp 75), none⟩]
def f37_r19 : List LOp := [
  ⟨some 76, .move (.tmp 0), none⟩,
  ⟨some 77, .fieldAddr 37 (.tmp 4) 2, none⟩,
  ⟨some 78, .load 35 (.tmp 77), none⟩,
  ⟨some 79, .indexAddr 35 (.tmp 78) (.const (.int .i64 0)), none⟩,
  ⟨some 80, .load 37 (.tmp 79), none⟩,
  ⟨some 81, .buildSlice 22 2 #[(0, .const (.int .u8 4)), (1, .const (.int .u8 5))], none⟩,
  ⟨some 82, .call { callee := .value (.func 37), args := #[.tmp 76, .tmp 80, .tmp 81], argTypes := #[81, 37, 22] }, none⟩]
def f37_r20 : List LOp := [
  ⟨some 83, .move (.tmp 0), none⟩,
  ⟨some 84, .nilCheck (.tmp 83), none⟩,
  ⟨some 85, .fieldAddr 83 (.tmp 84) 0, none⟩,
  ⟨some 86, .call { callee := .value (.func 48), args := #[.tmp 85, .const (.int .u8 42)], argTypes := #[65, 5] }, none⟩]
def f37_r21 : List LOp := [
  ⟨some 87, .move (.tmp 6), none⟩]
def f37_r22 : List LOp := [
  ⟨some 88, .move (.tmp 0), none⟩,
  ⟨some 89, .nilCheck (.tmp 88), none⟩,
  ⟨some 90, .fieldAddr 83 (.tmp 89) 0, none⟩,
  ⟨some 91, .call { callee := .value (.func 48), args := #[.tmp 90, .const (.int .u8 41)], argTypes := #[65, 5] }, none⟩]
def f37_c : LC := (.seq (.reg f37_r0 [] none) (.seq (.reg f37_r1 [] none) (.seq (.seq (.reg f37_r2 [] none) (.cond (.tmp 11) (.reg f37_r3 [] none) .skip)) (.seq (.seq (.reg f37_r4 [] none) (.block 0 (.seq (.reg f37_r5 [] none) (.cond (.tmp 18) (.reg f37_r6 [] none) (.seq (.reg f37_r7 [] none) (.cond (.tmp 24) (.reg f37_r8 [] none) (.seq (.reg f37_r9 [] none) (.cond (.tmp 30) (.reg f37_r10 [] (some 6)) (.seq (.reg f37_r11 [] none) (.cond (.tmp 39) (.seq (.reg f37_r12 [] none) (.reg f37_r13 [] none)) (.seq (.reg f37_r14 [] none) (.cond (.tmp 55) (.seq (.reg f37_r15 [] none) (.seq (.reg f37_r16 [] none) (.reg f37_r17 [] none))) (.seq (.reg f37_r18 [] none) (.cond (.tmp 74) (.seq (.reg f37_r19 [] none) (.reg f37_r20 [] none)) .skip)))))))))))))) (.seq (.reg f37_r21 [] none) (.cond (.tmp 87) (.reg f37_r22 [] none) .skip))))))
theorem f37_lc : Tryd.f37.body.map lc = some f37_c.st := by kernel_rfl
theorem f37_res : Tryd.f37.results.toList = [] := by kernel_rfl
theorem f37_nt : Tryd.f37.ntmps = 92 := by kernel_rfl
theorem f37_nm : (Tryd.f37.name == "runtime.NumGoroutine") = false := by kernel_rfl
/-! (*quill/read.reader).whole$1 -/
def f41_r0 : List LOp := [
  ⟨some 6, .call { callee := .builtin .recover, args := #[], argTypes := #[] }, none⟩]
def f41_r1 : List LOp := [
  ⟨some 8, .binOp .eql 20 (.tmp 6) (.const .nilIface) 20, none⟩]
def f41_r2 : List LOp := [
  ⟨some 3, .assign (.tmp 6), none⟩]
def f41_r3 : List LOp := [
  ⟨some 9, .typeAssert (.tmp 6) 20 89 true, none⟩,
  ⟨some 10, .extract (.tmp 9) 1, none⟩,
  ⟨some 11, .extract (.tmp 9) 0, none⟩]
def f41_r4 : List LOp := [
  ⟨some 4, .alloc 89, none⟩,
  ⟨none, .store 89 (.tmp 4) (.tmp 11), none⟩]
def f41_r5 : List LOp := [
  ⟨some 12, .build 37 #[], none⟩,
  ⟨some 13, .fieldAddr 89 (.tmp 4) 0, none⟩,
  ⟨some 14, .load 3 (.tmp 13), none⟩,
  ⟨none, .store 37 (.tmp 0) (.tmp 12), none⟩,
  ⟨none, .store 3 (.tmp 1) (.tmp 14), none⟩,
  ⟨none, .store 24 (.tmp 2) (.const (.int .i64 2)), none⟩]
def f41_r6 : List LOp := [
  ⟨some 5, .assign (.tmp 6), none⟩]
def f41_r7 : List LOp := [
  ⟨some 7, .move (.tmp 5), none⟩,
  ⟨none, .panic (.tmp 7), none⟩]
def f41_c : LC := (.seq (.reg f41_r0 [] none) (.block 0 (.seq (.reg f41_r1 [] none) (.cond (.tmp 8) (.reg f41_r2 [] none) (.seq (.reg f41_r3 [] none) (.cond (.tmp 10) (.seq (.reg f41_r4 [] none) (.regq f41_r5 [] 0 (.both (.op 0 (.both (.op 1 (.both (.op 2 (.op 3 (.op 4 (.op 5 .done)))) (.op 3 (.op 2 (.op 4 (.op 5 .done)))))) (.op 3 (.op 1 (.op 2 (.op 4 (.op 5 .done))))))) (.op 1 (.both (.op 0 (.both (.op 2 (.op 3 (.op 4 (.op 5 .done)))) (.op 3 (.op 2 (.op 4 (.op 5 .done)))))) (.op 2 (.op 0 (.op 3 (.op 4 (.op 5 .done)))))))))) (.seq (.reg f41_r6 [] none) (.reg f41_r7 [] none))))))))
theorem f41_lc : Tryd.f41.body.map lc = some f41_c.st := by kernel_rfl
theorem f41_res : Tryd.f41.results.toList = [] := by kernel_rfl
theorem f41_nt : Tryd.f41.ntmps = 15 := by kernel_rfl
theorem f41_nm : (Tryd.f41.name == "runtime.NumGoroutine") = false := by kernel_rfl
/-! (*quill/read.reader).alt -/
def f42_r0 : List LOp := [
  ⟨some 2, .alloc 37, none⟩]
def f42_r1 : List LOp := [
  ⟨some 4, .move (.tmp 0), none⟩,
  ⟨some 5, .call { callee := .value (.func 53), args := #[.tmp 4], argTypes := #[76] }, none⟩,
  ⟨some 6, .buildSlice 35 1 #[(0, .tmp 5)], none⟩,
  ⟨some 3, .assign (.tmp 6), none⟩]
def f42_r2 : List LOp := [
  ⟨some 7, .move (.tmp 0), none⟩,
  ⟨some 8, .call { callee := .value (.func 54), args := #[.tmp 7, .const (.string { data := #[124] })], argTypes := #[76, 9] }, none⟩]
def f42_r3 : List LOp := [
  ⟨some 9, .move (.tmp 0), none⟩,
  ⟨some 10, .nilCheck (.tmp 9), none⟩,
  ⟨some 11, .fieldAddr 78 (.tmp 10) 1, none⟩,
  ⟨some 12, .load 3 (.tmp 11), none⟩,
  ⟨some 13, .binOp .add 3 (.tmp 12) (.const (.int .i64 1)) 3, none⟩,
  ⟨some 14, .nilCheck (.tmp 9), none⟩,
  ⟨some 15, .fieldAddr 78 (.tmp 14) 1, none⟩,
  ⟨none, .store 3 (.tmp 15) (.tmp 13), none⟩]
def f42_r4 : List LOp := [
  ⟨some 16, .move (.tmp 3), none⟩,
  ⟨some 17, .move (.tmp 0), none⟩,
  ⟨some 18, .call { callee := .value (.func 53), args := #[.tmp 17], argTypes := #[76] }, none⟩,
  ⟨some 19, .buildSlice 35 1 #[(0, .tmp 18)], none⟩,
  ⟨some 20, .call { callee := .builtin .append, args := #[.tmp 16, .tmp 19], argTypes := #[35, 35] }, none⟩,
  ⟨some 3, .assign (.tmp 20), none⟩]
def f42_l5 : LC := (.seq (.seq (.reg f42_r2 [] none) (.cond (.tmp 8) .skip (.exit 0))) (.block 1 (.seq (.reg f42_r3 [] none) (.reg f42_r4 [] none))))
def f42_i5 (t0 t2 t3 : D) : List D := [t0, .any, t2, t3, .any, .any, .any, .any, .any, .any, .any, .any, .any, .any, .any, .any, .any, .any, .any, .any, .any, .any, .any]
def f42_r6 : List LOp := [
  ⟨some 21, .move (.tmp 3), none⟩,
  ⟨some 22, .call { callee := .value (.func 55), args := #[.tmp 21], argTypes := #[35] }, none⟩,
  ⟨none, .store 37 (.tmp 2) (.tmp 22), none⟩]
def f42_c : LC := (.seq (.reg f42_r0 [] none) (.seq (.reg f42_r1 [2] none) (.seq (.block 0 (.loop f42_l5)) (.seq (.reg f42_r6 [] none) .ret))))
theorem f42_lc : Tryd.f42.body.map lc = some f42_c.st := by kernel_rfl
theorem f42_res : Tryd.f42.results.toList = [.cell 2 37] := by kernel_rfl
theorem f42_nt : Tryd.f42.ntmps = 23 := by kernel_rfl
theorem f42_nm : (Tryd.f42.name == "runtime.NumGoroutine") = false := by kernel_rfl
/-! slices.ContainsFunc[[]quill/api.Re,quill/api.Re] -/
def f43_r0 : List LOp := [
  ⟨some 4, .assign (.const (.bool false)), none⟩]
def f43_r1 : List LOp := [
  ⟨some 5, .move (.tmp 0), none⟩,
  ⟨some 6, .move (.tmp 1), none⟩,
  ⟨some 7, .call { callee := .value (.func 56), args := #[.tmp 5, .tmp 6], argTypes := #[35, 92] }, none⟩,
  ⟨some 8, .binOp .geq 3 (.tmp 7) (.const (.int .i64 0)) 3, none⟩,
  ⟨some 4, .assign (.tmp 8), none⟩]
def f43_c : LC := (.seq (.reg f43_r0 [] none) (.seq (.reg f43_r1 [] none) .ret))
theorem f43_lc : Tryd.f43.body.map lc = some f43_c.st := by kernel_rfl
theorem f43_res : Tryd.f43.results.toList = [.tmp 4] := by kernel_rfl
theorem f43_nt : Tryd.f43.ntmps = 9 := by kernel_rfl
theorem f43_nm : (Tryd.f43.name == "runtime.NumGoroutine") = false := by kernel_rfl
/-! quill/rex.May$1 -/
def f44_r0 : List LOp := [
  ⟨some 1, .box 37 (.tmp 0), none⟩,
  ⟨some 2, .assign (.const (.bool false)), none⟩]
def f44_r1 : List LOp := [
  ⟨some 3, .load 37 (.tmp 1), none⟩,
  ⟨some 4, .call { callee := .value (.func 45), args := #[.tmp 3], argTypes := #[37] }, none⟩,
  ⟨some 5, .unOp .not 4 (.tmp 4), none⟩,
  ⟨some 6, .move (.tmp 5), none⟩,
  ⟨some 7, .load 37 (.tmp 1), some (3, false)⟩,
  ⟨some 8, .buildSlice 35 1 #[(0, .tmp 7)], some (3, false)⟩,
  ⟨some 9, .call { callee := .value (.func 21), args := #[.tmp 8], argTypes := #[35] }, some (3, false)⟩,
  ⟨some 10, .binOp .gtr 3 (.tmp 9) (.const (.int .i64 2000)) 3, some (3, false)⟩,
  ⟨some 11, .pick (.tmp 6) (.const (.bool true)) (.tmp 10), none⟩,
  ⟨some 2, .assign (.tmp 11), none⟩]
def f44_c : LC := (.seq (.reg f44_r0 [] none) (.seq (.reg f44_r1 [] none) .ret))
theorem f44_lc : Tryd.f44.body.map lc = some f44_c.st := by kernel_rfl
theorem f44_res : Tryd.f44.results.toList = [.tmp 2] := by kernel_rfl
theorem f44_nt : Tryd.f44.ntmps = 12 := by kernel_rfl
theorem f44_nm : (Tryd.f44.name == "runtime.NumGoroutine") = false := by kernel_rfl
/-! quill/rex.nodes -/
def f45_r0 : List LOp := [
  ⟨some 1, .box 37 (.tmp 0), none⟩,
  ⟨some 2, .assign (.const (.bool false)), none⟩]
def f45_r1 : List LOp := [
  ⟨some 3, .load 37 (.tmp 1), none⟩,
  ⟨some 4, .call { callee := .value (.func 57), args := #[.tmp 3], argTypes := #[37] }, none⟩,
  ⟨some 5, .move (.tmp 4), none⟩,
  ⟨some 6, .fieldAddr 37 (.tmp 1) 2, some (2, true)⟩,
  ⟨some 7, .load 35 (.tmp 6), some (2, true)⟩,
  ⟨some 8, .call { callee := .value (.func 43), args := #[.tmp 7, .func 58], argTypes := #[35, 92] }, some (2, true)⟩,
  ⟨some 9, .unOp .not 4 (.tmp 8), some (2, true)⟩,
  ⟨some 10, .pick (.tmp 5) (.tmp 9) (.const (.bool false)), none⟩,
  ⟨some 2, .assign (.tmp 10), none⟩]
def f45_c : LC := (.seq (.reg f45_r0 [] none) (.seq (.reg f45_r1 [] none) .ret))
theorem f45_lc : Tryd.f45.body.map lc = some f45_c.st := by kernel_rfl
theorem f45_res : Tryd.f45.results.toList = [.tmp 2] := by kernel_rfl
theorem f45_nt : Tryd.f45.ntmps = 11 := by kernel_rfl
theorem f45_nm : (Tryd.f45.name == "runtime.NumGoroutine") = false := by kernel_rfl
/-! slices.Contains[[]uint8,uint8] -/
def f47_r0 : List LOp := [
  ⟨some 4, .assign (.const (.bool false)), none⟩]
def f47_r1 : List LOp := [
  ⟨some 5, .move (.tmp 0), none⟩,
  ⟨some 6, .move (.tmp 1), none⟩,
  ⟨some 7, .call { callee := .value (.func 59), args := #[.tmp 5, .tmp 6], argTypes := #[22, 5] }, none⟩,
  ⟨some 8, .binOp .geq 3 (.tmp 7) (.const (.int .i64 0)) 3, none⟩,
  ⟨some 4, .assign (.tmp 8), none⟩]
def f47_c : LC := (.seq (.reg f47_r0 [] none) (.seq (.reg f47_r1 [] none) .ret))
theorem f47_lc : Tryd.f47.body.map lc = some f47_c.st := by kernel_rfl
theorem f47_res : Tryd.f47.results.toList = [.tmp 4] := by kernel_rfl
theorem f47_nt : Tryd.f47.ntmps = 9 := by kernel_rfl
theorem f47_nm : (Tryd.f47.name == "runtime.NumGoroutine") = false := by kernel_rfl
/-! (*strings.Builder).WriteByte -/
def f48_r0 : List LOp := [
  ⟨some 4, .assign (.const .nilIface), none⟩]
def f48_r1 : List LOp := [
  ⟨some 5, .move (.tmp 0), none⟩,
  ⟨some 6, .call { callee := .value (.func 36), args := #[.tmp 5], argTypes := #[63] }, none⟩]
def f48_r2 : List LOp := [
  ⟨some 7, .move (.tmp 0), none⟩,
  ⟨some 8, .move (.tmp 0), none⟩,
  ⟨some 9, .nilCheck (.tmp 8), none⟩,
  ⟨some 10, .fieldAddr 65 (.tmp 9) 1, none⟩,
  ⟨some 11, .load 22 (.tmp 10), none⟩,
  ⟨some 12, .move (.tmp 1), none⟩,
  ⟨some 13, .buildSlice 22 1 #[(0, .tmp 12)], none⟩,
  ⟨some 14, .call { callee := .builtin .append, args := #[.tmp 11, .tmp 13], argTypes := #[22, 22] }, none⟩,
  ⟨some 15, .nilCheck (.tmp 7), none⟩,
  ⟨some 16, .fieldAddr 65 (.tmp 15) 1, none⟩,
  ⟨none, .store 22 (.tmp 16) (.tmp 14), none⟩]
def f48_r3 : List LOp := [
  ⟨some 4, .assign (.const .nilIface), none⟩]
def f48_c : LC := (.seq (.reg f48_r0 [] none) (.seq (.reg f48_r1 [] none) (.seq (.reg f48_r2 [] none) (.seq (.reg f48_r3 [] none) .ret))))
theorem f48_lc : Tryd.f48.body.map lc = some f48_c.st := by kernel_rfl
theorem f48_res : Tryd.f48.results.toList = [.tmp 4] := by kernel_rfl
theorem f48_nt : Tryd.f48.ntmps = 17 := by kernel_rfl
theorem f48_nm : (Tryd.f48.name == "runtime.NumGoroutine") = false := by kernel_rfl
/-! quill/set.Text -/
def f49_r0 : List LOp := [
  ⟨some 1, .box 34 (.tmp 0), none⟩,
  ⟨some 2, .assign (.const (.string { data := #[] })), none⟩]
def f49_r1 : List LOp := [
  ⟨some 7, .load 34 (.tmp 1), none⟩,
  ⟨some 8, .call { callee := .value (.func 60), args := #[.tmp 7], argTypes := #[34] }, none⟩,
  ⟨some 3, .assign (.tmp 8), none⟩]
def f49_r2 : List LOp := [
  ⟨some 10, .load 34 (.tmp 1), none⟩,
  ⟨some 11, .call { callee := .value (.func 61), args := #[], argTypes := #[] }, none⟩,
  ⟨some 12, .binOp .eql 34 (.tmp 10) (.tmp 11) 34, none⟩,
  ⟨some 9, .assign (.tmp 12), none⟩]
def f49_r3 : List LOp := [
  ⟨some 2, .assign (.const (.string { data := #[46] })), none⟩]
def f49_r4 : List LOp := [
  ⟨some 14, .move (.tmp 3), none⟩,
  ⟨some 15, .call { callee := .builtin .len, args := #[.tmp 14], argTypes := #[22] }, none⟩,
  ⟨some 16, .binOp .eql 3 (.tmp 15) (.const (.int .i64 1)) 3, none⟩,
  ⟨some 13, .assign (.tmp 16), none⟩]
def f49_r5 : List LOp := [
  ⟨some 17, .move (.tmp 3), none⟩,
  ⟨some 18, .indexAddr 22 (.tmp 17) (.const (.int .i64 0)), none⟩,
  ⟨some 19, .load 5 (.tmp 18), none⟩,
  ⟨some 20, .call { callee := .value (.func 62), args := #[.tmp 19], argTypes := #[5] }, none⟩,
  ⟨some 2, .assign (.tmp 20), none⟩]
def f49_r6 : List LOp := [
  ⟨some 4, .alloc 65, none⟩]
def f49_r7 : List LOp := [
  ⟨some 21, .call { callee := .value (.func 48), args := #[.tmp 4, .const (.int .u8 91)], argTypes := #[65, 5] }, none⟩]
def f49_r8 : List LOp := [
  ⟨some 5, .assign (.const (.int .i64 0)), none⟩]
def f49_r9 : List LOp := [
  ⟨some 22, .move (.tmp 5), none⟩,
  ⟨some 23, .move (.tmp 3), none⟩,
  ⟨some 24, .call { callee := .builtin .len, args := #[.tmp 23], argTypes := #[22] }, none⟩,
  ⟨some 25, .binOp .lss 3 (.tmp 22) (.tmp 24) 3, none⟩]
def f49_r10 : List LOp := [
  ⟨some 26, .move (.tmp 5), none⟩,
  ⟨some 6, .assign (.tmp 26), none⟩]
def f49_r11 : List LOp := [
  ⟨some 27, .move (.tmp 6), none⟩,
  ⟨some 28, .binOp .add 3 (.tmp 27) (.const (.int .i64 1)) 3, none⟩,
  ⟨some 29, .move (.tmp 3), none⟩,
  ⟨some 30, .call { callee := .builtin .len, args := #[.tmp 29], argTypes := #[22] }, none⟩,
  ⟨some 31, .binOp .lss 3 (.tmp 28) (.tmp 30) 3, none⟩,
  ⟨some 32, .move (.tmp 31), none⟩,
  ⟨some 33, .move (.tmp 3), some (5, true)⟩,
  ⟨some 34, .move (.tmp 6), some (5, true)⟩,
  ⟨some 35, .binOp .add 3 (.tmp 34) (.const (.int .i64 1)) 3, some (5, true)⟩,
  ⟨some 36, .indexAddr 22 (.tmp 33) (.tmp 35), some (5, true)⟩,
  ⟨some 37, .load 5 (.tmp 36), some (5, true)⟩,
  ⟨some 38, .move (.tmp 3), some (5, true)⟩,
  ⟨some 39, .move (.tmp 6), some (5, true)⟩,
  ⟨some 40, .indexAddr 22 (.tmp 38) (.tmp 39), some (5, true)⟩,
  ⟨some 41, .load 5 (.tmp 40), some (5, true)⟩,
  ⟨some 42, .binOp .add 5 (.tmp 41) (.const (.int .u8 1)) 5, some (5, true)⟩,
  ⟨some 43, .binOp .eql 5 (.tmp 37) (.tmp 42) 5, some (5, true)⟩,
  ⟨some 44, .pick (.tmp 32) (.tmp 43) (.const (.bool false)), none⟩]
def f49_r12 : List LOp := [
  ⟨some 45, .move (.tmp 6), none⟩,
  ⟨some 46, .binOp .add 3 (.tmp 45) (.const (.int .i64 1)) 3, none⟩,
  ⟨some 6, .assign (.tmp 46), none⟩]
def f49_l13 : LC := (.seq (.seq (.reg f49_r11 [] (some 16)) (.cond (.tmp 44) .skip (.exit 3))) (.block 4 (.reg f49_r12 [] none)))
def f49_i13 (t3 t4 t5 t6 : D) : List D := [.any, .any, .any, t3, t4, t5, t6, .any, .any, .any, .any, .any, .any, .any, .any, .any, .any, .any, .any, .any, .any, .any, .any, .any, .any, .any, .any, .any, .any, .any, .any, .any, .any, .any, .any, .any, .any, .any, .any, .any, .any, .any, .any, .any, .any, .any, .any, .any, .any, .any, .any, .any, .any, .any, .any, .any, .any, .any, .any, .any, .any, .any, .any, .any, .any, .any, .any, .any, .any, .any, .any]
def f49_r14 : List LOp := [
  ⟨some 47, .move (.tmp 3), none⟩,
  ⟨some 48, .move (.tmp 5), none⟩,
  ⟨some 49, .indexAddr 22 (.tmp 47) (.tmp 48), none⟩,
  ⟨some 50, .load 5 (.tmp 49), none⟩,
  ⟨some 51, .call { callee := .value (.func 62), args := #[.tmp 50], argTypes := #[5] }, none⟩,
  ⟨some 52, .call { callee := .value (.func 23), args := #[.tmp 4, .tmp 51], argTypes := #[65, 9] }, none⟩]
def f49_r15 : List LOp := [
  ⟨some 53, .move (.tmp 6), none⟩,
  ⟨some 54, .move (.tmp 5), none⟩,
  ⟨some 55, .binOp .add 3 (.tmp 54) (.const (.int .i64 1)) 3, none⟩,
  ⟨some 56, .binOp .gtr 3 (.tmp 53) (.tmp 55) 3, none⟩]
def f49_r16 : List LOp := [
  ⟨some 57, .call { callee := .value (.func 48), args := #[.tmp 4, .const (.int .u8 45)], argTypes := #[65, 5] }, none⟩]
def f49_r17 : List LOp := [
  ⟨some 58, .move (.tmp 6), none⟩,
  ⟨some 59, .move (.tmp 5), none⟩,
  ⟨some 60, .binOp .gtr 3 (.tmp 58) (.tmp 59) 3, none⟩]
def f49_r18 : List LOp := [
  ⟨some 61, .move (.tmp 3), none⟩,
  ⟨some 62, .move (.tmp 6), none⟩,
  ⟨some 63, .indexAddr 22 (.tmp 61) (.tmp 62), none⟩,
  ⟨some 64, .load 5 (.tmp 63), none⟩,
  ⟨some 65, .call { callee := .value (.func 62), args := #[.tmp 64], argTypes := #[5] }, none⟩,
  ⟨some 66, .call { callee := .value (.func 23), args := #[.tmp 4, .tmp 65], argTypes := #[65, 9] }, none⟩]
def f49_r19 : List LOp := [
  ⟨some 67, .move (.tmp 6), none⟩,
  ⟨some 68, .binOp .add 3 (.tmp 67) (.const (.int .i64 1)) 3, none⟩,
  ⟨some 5, .assign (.tmp 68), none⟩]
def f49_l20 : LC := (.seq (.seq (.reg f49_r9 [] none) (.cond (.tmp 25) .skip (.exit 1))) (.block 2 (.seq (.reg f49_r10 [] none) (.seq (.block 3 (.loop f49_l13)) (.seq (.reg f49_r14 [] none) (.seq (.seq (.reg f49_r15 [] none) (.cond (.tmp 56) (.reg f49_r16 [] none) .skip)) (.seq (.seq (.reg f49_r17 [] none) (.cond (.tmp 60) (.reg f49_r18 [] none) .skip)) (.reg f49_r19 [] none))))))))
def f49_i20 (t3 t4 t5 : D) : List D := [.any, .any, .any, t3, t4, t5, .any, .any, .any, .any, .any, .any, .any, .any, .any, .any, .any, .any, .any, .any, .any, .any, .any, .any, .any, .any, .any, .any, .any, .any, .any, .any, .any, .any, .any, .any, .any, .any, .any, .any, .any, .any, .any, .any, .any, .any, .any, .any, .any, .any, .any, .any, .any, .any, .any, .any, .any, .any, .any, .any, .any, .any, .any, .any, .any, .any, .any, .any, .any, .any, .any]
def f49_r21 : List LOp := [
  ⟨some 69, .call { callee := .value (.func 48), args := #[.tmp 4, .const (.int .u8 93)], argTypes := #[65, 5] }, none⟩]
def f49_r22 : List LOp := [
  ⟨some 70, .call { callee := .value (.func 26), args := #[.tmp 4], argTypes := #[65] }, none⟩,
  ⟨some 2, .assign (.tmp 70), none⟩]
def f49_c : LC := (.seq (.reg f49_r0 [] none) (.seq (.reg f49_r1 [] none) (.seq (.block 0 (.seq (.reg f49_r2 [] (some 2)) (.cond (.tmp 9) (.seq (.reg f49_r3 [] none) .ret) (.seq (.reg f49_r4 [] none) (.cond (.tmp 13) (.seq (.reg f49_r5 [] none) .ret) .skip))))) (.seq (.reg f49_r6 [] none) (.seq (.reg f49_r7 [] none) (.seq (.seq (.reg f49_r8 [] none) (.block 1 (.loop f49_l20))) (.seq (.reg f49_r21 [] none) (.seq (.reg f49_r22 [] none) .ret))))))))
theorem f49_lc : Tryd.f49.body.map lc = some f49_c.st := by kernel_rfl
theorem f49_res : Tryd.f49.results.toList = [.tmp 2] := by kernel_rfl
theorem f49_nt : Tryd.f49.ntmps = 71 := by kernel_rfl
theorem f49_nm : (Tryd.f49.name == "runtime.NumGoroutine") = false := by kernel_rfl
/-! (*quill/read.reader).row -/
def f53_r0 : List LOp := [
  ⟨some 2, .alloc 37, none⟩]
def f53_r1 : List LOp := [
  ⟨some 4, .move (.tmp 0), none⟩,
  ⟨some 5, .call { callee := .value (.func 64), args := #[.tmp 4], argTypes := #[76] }, none⟩,
  ⟨some 6, .buildSlice 35 1 #[(0, .tmp 5)], none⟩,
  ⟨some 3, .assign (.tmp 6), none⟩]
def f53_r2 : List LOp := [
  ⟨some 7, .move (.tmp 0), none⟩,
  ⟨some 8, .call { callee := .value (.func 54), args := #[.tmp 7, .const (.string { data := #[46, 91, 40] })], argTypes := #[76, 9] }, none⟩,
  ⟨some 9, .move (.tmp 8), none⟩,
  ⟨some 10, .move (.tmp 0), some (2, false)⟩,
  ⟨some 11, .call { callee := .value (.func 65), args := #[.tmp 10], argTypes := #[76] }, some (2, false)⟩,
  ⟨some 12, .pick (.tmp 9) (.const (.bool true)) (.tmp 11), none⟩]
def f53_r3 : List LOp := [
  ⟨some 13, .move (.tmp 3), none⟩,
  ⟨some 14, .move (.tmp 0), none⟩,
  ⟨some 15, .call { callee := .value (.func 64), args := #[.tmp 14], argTypes := #[76] }, none⟩,
  ⟨some 16, .buildSlice 35 1 #[(0, .tmp 15)], none⟩,
  ⟨some 17, .call { callee := .builtin .append, args := #[.tmp 13, .tmp 16], argTypes := #[35, 35] }, none⟩,
  ⟨some 3, .assign (.tmp 17), none⟩]
def f53_l4 : LC := (.seq (.seq (.reg f53_r2 [] none) (.cond (.tmp 12) .skip (.exit 0))) (.block 1 (.reg f53_r3 [] none)))
def f53_i4 (t0 t2 t3 : D) : List D := [t0, .any, t2, t3, .any, .any, .any, .any, .any, .any, .any, .any, .any, .any, .any, .any, .any, .any, .any, .any]
def f53_r5 : List LOp := [
  ⟨some 18, .move (.tmp 3), none⟩,
  ⟨some 19, .call { callee := .value (.func 66), args := #[.tmp 18], argTypes := #[35] }, none⟩,
  ⟨none, .store 37 (.tmp 2) (.tmp 19), none⟩]
def f53_c : LC := (.seq (.reg f53_r0 [] none) (.seq (.reg f53_r1 [2] none) (.seq (.block 0 (.loop f53_l4)) (.seq (.reg f53_r5 [] none) .ret))))
theorem f53_lc : Tryd.f53.body.map lc = some f53_c.st := by kernel_rfl
theorem f53_res : Tryd.f53.results.toList = [.cell 2 37] := by kernel_rfl
theorem f53_nt : Tryd.f53.ntmps = 20 := by kernel_rfl
theorem f53_nm : (Tryd.f53.name == "runtime.NumGoroutine") = false := by kernel_rfl
/-! (*quill/read.reader).is -/
def f54_r0 : List LOp := [
  ⟨some 4, .assign (.const (.bool false)), none⟩]
def f54_r1 : List LOp := [
  ⟨some 5, .move (.tmp 0), none⟩,
  ⟨some 6, .nilCheck (.tmp 5), none⟩,
  ⟨some 7, .fieldAddr 78 (.tmp 6) 1, none⟩,
  ⟨some 8, .load 3 (.tmp 7), none⟩,
  ⟨some 9, .move (.tmp 0), none⟩,
  ⟨some 10, .nilCheck (.tmp 9), none⟩,
  ⟨some 11, .fieldAddr 78 (.tmp 10) 0, none⟩,
  ⟨some 12, .load 9 (.tmp 11), none⟩,
  ⟨some 13, .call { callee := .builtin .len, args := #[.tmp 12], argTypes := #[9] }, none⟩,
  ⟨some 14, .binOp .lss 3 (.tmp 8) (.tmp 13) 3, none⟩,
  ⟨some 15, .move (.tmp 14), none⟩,
  ⟨some 16, .move (.tmp 1), some (10, true)⟩,
  ⟨some 17, .move (.tmp 0), some (10, true)⟩,
  ⟨some 18, .nilCheck (.tmp 17), some (10, true)⟩,
  ⟨some 19, .fieldAddr 78 (.tmp 18) 0, some (10, true)⟩,
  ⟨some 20, .load 9 (.tmp 19), some (10, true)⟩,
  ⟨some 21, .move (.tmp 0), some (10, true)⟩,
  ⟨some 22, .nilCheck (.tmp 21), some (10, true)⟩,
  ⟨some 23, .fieldAddr 78 (.tmp 22) 1, some (10, true)⟩,
  ⟨some 24, .load 3 (.tmp 23), some (10, true)⟩,
  ⟨some 25, .index 9 (.tmp 20) (.tmp 24), some (10, true)⟩,
  ⟨some 26, .call { callee := .value (.func 16), args := #[.tmp 16, .tmp 25], argTypes := #[9, 5] }, some (10, true)⟩,
  ⟨some 27, .binOp .geq 3 (.tmp 26) (.const (.int .i64 0)) 3, some (10, true)⟩,
  ⟨some 28, .pick (.tmp 15) (.tmp 27) (.const (.bool false)), none⟩,
  ⟨some 4, .assign (.tmp 28), none⟩]
def f54_c : LC := (.seq (.reg f54_r0 [] none) (.seq (.reg f54_r1 [] (some 24)) .ret))
theorem f54_lc : Tryd.f54.body.map lc = some f54_c.st := by kernel_rfl
theorem f54_res : Tryd.f54.results.toList = [.tmp 4] := by kernel_rfl
theorem f54_nt : Tryd.f54.ntmps = 29 := by kernel_rfl
theorem f54_nm : (Tryd.f54.name == "runtime.NumGoroutine") = false := by kernel_rfl
/-! quill/rex.Or -/
def f55_r0 : List LOp := [
  ⟨some 2, .alloc 37, none⟩]
def f55_r1 : List LOp := [
  ⟨some 3, .move (.tmp 0), none⟩,
  ⟨some 4, .call { callee := .value (.func 67), args := #[.const (.int .u8 5), .const (.int .u8 1), .tmp 3], argTypes := #[5, 5, 35] }, none⟩,
  ⟨none, .store 37 (.tmp 2) (.tmp 4), none⟩]
def f55_c : LC := (.seq (.reg f55_r0 [] none) (.seq (.reg f55_r1 [] none) .ret))
theorem f55_lc : Tryd.f55.body.map lc = some f55_c.st := by kernel_rfl
theorem f55_res : Tryd.f55.results.toList = [.cell 2 37] := by kernel_rfl
theorem f55_nt : Tryd.f55.ntmps = 5 := by kernel_rfl
theorem f55_nm : (Tryd.f55.name == "runtime.NumGoroutine") = false := by kernel_rfl
/-! slices.IndexFunc[[]quill/api.Re,quill/api.Re] -/
def f56_r0 : List LOp := [
  ⟨some 4, .assign (.const (.int .i64 0)), none⟩]
def f56_r1 : List LOp := [
  ⟨some 6, .move (.tmp 0), none⟩,
  ⟨some 7, .call { callee := .builtin .len, args := #[.tmp 6], argTypes := #[35] }, none⟩,
  ⟨some 8, .move (.const (.int .i64 0)), none⟩]
def f56_r2 : List LOp := [
  ⟨some 9, .binOp .lss 3 (.tmp 8) (.tmp 7) 3, none⟩]
def f56_r3 : List LOp := [
  ⟨some 10, .move (.tmp 8), none⟩,
  ⟨some 5, .assign (.tmp 10), none⟩]
def f56_r4 : List LOp := [
  ⟨some 11, .move (.tmp 1), none⟩,
  ⟨some 12, .move (.tmp 0), none⟩,
  ⟨some 13, .move (.tmp 5), none⟩,
  ⟨some 14, .indexAddr 35 (.tmp 12) (.tmp 13), none⟩,
  ⟨some 15, .load 37 (.tmp 14), none⟩,
  ⟨some 16, .call { callee := .value (.tmp 11), args := #[.tmp 15], argTypes := #[37] }, none⟩]
def f56_r5 : List LOp := [
  ⟨some 17, .move (.tmp 5), none⟩,
  ⟨some 4, .assign (.tmp 17), none⟩]
def f56_r6 : List LOp := [
  ⟨some 18, .binOp .add 3 (.tmp 8) (.const (.int .i64 1)) 3, none⟩,
  ⟨some 8, .move (.tmp 18), none⟩]
def f56_l7 : LC := (.seq (.reg f56_r2 [] none) (.seq (.cond (.tmp 9) .skip (.exit 0)) (.seq (.block 1 (.seq (.reg f56_r3 [] none) (.seq (.reg f56_r4 [] none) (.cond (.tmp 16) (.seq (.reg f56_r5 [] none) .ret) .skip)))) (.reg f56_r6 [] none))))
def f56_i7 (t0 t1 t7 t8 : D) : List D := [t0, t1, .any, .any, .any, .any, .any, t7, t8, .any, .any, .any, .any, .any, .any, .any, .any, .any, .any]
def f56_r8 : List LOp := [
  ⟨some 4, .assign (.const (.int .i64 (-1))), none⟩]
def f56_c : LC := (.seq (.reg f56_r0 [] none) (.seq (.seq (.reg f56_r1 [] none) (.block 0 (.loop f56_l7))) (.seq (.reg f56_r8 [] none) .ret)))
theorem f56_lc : Tryd.f56.body.map lc = some f56_c.st := by kernel_rfl
theorem f56_res : Tryd.f56.results.toList = [.tmp 4] := by kernel_rfl
theorem f56_nt : Tryd.f56.ntmps = 19 := by kernel_rfl
theorem f56_nm : (Tryd.f56.name == "runtime.NumGoroutine") = false := by kernel_rfl
/-! quill/rex.node -/
def f57_r0 : List LOp := [
  ⟨some 1, .box 37 (.tmp 0), none⟩,
  ⟨some 2, .assign (.const (.bool false)), none⟩]
def f57_r1 : List LOp := [
  ⟨some 5, .fieldAddr 37 (.tmp 1) 2, none⟩,
  ⟨some 6, .load 35 (.tmp 5), none⟩,
  ⟨some 7, .call { callee := .builtin .len, args := #[.tmp 6], argTypes := #[35] }, none⟩,
  ⟨some 8, .fieldAddr 37 (.tmp 1) 1, none⟩,
  ⟨some 9, .load 34 (.tmp 8), none⟩,
  ⟨some 10, .build 34 #[], none⟩,
  ⟨some 11, .binOp .eql 34 (.tmp 9) (.tmp 10) 34, none⟩,
  ⟨some 3, .assign (.tmp 7), none⟩,
  ⟨some 4, .assign (.tmp 11), none⟩]
def f57_r2 : List LOp := [
  ⟨some 12, .fieldAddr 37 (.tmp 1) 0, none⟩,
  ⟨some 13, .load 5 (.tmp 12), none⟩]
def f57_r3 : List LOp := [
  ⟨some 15, .binOp .eql 5 (.tmp 13) (.const (.int .u8 1)) 5, none⟩,
  ⟨some 14, .assign (.tmp 15), none⟩]
def f57_r4 : List LOp := [
  ⟨some 16, .binOp .eql 5 (.tmp 13) (.const (.int .u8 2)) 5, none⟩,
  ⟨some 14, .assign (.tmp 16), none⟩]
def f57_r5 : List LOp := [
  ⟨some 17, .move (.tmp 3), none⟩,
  ⟨some 18, .binOp .eql 3 (.tmp 17) (.const (.int .i64 0)) 3, none⟩,
  ⟨some 19, .move (.tmp 18), none⟩,
  ⟨some 20, .move (.tmp 4), some (2, true)⟩,
  ⟨some 21, .pick (.tmp 19) (.tmp 20) (.const (.bool false)), none⟩,
  ⟨some 2, .assign (.tmp 21), none⟩]
def f57_r6 : List LOp := [
  ⟨some 23, .binOp .eql 5 (.tmp 13) (.const (.int .u8 3)) 5, none⟩,
  ⟨some 22, .assign (.tmp 23), none⟩]
def f57_r7 : List LOp := [
  ⟨some 24, .move (.tmp 3), none⟩,
  ⟨some 25, .binOp .eql 3 (.tmp 24) (.const (.int .i64 0)) 3, none⟩,
  ⟨some 26, .move (.tmp 25), none⟩,
  ⟨some 27, .move (.tmp 4), some (2, true)⟩,
  ⟨some 28, .unOp .not 4 (.tmp 27), some (2, true)⟩,
  ⟨some 29, .pick (.tmp 26) (.tmp 28) (.const (.bool false)), none⟩,
  ⟨some 2, .assign (.tmp 29), none⟩]
def f57_r8 : List LOp := [
  ⟨some 31, .binOp .eql 5 (.tmp 13) (.const (.int .u8 4)) 5, none⟩,
  ⟨some 30, .assign (.tmp 31), none⟩]
def f57_r9 : List LOp := [
  ⟨some 32, .binOp .eql 5 (.tmp 13) (.const (.int .u8 5)) 5, none⟩,
  ⟨some 30, .assign (.tmp 32), none⟩]
def f57_r10 : List LOp := [
  ⟨some 33, .move (.tmp 3), none⟩,
  ⟨some 34, .binOp .eql 3 (.tmp 33) (.const (.int .i64 2)) 3, none⟩,
  ⟨some 35, .move (.tmp 34), none⟩,
  ⟨some 36, .move (.tmp 4), some (2, true)⟩,
  ⟨some 37, .pick (.tmp 35) (.tmp 36) (.const (.bool false)), none⟩,
  ⟨some 2, .assign (.tmp 37), none⟩]
def f57_r11 : List LOp := [
  ⟨some 39, .binOp .eql 5 (.tmp 13) (.const (.int .u8 6)) 5, none⟩,
  ⟨some 38, .assign (.tmp 39), none⟩]
def f57_r12 : List LOp := [
  ⟨some 40, .move (.tmp 3), none⟩,
  ⟨some 41, .binOp .eql 3 (.tmp 40) (.const (.int .i64 1)) 3, none⟩,
  ⟨some 42, .move (.tmp 41), none⟩,
  ⟨some 43, .move (.tmp 4), some (2, true)⟩,
  ⟨some 44, .pick (.tmp 42) (.tmp 43) (.const (.bool false)), none⟩,
  ⟨some 2, .assign (.tmp 44), none⟩]
def f57_r13 : List LOp := [
  ⟨some 2, .assign (.const (.bool false)), none⟩]
def f57_c : LC := (.seq (.reg f57_r0 [] none) (.seq (.regp f57_r1 [] [] 8) (.seq (.seq (.reg f57_r2 [] none) (.block 0 (.seq (.seq (.reg f57_r3 [] none) (.cond (.tmp 14) .skip (.reg f57_r4 [] none))) (.cond (.tmp 14) (.seq (.reg f57_r5 [] none) .ret) (.seq (.reg f57_r6 [] none) (.cond (.tmp 22) (.seq (.reg f57_r7 [] none) .ret) (.seq (.seq (.reg f57_r8 [] none) (.cond (.tmp 30) .skip (.reg f57_r9 [] none))) (.cond (.tmp 30) (.seq (.reg f57_r10 [] none) .ret) (.seq (.reg f57_r11 [] none) (.cond (.tmp 38) (.seq (.reg f57_r12 [] none) .ret) .skip)))))))))) (.seq (.reg f57_r13 [] none) .ret))))
theorem f57_lc : Tryd.f57.body.map lc = some f57_c.st := by kernel_rfl
theorem f57_res : Tryd.f57.results.toList = [.tmp 2] := by kernel_rfl
theorem f57_nt : Tryd.f57.ntmps = 45 := by kernel_rfl
theorem f57_nm : (Tryd.f57.name == "runtime.NumGoroutine") = false := by kernel_rfl
/-! quill/rex.nodes$1 -/
def f58_r0 : List LOp := [
  ⟨some 1, .box 37 (.tmp 0), none⟩,
  ⟨some 2, .assign (.const (.bool false)), none⟩]
def f58_r1 : List LOp := [
  ⟨some 3, .load 37 (.tmp 1), none⟩,
  ⟨some 4, .call { callee := .value (.func 45), args := #[.tmp 3], argTypes := #[37] }, none⟩,
  ⟨some 5, .unOp .not 4 (.tmp 4), none⟩,
  ⟨some 2, .assign (.tmp 5), none⟩]
def f58_c : LC := (.seq (.reg f58_r0 [] none) (.seq (.reg f58_r1 [] none) .ret))
theorem f58_lc : Tryd.f58.body.map lc = some f58_c.st := by kernel_rfl
theorem f58_res : Tryd.f58.results.toList = [.tmp 2] := by kernel_rfl
theorem f58_nt : Tryd.f58.ntmps = 6 := by kernel_rfl
theorem f58_nm : (Tryd.f58.name == "runtime.NumGoroutine") = false := by kernel_rfl
/-! slices.Index[[]uint8,uint8] -/
def f59_r0 : List LOp := [
  ⟨some 4, .assign (.const (.int .i64 0)), none⟩]
def f59_r1 : List LOp := [
  ⟨some 6, .move (.tmp 0), none⟩,
  ⟨some 7, .call { callee := .builtin .len, args := #[.tmp 6], argTypes := #[22] }, none⟩,
  ⟨some 8, .move (.const (.int .i64 0)), none⟩]
def f59_r2 : List LOp := [
  ⟨some 9, .binOp .lss 3 (.tmp 8) (.tmp 7) 3, none⟩]
def f59_r3 : List LOp := [
  ⟨some 10, .move (.tmp 8), none⟩,
  ⟨some 5, .assign (.tmp 10), none⟩]
def f59_r4 : List LOp := [
  ⟨some 11, .move (.tmp 1), none⟩,
  ⟨some 12, .move (.tmp 0), none⟩,
  ⟨some 13, .move (.tmp 5), none⟩,
  ⟨some 14, .indexAddr 22 (.tmp 12) (.tmp 13), none⟩,
  ⟨some 15, .load 5 (.tmp 14), none⟩,
  ⟨some 16, .binOp .eql 5 (.tmp 11) (.tmp 15) 5, none⟩]
def f59_r5 : List LOp := [
  ⟨some 17, .move (.tmp 5), none⟩,
  ⟨some 4, .assign (.tmp 17), none⟩]
def f59_r6 : List LOp := [
  ⟨some 18, .binOp .add 3 (.tmp 8) (.const (.int .i64 1)) 3, none⟩,
  ⟨some 8, .move (.tmp 18), none⟩]
def f59_l7 : LC := (.seq (.reg f59_r2 [] none) (.seq (.cond (.tmp 9) .skip (.exit 0)) (.seq (.block 1 (.seq (.reg f59_r3 [] none) (.seq (.reg f59_r4 [] none) (.cond (.tmp 16) (.seq (.reg f59_r5 [] none) .ret) .skip)))) (.reg f59_r6 [] none))))
def f59_i7 (t0 t1 t7 t8 : D) : List D := [t0, t1, .any, .any, .any, .any, .any, t7, t8, .any, .any, .any, .any, .any, .any, .any, .any, .any, .any]
def f59_r8 : List LOp := [
  ⟨some 4, .assign (.const (.int .i64 (-1))), none⟩]
def f59_c : LC := (.seq (.reg f59_r0 [] none) (.seq (.seq (.reg f59_r1 [] none) (.block 0 (.loop f59_l7))) (.seq (.reg f59_r8 [] none) .ret)))
theorem f59_lc : Tryd.f59.body.map lc = some f59_c.st := by kernel_rfl
theorem f59_res : Tryd.f59.results.toList = [.tmp 4] := by kernel_rfl
theorem f59_nt : Tryd.f59.ntmps = 19 := by kernel_rfl
theorem f59_nm : (Tryd.f59.name == "runtime.NumGoroutine") = false := by kernel_rfl
/-! quill/set.Bytes -/
def f60_r0 : List LOp := [
  ⟨some 1, .box 34 (.tmp 0), none⟩,
  ⟨some 2, .assign (.const (.slice none 0 0)), none⟩]
def f60_r1 : List LOp := [
  ⟨some 3, .assign (.const (.slice none 0 0)), none⟩]
def f60_r2 : List LOp := [
  ⟨some 6, .load 34 (.tmp 1), none⟩,
  ⟨some 7, .move (.const (.int .i64 0)), none⟩]
def f60_r3 : List LOp := [
  ⟨some 8, .binOp .lss 3 (.tmp 7) (.const (.int .i64 4)) 3, none⟩]
def f60_r4 : List LOp := [
  ⟨some 9, .move (.tmp 7), none⟩,
  ⟨some 10, .index 34 (.tmp 6) (.tmp 7), none⟩,
  ⟨some 4, .assign (.tmp 9), none⟩,
  ⟨some 5, .assign (.tmp 10), none⟩]
def f60_r5 : List LOp := [
  ⟨some 11, .move (.tmp 5), none⟩,
  ⟨some 12, .binOp .neq 32 (.tmp 11) (.const (.int .u64 0)) 32, none⟩]
def f60_r6 : List LOp := [
  ⟨some 17, .move (.tmp 3), none⟩,
  ⟨some 18, .move (.tmp 4), none⟩,
  ⟨some 19, .binOp .mul 3 (.const (.int .i64 64)) (.tmp 18) 3, none⟩,
  ⟨some 20, .move (.tmp 5), none⟩,
  ⟨some 21, .call { callee := .value (.func 68), args := #[.tmp 20], argTypes := #[32] }, none⟩,
  ⟨some 22, .binOp .add 3 (.tmp 19) (.tmp 21) 3, none⟩,
  ⟨some 23, .convert 3 5 (.tmp 22), none⟩,
  ⟨some 24, .buildSlice 22 1 #[(0, .tmp 23)], none⟩,
  ⟨some 25, .call { callee := .builtin .append, args := #[.tmp 17, .tmp 24], argTypes := #[22, 22] }, none⟩,
  ⟨some 3, .assign (.tmp 25), none⟩]
def f60_r7 : List LOp := [
  ⟨some 13, .move (.tmp 5), none⟩,
  ⟨some 14, .move (.tmp 5), none⟩,
  ⟨some 15, .binOp .sub 32 (.tmp 14) (.const (.int .u64 1)) 32, none⟩,
  ⟨some 16, .binOp .and 32 (.tmp 13) (.tmp 15) 32, none⟩,
  ⟨some 5, .assign (.tmp 16), none⟩]
def f60_l8 : LC := (.seq (.seq (.reg f60_r5 [] none) (.cond (.tmp 12) .skip (.exit 2))) (.seq (.block 3 (.reg f60_r6 [] none)) (.reg f60_r7 [] none)))
def f60_i8 (t3 t4 t5 t6 t7 : D) : List D := [.any, .any, .any, t3, t4, t5, t6, t7, .any, .any, .any, .any, .any, .any, .any, .any, .any, .any, .any, .any, .any, .any, .any, .any, .any, .any, .any, .any]
def f60_r9 : List LOp := [
  ⟨some 26, .binOp .add 3 (.tmp 7) (.const (.int .i64 1)) 3, none⟩,
  ⟨some 7, .move (.tmp 26), none⟩]
def f60_l10 : LC := (.seq (.reg f60_r3 [] none) (.seq (.cond (.tmp 8) .skip (.exit 0)) (.seq (.block 1 (.seq (.reg f60_r4 [] none) (.block 2 (.loop f60_l8)))) (.reg f60_r9 [] none))))
def f60_i10 (t3 t6 t7 : D) : List D := [.any, .any, .any, t3, .any, .any, t6, t7, .any, .any, .any, .any, .any, .any, .any, .any, .any, .any, .any, .any, .any, .any, .any, .any, .any, .any, .any, .any]
def f60_r11 : List LOp := [
  ⟨some 27, .move (.tmp 3), none⟩,
  ⟨some 2, .assign (.tmp 27), none⟩]
def f60_c : LC := (.seq (.reg f60_r0 [] none) (.seq (.reg f60_r1 [] none) (.seq (.seq (.reg f60_r2 [] none) (.block 0 (.loop f60_l10))) (.seq (.reg f60_r11 [] none) .ret))))
theorem f60_lc : Tryd.f60.body.map lc = some f60_c.st := by kernel_rfl
theorem f60_res : Tryd.f60.results.toList = [.tmp 2] := by kernel_rfl
theorem f60_nt : Tryd.f60.ntmps = 28 := by kernel_rfl
theorem f60_nm : (Tryd.f60.name == "runtime.NumGoroutine") = false := by kernel_rfl
/-! quill/set.all -/
def f61_r0 : List LOp := [
  ⟨some 0, .alloc 34, none⟩]
def f61_r1 : List LOp := [
  ⟨some 1, .build 34 #[(0, .const (.int .u64 18446744073709551615)), (1, .const (.int .u64 18446744073709551615)), (2, .const (.int .u64 18446744073709551615)), (3, .const (.int .u64 18446744073709551615))], none⟩,
  ⟨none, .store 34 (.tmp 0) (.tmp 1), none⟩]
def f61_c : LC := (.seq (.reg f61_r0 [] none) (.seq (.reg f61_r1 [] none) .ret))
theorem f61_lc : Tryd.f61.body.map lc = some f61_c.st := by kernel_rfl
theorem f61_res : Tryd.f61.results.toList = [.cell 0 34] := by kernel_rfl
theorem f61_nt : Tryd.f61.ntmps = 2 := by kernel_rfl
theorem f61_nm : (Tryd.f61.name == "runtime.NumGoroutine") = false := by kernel_rfl
/-! quill/set.Sign -/
def f62_r0 : List LOp := [
  ⟨some 2, .assign (.const (.string { data := #[] })), none⟩]
def f62_r1 : List LOp := [
  ⟨some 3, .move (.tmp 0), none⟩,
  ⟨some 4, .binOp .lss 5 (.tmp 3) (.const (.int .u8 33)) 5, none⟩,
  ⟨some 5, .move (.tmp 4), none⟩,
  ⟨some 6, .move (.tmp 0), some (2, false)⟩,
  ⟨some 7, .binOp .gtr 5 (.tmp 6) (.const (.int .u8 126)) 5, some (2, false)⟩,
  ⟨some 8, .pick (.tmp 5) (.const (.bool true)) (.tmp 7), none⟩,
  ⟨some 9, .move (.tmp 8), none⟩,
  ⟨some 10, .move (.tmp 0), some (6, false)⟩,
  ⟨some 11, .call { callee := .value (.func 16), args := #[.const (.string { data := #[92, 124, 42, 40, 41, 91, 93, 46, 45] }), .tmp 10], argTypes := #[9, 5] }, some (6, false)⟩,
  ⟨some 12, .binOp .geq 3 (.tmp 11) (.const (.int .i64 0)) 3, some (6, false)⟩,
  ⟨some 13, .pick (.tmp 9) (.const (.bool true)) (.tmp 12), none⟩]
def f62_r2 : List LOp := [
  ⟨some 14, .move (.tmp 0), none⟩,
  ⟨some 15, .buildSlice 22 1 #[(0, .tmp 14)], none⟩,
  ⟨some 16, .call { callee := .value (.func 69), args := #[.tmp 15], argTypes := #[22] }, none⟩,
  ⟨some 17, .binOp .add 9 (.const (.string { data := #[92] })) (.tmp 16) 9, none⟩,
  ⟨some 2, .assign (.tmp 17), none⟩]
def f62_r3 : List LOp := [
  ⟨some 18, .move (.tmp 0), none⟩,
  ⟨some 19, .buildSlice 22 1 #[(0, .tmp 18)], none⟩,
  ⟨some 20, .convert 22 9 (.tmp 19), none⟩,
  ⟨some 2, .assign (.tmp 20), none⟩]
def f62_c : LC := (.seq (.reg f62_r0 [] none) (.seq (.seq (.reg f62_r1 [] none) (.cond (.tmp 13) (.seq (.reg f62_r2 [] none) .ret) .skip)) (.seq (.reg f62_r3 [] none) .ret)))
theorem f62_lc : Tryd.f62.body.map lc = some f62_c.st := by kernel_rfl
theorem f62_res : Tryd.f62.results.toList = [.tmp 2] := by kernel_rfl
theorem f62_nt : Tryd.f62.ntmps = 21 := by kernel_rfl
theorem f62_nm : (Tryd.f62.name == "runtime.NumGoroutine") = false := by kernel_rfl
/-! (*quill/read.reader).part -/
def f64_r0 : List LOp := [
  ⟨some 2, .alloc 37, none⟩]
def f64_r1 : List LOp := [
  ⟨some 4, .move (.tmp 0), none⟩,
  ⟨some 5, .call { callee := .value (.func 70), args := #[.tmp 4], argTypes := #[76] }, none⟩,
  ⟨some 3, .alloc 37, none⟩,
  ⟨none, .store 37 (.tmp 3) (.tmp 5), none⟩]
def f64_r2 : List LOp := [
  ⟨some 6, .move (.tmp 0), none⟩,
  ⟨some 7, .call { callee := .value (.func 54), args := #[.tmp 6, .const (.string { data := #[42] })], argTypes := #[76, 9] }, none⟩]
def f64_r3 : List LOp := [
  ⟨some 8, .move (.tmp 0), none⟩,
  ⟨some 9, .nilCheck (.tmp 8), none⟩,
  ⟨some 10, .fieldAddr 78 (.tmp 9) 1, none⟩,
  ⟨some 11, .load 3 (.tmp 10), none⟩,
  ⟨some 12, .binOp .add 3 (.tmp 11) (.const (.int .i64 1)) 3, none⟩,
  ⟨some 13, .nilCheck (.tmp 8), none⟩,
  ⟨some 14, .fieldAddr 78 (.tmp 13) 1, none⟩,
  ⟨none, .store 3 (.tmp 14) (.tmp 12), none⟩]
def f64_r4 : List LOp := [
  ⟨some 15, .load 37 (.tmp 3), none⟩,
  ⟨some 16, .call { callee := .value (.func 71), args := #[.tmp 15], argTypes := #[37] }, none⟩,
  ⟨none, .store 37 (.tmp 3) (.tmp 16), none⟩]
def f64_l5 : LC := (.seq (.seq (.reg f64_r2 [] none) (.cond (.tmp 7) .skip (.exit 0))) (.block 1 (.seq (.reg f64_r3 [] none) (.reg f64_r4 [] none))))
def f64_i5 (t0 t2 t3 : D) : List D := [t0, .any, t2, t3, .any, .any, .any, .any, .any, .any, .any, .any, .any, .any, .any, .any, .any, .any]
def f64_r6 : List LOp := [
  ⟨some 17, .load 37 (.tmp 3), none⟩,
  ⟨none, .store 37 (.tmp 2) (.tmp 17), none⟩]
def f64_c : LC := (.seq (.reg f64_r0 [] none) (.seq (.reg f64_r1 [] none) (.seq (.block 0 (.loop f64_l5)) (.seq (.reg f64_r6 [] none) .ret))))
theorem f64_lc : Tryd.f64.body.map lc = some f64_c.st := by kernel_rfl
theorem f64_res : Tryd.f64.results.toList = [.cell 2 37] := by kernel_rfl
theorem f64_nt : Tryd.f64.ntmps = 18 := by kernel_rfl
theorem f64_nm : (Tryd.f64.name == "runtime.NumGoroutine") = false := by kernel_rfl
/-! (*quill/read.reader).begins -/
def f65_r0 : List LOp := [
  ⟨some 2, .assign (.const (.bool false)), none⟩]
def f65_r1 : List LOp := [
  ⟨some 3, .move (.tmp 0), none⟩,
  ⟨some 4, .call { callee := .value (.func 54), args := #[.tmp 3, .const (.string { data := #[92] })], argTypes := #[76, 9] }, none⟩,
  ⟨some 5, .move (.tmp 4), none⟩,
  ⟨some 6, .move (.tmp 0), some (2, false)⟩,
  ⟨some 7, .nilCheck (.tmp 6), some (2, false)⟩,
  ⟨some 8, .fieldAddr 78 (.tmp 7) 1, some (2, false)⟩,
  ⟨some 9, .load 3 (.tmp 8), some (2, false)⟩,
  ⟨some 10, .move (.tmp 0), some (2, false)⟩,
  ⟨some 11, .nilCheck (.tmp 10), some (2, false)⟩,
  ⟨some 12, .fieldAddr 78 (.tmp 11) 0, some (2, false)⟩,
  ⟨some 13, .load 9 (.tmp 12), some (2, false)⟩,
  ⟨some 14, .call { callee := .builtin .len, args := #[.tmp 13], argTypes := #[9] }, some (2, false)⟩,
  ⟨some 15, .binOp .lss 3 (.tmp 9) (.tmp 14) 3, some (2, false)⟩,
  ⟨some 16, .move (.tmp 15), some (2, false)⟩,
  ⟨some 17, .move (.tmp 0), some (13, true)⟩,
  ⟨some 18, .nilCheck (.tmp 17), some (13, true)⟩,
  ⟨some 19, .fieldAddr 78 (.tmp 18) 0, some (13, true)⟩,
  ⟨some 20, .load 9 (.tmp 19), some (13, true)⟩,
  ⟨some 21, .move (.tmp 0), some (13, true)⟩,
  ⟨some 22, .nilCheck (.tmp 21), some (13, true)⟩,
  ⟨some 23, .fieldAddr 78 (.tmp 22) 1, some (13, true)⟩,
  ⟨some 24, .load 3 (.tmp 23), some (13, true)⟩,
  ⟨some 25, .index 9 (.tmp 20) (.tmp 24), some (13, true)⟩,
  ⟨some 26, .call { callee := .value (.func 62), args := #[.tmp 25], argTypes := #[5] }, some (13, true)⟩,
  ⟨some 27, .move (.tmp 0), some (13, true)⟩,
  ⟨some 28, .nilCheck (.tmp 27), some (13, true)⟩,
  ⟨some 29, .fieldAddr 78 (.tmp 28) 0, some (13, true)⟩,
  ⟨some 30, .load 9 (.tmp 29), some (13, true)⟩,
  ⟨some 31, .move (.tmp 0), some (13, true)⟩,
  ⟨some 32, .nilCheck (.tmp 31), some (13, true)⟩,
  ⟨some 33, .fieldAddr 78 (.tmp 32) 1, some (13, true)⟩,
  ⟨some 34, .load 3 (.tmp 33), some (13, true)⟩,
  ⟨some 35, .move (.tmp 0), some (13, true)⟩,
  ⟨some 36, .nilCheck (.tmp 35), some (13, true)⟩,
  ⟨some 37, .fieldAddr 78 (.tmp 36) 1, some (13, true)⟩,
  ⟨some 38, .load 3 (.tmp 37), some (13, true)⟩,
  ⟨some 39, .binOp .add 3 (.tmp 38) (.const (.int .i64 1)) 3, some (13, true)⟩,
  ⟨some 40, .slice 9 (.tmp 30) (some (.tmp 34)) (some (.tmp 39)) none, some (13, true)⟩,
  ⟨some 41, .binOp .eql 9 (.tmp 26) (.tmp 40) 9, some (13, true)⟩,
  ⟨some 42, .pick (.tmp 16) (.tmp 41) (.const (.bool false)), some (2, false)⟩,
  ⟨some 43, .pick (.tmp 5) (.const (.bool true)) (.tmp 42), none⟩,
  ⟨some 2, .assign (.tmp 43), none⟩]
def f65_c : LC := (.seq (.reg f65_r0 [] none) (.seq (.reg f65_r1 [] (some 41)) .ret))
theorem f65_lc : Tryd.f65.body.map lc = some f65_c.st := by kernel_rfl
theorem f65_res : Tryd.f65.results.toList = [.tmp 2] := by kernel_rfl
theorem f65_nt : Tryd.f65.ntmps = 44 := by kernel_rfl
theorem f65_nm : (Tryd.f65.name == "runtime.NumGoroutine") = false := by kernel_rfl
/-! quill/rex.Then -/
def f66_r0 : List LOp := [
  ⟨some 2, .alloc 37, none⟩]
def f66_r1 : List LOp := [
  ⟨some 3, .move (.tmp 0), none⟩,
  ⟨some 4, .call { callee := .value (.func 67), args := #[.const (.int .u8 4), .const (.int .u8 2), .tmp 3], argTypes := #[5, 5, 35] }, none⟩,
  ⟨none, .store 37 (.tmp 2) (.tmp 4), none⟩]
def f66_c : LC := (.seq (.reg f66_r0 [] none) (.seq (.reg f66_r1 [] none) .ret))
theorem f66_lc : Tryd.f66.body.map lc = some f66_c.st := by kernel_rfl
theorem f66_res : Tryd.f66.results.toList = [.cell 2 37] := by kernel_rfl
theorem f66_nt : Tryd.f66.ntmps = 5 := by kernel_rfl
theorem f66_nm : (Tryd.f66.name == "runtime.NumGoroutine") = false := by kernel_rfl
/-! quill/rex.fold -/
def f67_r0 : List LOp := [
  ⟨some 3, .box 5 (.tmp 0), none⟩,
  ⟨some 6, .alloc 37, none⟩]
def f67_r1 : List LOp := [
  ⟨some 10, .move (.tmp 2), none⟩,
  ⟨some 11, .call { callee := .builtin .len, args := #[.tmp 10], argTypes := #[35] }, none⟩,
  ⟨some 12, .binOp .eql 3 (.tmp 11) (.const (.int .i64 0)) 3, none⟩]
def f67_r2 : List LOp := [
  ⟨some 13, .move (.tmp 1), none⟩,
  ⟨some 14, .build 37 #[(0, .tmp 13)], none⟩,
  ⟨none, .store 37 (.tmp 6) (.tmp 14), none⟩]
def f67_r3 : List LOp := [
  ⟨some 15, .move (.tmp 2), none⟩,
  ⟨some 16, .move (.tmp 2), none⟩,
  ⟨some 17, .call { callee := .builtin .len, args := #[.tmp 16], argTypes := #[35] }, none⟩,
  ⟨some 18, .binOp .sub 3 (.tmp 17) (.const (.int .i64 1)) 3, none⟩,
  ⟨some 19, .indexAddr 35 (.tmp 15) (.tmp 18), none⟩,
  ⟨some 20, .load 37 (.tmp 19), none⟩,
  ⟨some 7, .alloc 37, none⟩,
  ⟨none, .store 37 (.tmp 7) (.tmp 20), none⟩]
def f67_r4 : List LOp := [
  ⟨some 21, .move (.tmp 2), none⟩,
  ⟨some 22, .move (.tmp 2), none⟩,
  ⟨some 23, .call { callee := .builtin .len, args := #[.tmp 22], argTypes := #[35] }, none⟩,
  ⟨some 24, .binOp .sub 3 (.tmp 23) (.const (.int .i64 1)) 3, none⟩,
  ⟨some 25, .slice 35 (.tmp 21) none (some (.tmp 24)) none, none⟩,
  ⟨some 26, .call { callee := .value (.func 72), args := #[.tmp 25], argTypes := #[35] }, none⟩]
def f67_r5 : List LOp := [
  ⟨some 9, .alloc 37, none⟩,
  ⟨none, .store 37 (.tmp 9) (.tmp 28), none⟩]
def f67_r6 : List LOp := [
  ⟨some 29, .load 5 (.tmp 3), none⟩,
  ⟨some 30, .load 37 (.tmp 9), none⟩,
  ⟨some 31, .load 37 (.tmp 7), none⟩,
  ⟨some 32, .buildSlice 35 2 #[(0, .tmp 30), (1, .tmp 31)], none⟩,
  ⟨some 33, .build 37 #[(0, .tmp 29), (2, .tmp 32)], none⟩,
  ⟨none, .store 37 (.tmp 7) (.tmp 33), none⟩]
def f67_a7 : LC := (.reg f67_r5 [] none)
def f67_b7 : LC := (.block 1 (.reg f67_r6 [] none))
def f67_r8 : List LOp := [
  ⟨some 34, .load 37 (.tmp 7), none⟩,
  ⟨none, .store 37 (.tmp 6) (.tmp 34), none⟩]
def f67_c : LC := (.seq (.reg f67_r0 [] none) (.seq (.seq (.reg f67_r1 [] none) (.cond (.tmp 12) (.seq (.reg f67_r2 [] none) .ret) .skip)) (.seq (.reg f67_r3 [] none) (.seq (.seq (.reg f67_r4 [] none) (.block 0 (.rfun (.tmp 26) [27, 28] f67_a7 f67_b7))) (.seq (.reg f67_r8 [] none) .ret)))))
theorem f67_lc : Tryd.f67.body.map lc = some f67_c.st := by kernel_rfl
theorem f67_res : Tryd.f67.results.toList = [.cell 6 37] := by kernel_rfl
theorem f67_nt : Tryd.f67.ntmps = 35 := by kernel_rfl
theorem f67_nm : (Tryd.f67.name == "runtime.NumGoroutine") = false := by kernel_rfl
/-! math/bits.TrailingZeros64 -/
def f68_r0 : List LOp := [
  ⟨some 2, .assign (.const (.int .i64 0)), none⟩]
def f68_r1 : List LOp := [
  ⟨some 3, .move (.tmp 0), none⟩,
  ⟨some 4, .binOp .eql 32 (.tmp 3) (.const (.int .u64 0)) 32, none⟩]
def f68_r2 : List LOp := [
  ⟨some 2, .assign (.const (.int .i64 64)), none⟩]
def f68_r3 : List LOp := [
  ⟨some 5, .move (.tmp 0), none⟩,
  ⟨some 6, .move (.tmp 0), none⟩,
  ⟨some 7, .unOp .neg 32 (.tmp 6), none⟩,
  ⟨some 8, .binOp .and 32 (.tmp 5) (.tmp 7) 32, none⟩,
  ⟨some 9, .binOp .mul 32 (.tmp 8) (.const (.int .u64 285870213051353865)) 32, none⟩,
  ⟨some 10, .binOp .shr 32 (.tmp 9) (.const (.int .u64 58)) 99, none⟩,
  ⟨some 11, .indexAddr 116 (.global 1) (.tmp 10), none⟩,
  ⟨some 12, .load 5 (.tmp 11), none⟩,
  ⟨some 13, .convert 5 3 (.tmp 12), none⟩,
  ⟨some 2, .assign (.tmp 13), none⟩]
def f68_c : LC := (.seq (.reg f68_r0 [] none) (.seq (.seq (.reg f68_r1 [] none) (.cond (.tmp 4) (.seq (.reg f68_r2 [] none) .ret) .skip)) (.seq (.reg f68_r3 [] none) .ret)))
theorem f68_lc : Tryd.f68.body.map lc = some f68_c.st := by kernel_rfl
theorem f68_res : Tryd.f68.results.toList = [.tmp 2] := by kernel_rfl
theorem f68_nt : Tryd.f68.ntmps = 14 := by kernel_rfl
theorem f68_nm : (Tryd.f68.name == "runtime.NumGoroutine") = false := by kernel_rfl
/-! quill/num.Hex -/
def f69_r0 : List LOp := [
  ⟨some 2, .assign (.const (.string { data := #[] })), none⟩]
def f69_r1 : List LOp := [
  ⟨some 6, .move (.tmp 0), none⟩,
  ⟨some 7, .call { callee := .builtin .len, args := #[.tmp 6], argTypes := #[22] }, none⟩,
  ⟨some 8, .binOp .mul 3 (.const (.int .i64 2)) (.tmp 7) 3, none⟩,
  ⟨some 9, .makeSlice 22 (.const (.int .i64 0)) (.tmp 8), none⟩,
  ⟨some 3, .assign (.tmp 9), none⟩]
def f69_r2 : List LOp := [
  ⟨some 10, .move (.tmp 0), none⟩,
  ⟨some 11, .call { callee := .builtin .len, args := #[.tmp 10], argTypes := #[22] }, none⟩,
  ⟨some 12, .move (.const (.int .i64 0)), none⟩]
def f69_r3 : List LOp := [
  ⟨some 13, .binOp .lss 3 (.tmp 12) (.tmp 11) 3, none⟩]
def f69_r4 : List LOp := [
  ⟨some 14, .indexAddr 22 (.tmp 10) (.tmp 12), none⟩,
  ⟨some 15, .load 5 (.tmp 14), none⟩,
  ⟨some 5, .assign (.tmp 15), none⟩]
def f69_r5 : List LOp := [
  ⟨some 16, .move (.tmp 3), none⟩,
  ⟨some 17, .move (.tmp 5), none⟩,
  ⟨some 18, .binOp .shr 5 (.tmp 17) (.const (.int .u64 4)) 99, none⟩,
  ⟨some 19, .call { callee := .value (.func 73), args := #[.tmp 18], argTypes := #[5] }, none⟩,
  ⟨some 20, .move (.tmp 5), none⟩,
  ⟨some 21, .call { callee := .value (.func 73), args := #[.tmp 20], argTypes := #[5] }, none⟩,
  ⟨some 22, .buildSlice 22 2 #[(0, .tmp 19), (1, .tmp 21)], none⟩,
  ⟨some 23, .call { callee := .builtin .append, args := #[.tmp 16, .tmp 22], argTypes := #[22, 22] }, none⟩,
  ⟨some 3, .assign (.tmp 23), none⟩]
def f69_r6 : List LOp := [
  ⟨some 24, .binOp .add 3 (.tmp 12) (.const (.int .i64 1)) 3, none⟩,
  ⟨some 12, .move (.tmp 24), none⟩]
def f69_l7 : LC := (.seq (.reg f69_r3 [] none) (.seq (.cond (.tmp 13) .skip (.exit 0)) (.seq (.block 1 (.seq (.reg f69_r4 [] none) (.reg f69_r5 [] none))) (.reg f69_r6 [] none))))
def f69_i7 (t3 t10 t11 t12 : D) : List D := [.any, .any, .any, t3, .any, .any, .any, .any, .any, .any, t10, t11, t12, .any, .any, .any, .any, .any, .any, .any, .any, .any, .any, .any, .any, .any, .any]
def f69_r8 : List LOp := [
  ⟨some 25, .move (.tmp 3), none⟩,
  ⟨some 26, .convert 22 9 (.tmp 25), none⟩,
  ⟨some 2, .assign (.tmp 26), none⟩]
def f69_c : LC := (.seq (.reg f69_r0 [] none) (.seq (.reg f69_r1 [3] none) (.seq (.seq (.reg f69_r2 [] none) (.block 0 (.loop f69_l7))) (.seq (.reg f69_r8 [] none) .ret))))
theorem f69_lc : Tryd.f69.body.map lc = some f69_c.st := by kernel_rfl
theorem f69_res : Tryd.f69.results.toList = [.tmp 2] := by kernel_rfl
theorem f69_nt : Tryd.f69.ntmps = 27 := by kernel_rfl
theorem f69_nm : (Tryd.f69.name == "runtime.NumGoroutine") = false := by kernel_rfl
/-! (*quill/read.reader).atom -/
def f70_r0 : List LOp := [
  ⟨some 2, .alloc 37, none⟩]
def f70_r1 : List LOp := [
  ⟨some 5, .move (.tmp 0), none⟩,
  ⟨some 6, .call { callee := .value (.func 54), args := #[.tmp 5, .const (.string { data := #[46] })], argTypes := #[76, 9] }, none⟩,
  ⟨some 4, .assign (.tmp 6), none⟩]
def f70_r2 : List LOp := [
  ⟨some 7, .move (.tmp 0), none⟩,
  ⟨some 8, .nilCheck (.tmp 7), none⟩,
  ⟨some 9, .fieldAddr 78 (.tmp 8) 1, none⟩,
  ⟨some 10, .load 3 (.tmp 9), none⟩,
  ⟨some 11, .binOp .add 3 (.tmp 10) (.const (.int .i64 1)) 3, none⟩,
  ⟨some 12, .nilCheck (.tmp 7), none⟩,
  ⟨some 13, .fieldAddr 78 (.tmp 12) 1, none⟩,
  ⟨none, .store 3 (.tmp 13) (.tmp 11), none⟩]
def f70_r3 : List LOp := [
  ⟨some 14, .call { callee := .value (.func 75), args := #[.const (.int .u8 0), .const (.int .u8 255)], argTypes := #[5, 5] }, none⟩,
  ⟨some 15, .call { callee := .value (.func 74), args := #[.tmp 14], argTypes := #[34] }, none⟩,
  ⟨none, .store 37 (.tmp 2) (.tmp 15), none⟩]
def f70_r4 : List LOp := [
  ⟨some 17, .move (.tmp 0), none⟩,
  ⟨some 18, .call { callee := .value (.func 54), args := #[.tmp 17, .const (.string { data := #[91] })], argTypes := #[76, 9] }, none⟩,
  ⟨some 16, .assign (.tmp 18), none⟩]
def f70_r5 : List LOp := [
  ⟨some 19, .move (.tmp 0), none⟩,
  ⟨some 20, .nilCheck (.tmp 19), none⟩,
  ⟨some 21, .fieldAddr 78 (.tmp 20) 1, none⟩,
  ⟨some 22, .load 3 (.tmp 21), none⟩,
  ⟨some 23, .binOp .add 3 (.tmp 22) (.const (.int .i64 1)) 3, none⟩,
  ⟨some 24, .nilCheck (.tmp 19), none⟩,
  ⟨some 25, .fieldAddr 78 (.tmp 24) 1, none⟩,
  ⟨none, .store 3 (.tmp 25) (.tmp 23), none⟩]
def f70_r6 : List LOp := [
  ⟨some 26, .move (.tmp 0), none⟩,
  ⟨some 27, .call { callee := .value (.func 76), args := #[.tmp 26], argTypes := #[76] }, none⟩,
  ⟨none, .store 37 (.tmp 2) (.tmp 27), none⟩]
def f70_r7 : List LOp := [
  ⟨some 29, .move (.tmp 0), none⟩,
  ⟨some 30, .call { callee := .value (.func 54), args := #[.tmp 29, .const (.string { data := #[40] })], argTypes := #[76, 9] }, none⟩,
  ⟨some 28, .assign (.tmp 30), none⟩]
def f70_r8 : List LOp := [
  ⟨some 31, .move (.tmp 0), none⟩,
  ⟨some 32, .nilCheck (.tmp 31), none⟩,
  ⟨some 33, .fieldAddr 78 (.tmp 32) 1, none⟩,
  ⟨some 34, .load 3 (.tmp 33), none⟩,
  ⟨some 35, .binOp .add 3 (.tmp 34) (.const (.int .i64 1)) 3, none⟩,
  ⟨some 36, .nilCheck (.tmp 31), none⟩,
  ⟨some 37, .fieldAddr 78 (.tmp 36) 1, none⟩,
  ⟨none, .store 3 (.tmp 37) (.tmp 35), none⟩]
def f70_r9 : List LOp := [
  ⟨some 38, .move (.tmp 0), none⟩,
  ⟨some 39, .call { callee := .value (.func 54), args := #[.tmp 38, .const (.string { data := #[41] })], argTypes := #[76, 9] }, none⟩]
def f70_r10 : List LOp := [
  ⟨some 40, .move (.tmp 0), none⟩,
  ⟨some 41, .nilCheck (.tmp 40), none⟩,
  ⟨some 42, .fieldAddr 78 (.tmp 41) 1, none⟩,
  ⟨some 43, .load 3 (.tmp 42), none⟩,
  ⟨some 44, .binOp .add 3 (.tmp 43) (.const (.int .i64 1)) 3, none⟩,
  ⟨some 45, .nilCheck (.tmp 40), none⟩,
  ⟨some 46, .fieldAddr 78 (.tmp 45) 1, none⟩,
  ⟨none, .store 3 (.tmp 46) (.tmp 44), none⟩]
def f70_r11 : List LOp := [
  ⟨some 47, .call { callee := .value (.func 66), args := #[.const (.slice none 0 0)], argTypes := #[35] }, none⟩,
  ⟨none, .store 37 (.tmp 2) (.tmp 47), none⟩]
def f70_r12 : List LOp := [
  ⟨some 48, .move (.tmp 0), none⟩,
  ⟨some 49, .call { callee := .value (.func 42), args := #[.tmp 48], argTypes := #[76] }, none⟩,
  ⟨some 3, .alloc 37, none⟩,
  ⟨none, .store 37 (.tmp 3) (.tmp 49), none⟩]
def f70_r13 : List LOp := [
  ⟨some 50, .move (.tmp 0), none⟩,
  ⟨some 51, .call { callee := .value (.func 77), args := #[.tmp 50, .const (.string { data := #[41] })], argTypes := #[76, 9] }, none⟩]
def f70_r14 : List LOp := [
  ⟨some 52, .load 37 (.tmp 3), none⟩,
  ⟨none, .store 37 (.tmp 2) (.tmp 52), none⟩]
def f70_r15 : List LOp := [
  ⟨some 53, .move (.tmp 0), none⟩,
  ⟨some 54, .call { callee := .value (.func 79), args := #[.tmp 53], argTypes := #[76] }, none⟩,
  ⟨some 55, .buildSlice 22 1 #[(0, .tmp 54)], none⟩,
  ⟨some 56, .call { callee := .value (.func 78), args := #[.tmp 55], argTypes := #[22] }, none⟩,
  ⟨some 57, .call { callee := .value (.func 74), args := #[.tmp 56], argTypes := #[34] }, none⟩,
  ⟨none, .store 37 (.tmp 2) (.tmp 57), none⟩]
def f70_c : LC := (.seq (.reg f70_r0 [] none) (.seq (.block 0 (.seq (.reg f70_r1 [] none) (.cond (.tmp 4) (.seq (.reg f70_r2 [] none) (.seq (.reg f70_r3 [] none) .ret)) (.seq (.reg f70_r4 [] none) (.cond (.tmp 16) (.seq (.reg f70_r5 [] none) (.seq (.reg f70_r6 [] none) .ret)) (.seq (.reg f70_r7 [] none) (.cond (.tmp 28) (.seq (.reg f70_r8 [] none) (.seq (.seq (.reg f70_r9 [] none) (.cond (.tmp 39) (.seq (.reg f70_r10 [] none) (.seq (.reg f70_r11 [] none) .ret)) .skip)) (.seq (.reg f70_r12 [] none) (.seq (.reg f70_r13 [] none) (.seq (.reg f70_r14 [] none) .ret))))) .skip))))))) (.seq (.reg f70_r15 [] none) .ret)))
theorem f70_lc : Tryd.f70.body.map lc = some f70_c.st := by kernel_rfl
theorem f70_res : Tryd.f70.results.toList = [.cell 2 37] := by kernel_rfl
theorem f70_nt : Tryd.f70.ntmps = 58 := by kernel_rfl
theorem f70_nm : (Tryd.f70.name == "runtime.NumGoroutine") = false := by kernel_rfl
/-! quill/rex.Many -/
def f71_r0 : List LOp := [
  ⟨some 1, .box 37 (.tmp 0), none⟩,
  ⟨some 2, .alloc 37, none⟩]
def f71_r1 : List LOp := [
  ⟨some 3, .load 37 (.tmp 1), none⟩,
  ⟨some 4, .buildSlice 35 1 #[(0, .tmp 3)], none⟩,
  ⟨some 5, .build 37 #[(0, .const (.int .u8 6)), (2, .tmp 4)], none⟩,
  ⟨none, .store 37 (.tmp 2) (.tmp 5), none⟩]
def f71_c : LC := (.seq (.reg f71_r0 [] none) (.seq (.reg f71_r1 [] none) .ret))
theorem f71_lc : Tryd.f71.body.map lc = some f71_c.st := by kernel_rfl
theorem f71_res : Tryd.f71.results.toList = [.cell 2 37] := by kernel_rfl
theorem f71_nt : Tryd.f71.ntmps = 6 := by kernel_rfl
theorem f71_nm : (Tryd.f71.name == "runtime.NumGoroutine") = false := by kernel_rfl
/-! slices.Backward[[]quill/api.Re,quill/api.Re] -/
def f72_r0 : List LOp := [
  ⟨some 1, .box 35 (.tmp 0), none⟩,
  ⟨some 2, .assign (.const .nilFunc), none⟩]
def f72_r1 : List LOp := [
  ⟨some 3, .makeFunc (.func 80) #[] #[.tmp 1], none⟩,
  ⟨some 2, .assign (.tmp 3), none⟩]
def f72_c : LC := (.seq (.reg f72_r0 [] none) (.seq (.reg f72_r1 [] none) .ret))
theorem f72_lc : Tryd.f72.body.map lc = some f72_c.st := by kernel_rfl
theorem f72_res : Tryd.f72.results.toList = [.tmp 2] := by kernel_rfl
theorem f72_nt : Tryd.f72.ntmps = 4 := by kernel_rfl
theorem f72_nm : (Tryd.f72.name == "runtime.NumGoroutine") = false := by kernel_rfl
/-! quill/num.digit -/
def f73_r0 : List LOp := [
  ⟨some 2, .assign (.const (.int .u8 0)), none⟩]
def f73_r1 : List LOp := [
  ⟨some 3, .move (.tmp 0), none⟩,
  ⟨some 4, .binOp .and 5 (.tmp 3) (.const (.int .u8 15)) 5, none⟩,
  ⟨some 5, .index 9 (.const (.string { data := #[48, 49, 50, 51, 52, 53, 54, 55, 56, 57, 97, 98, 99, 100, 101, 102] })) (.tmp 4), none⟩,
  ⟨some 2, .assign (.tmp 5), none⟩]
def f73_c : LC := (.seq (.reg f73_r0 [] none) (.seq (.reg f73_r1 [] none) .ret))
theorem f73_lc : Tryd.f73.body.map lc = some f73_c.st := by kernel_rfl
theorem f73_res : Tryd.f73.results.toList = [.tmp 2] := by kernel_rfl
theorem f73_nt : Tryd.f73.ntmps = 6 := by kernel_rfl
theorem f73_nm : (Tryd.f73.name == "runtime.NumGoroutine") = false := by kernel_rfl
/-! quill/rex.Of -/
def f74_r0 : List LOp := [
  ⟨some 1, .box 34 (.tmp 0), none⟩,
  ⟨some 2, .alloc 37, none⟩]
def f74_r1 : List LOp := [
  ⟨some 3, .load 34 (.tmp 1), none⟩,
  ⟨some 4, .build 34 #[], none⟩,
  ⟨some 5, .binOp .eql 34 (.tmp 3) (.tmp 4) 34, none⟩]
def f74_r2 : List LOp := [
  ⟨some 6, .build 37 #[(0, .const (.int .u8 1))], none⟩,
  ⟨none, .store 37 (.tmp 2) (.tmp 6), none⟩]
def f74_r3 : List LOp := [
  ⟨some 7, .load 34 (.tmp 1), none⟩,
  ⟨some 8, .build 37 #[(0, .const (.int .u8 3)), (1, .tmp 7)], none⟩,
  ⟨none, .store 37 (.tmp 2) (.tmp 8), none⟩]
def f74_c : LC := (.seq (.reg f74_r0 [] none) (.seq (.seq (.reg f74_r1 [] none) (.cond (.tmp 5) (.seq (.reg f74_r2 [] none) .ret) .skip)) (.seq (.reg f74_r3 [] none) .ret)))
theorem f74_lc : Tryd.f74.body.map lc = some f74_c.st := by kernel_rfl
theorem f74_res : Tryd.f74.results.toList = [.cell 2 37] := by kernel_rfl
theorem f74_nt : Tryd.f74.ntmps = 9 := by kernel_rfl
theorem f74_nm : (Tryd.f74.name == "runtime.NumGoroutine") = false := by kernel_rfl
/-! quill/set.Range -/
def f75_r0 : List LOp := [
  ⟨some 4, .alloc 34, none⟩]
def f75_r1 : List LOp := [
  ⟨some 5, .alloc 34, none⟩]
def f75_r2 : List LOp := [
  ⟨some 7, .move (.tmp 0), none⟩,
  ⟨some 8, .convert 5 3 (.tmp 7), none⟩,
  ⟨some 6, .assign (.tmp 8), none⟩]
def f75_r3 : List LOp := [
  ⟨some 9, .move (.tmp 6), none⟩,
  ⟨some 10, .move (.tmp 1), none⟩,
  ⟨some 11, .convert 5 3 (.tmp 10), none⟩,
  ⟨some 12, .binOp .leq 3 (.tmp 9) (.tmp 11) 3, none⟩]
def f75_r4 : List LOp := [
  ⟨some 15, .move (.tmp 6), none⟩,
  ⟨some 16, .binOp .quo 3 (.tmp 15) (.const (.int .i64 64)) 3, none⟩,
  ⟨some 17, .indexAddr 34 (.tmp 5) (.tmp 16), none⟩,
  ⟨some 18, .load 32 (.tmp 17), none⟩,
  ⟨some 19, .move (.tmp 6), none⟩,
  ⟨some 20, .binOp .rem 3 (.tmp 19) (.const (.int .i64 64)) 3, none⟩,
  ⟨some 21, .binOp .shl 32 (.const (.int .u64 1)) (.tmp 20) 3, none⟩,
  ⟨some 22, .binOp .or 32 (.tmp 18) (.tmp 21) 32, none⟩,
  ⟨some 23, .indexAddr 34 (.tmp 5) (.tmp 16), none⟩,
  ⟨none, .store 32 (.tmp 23) (.tmp 22), none⟩]
def f75_r5 : List LOp := [
  ⟨some 13, .move (.tmp 6), none⟩,
  ⟨some 14, .binOp .add 3 (.tmp 13) (.const (.int .i64 1)) 3, none⟩,
  ⟨some 6, .assign (.tmp 14), none⟩]
def f75_l6 : LC := (.seq (.seq (.reg f75_r3 [] none) (.cond (.tmp 12) .skip (.exit 0))) (.seq (.block 1 (.reg f75_r4 [] (some 7))) (.reg f75_r5 [] none)))
def f75_i6 (t1 t4 t5 t6 : D) : List D := [.any, t1, .any, .any, t4, t5, t6, .any, .any, .any, .any, .any, .any, .any, .any, .any, .any, .any, .any, .any, .any, .any, .any, .any, .any]
def f75_r7 : List LOp := [
  ⟨some 24, .load 34 (.tmp 5), none⟩,
  ⟨none, .store 34 (.tmp 4) (.tmp 24), none⟩]
def f75_c : LC := (.seq (.reg f75_r0 [] none) (.seq (.reg f75_r1 [] none) (.seq (.seq (.reg f75_r2 [] none) (.block 0 (.loop f75_l6))) (.seq (.reg f75_r7 [] none) .ret))))
theorem f75_lc : Tryd.f75.body.map lc = some f75_c.st := by kernel_rfl
theorem f75_res : Tryd.f75.results.toList = [.cell 4 34] := by kernel_rfl
theorem f75_nt : Tryd.f75.ntmps = 25 := by kernel_rfl
theorem f75_nm : (Tryd.f75.name == "runtime.NumGoroutine") = false := by kernel_rfl
/-! (*quill/read.reader).class -/
def f76_r0 : List LOp := [
  ⟨some 2, .alloc 37, none⟩]
def f76_r1 : List LOp := [
  ⟨some 3, .alloc 34, none⟩]
def f76_r2 : List LOp := [
  ⟨some 7, .move (.tmp 0), none⟩,
  ⟨some 8, .call { callee := .value (.func 54), args := #[.tmp 7, .const (.string { data := #[93] })], argTypes := #[76, 9] }, none⟩,
  ⟨some 9, .unOp .not 4 (.tmp 8), none⟩]
def f76_r3 : List LOp := [
  ⟨some 10, .move (.tmp 0), none⟩,
  ⟨some 11, .call { callee := .value (.func 79), args := #[.tmp 10], argTypes := #[76] }, none⟩,
  ⟨some 4, .assign (.tmp 11), none⟩]
def f76_r4 : List LOp := [
  ⟨some 12, .move (.tmp 4), none⟩,
  ⟨some 5, .assign (.tmp 12), none⟩]
def f76_r5 : List LOp := [
  ⟨some 13, .move (.tmp 0), none⟩,
  ⟨some 14, .call { callee := .value (.func 54), args := #[.tmp 13, .const (.string { data := #[45] })], argTypes := #[76, 9] }, none⟩]
def f76_r6 : List LOp := [
  ⟨some 15, .move (.tmp 0), none⟩,
  ⟨some 16, .nilCheck (.tmp 15), none⟩,
  ⟨some 17, .fieldAddr 78 (.tmp 16) 1, none⟩,
  ⟨some 18, .load 3 (.tmp 17), none⟩,
  ⟨some 19, .binOp .add 3 (.tmp 18) (.const (.int .i64 1)) 3, none⟩,
  ⟨some 20, .nilCheck (.tmp 15), none⟩,
  ⟨some 21, .fieldAddr 78 (.tmp 20) 1, none⟩,
  ⟨none, .store 3 (.tmp 21) (.tmp 19), none⟩]
def f76_r7 : List LOp := [
  ⟨some 22, .move (.tmp 0), none⟩,
  ⟨some 23, .nilCheck (.tmp 22), none⟩,
  ⟨some 24, .fieldAddr 78 (.tmp 23) 1, none⟩,
  ⟨some 25, .load 3 (.tmp 24), none⟩,
  ⟨some 6, .assign (.tmp 25), none⟩]
def f76_r8 : List LOp := [
  ⟨some 26, .move (.tmp 0), none⟩,
  ⟨some 27, .call { callee := .value (.func 79), args := #[.tmp 26], argTypes := #[76] }, none⟩,
  ⟨some 5, .assign (.tmp 27), none⟩]
def f76_r9 : List LOp := [
  ⟨some 28, .move (.tmp 5), none⟩,
  ⟨some 29, .move (.tmp 4), none⟩,
  ⟨some 30, .binOp .lss 5 (.tmp 28) (.tmp 29) 5, none⟩]
def f76_r10 : List LOp := [
  ⟨some 31, .move (.tmp 6), none⟩,
  ⟨some 32, .build 89 #[(0, .tmp 31)], none⟩,
  ⟨some 33, .makeInterface 89 (.tmp 32), none⟩,
  ⟨none, .panic (.tmp 33), none⟩]
def f76_r11 : List LOp := [
  ⟨some 34, .load 34 (.tmp 3), none⟩,
  ⟨some 35, .move (.tmp 4), none⟩,
  ⟨some 36, .move (.tmp 5), none⟩,
  ⟨some 37, .call { callee := .value (.func 75), args := #[.tmp 35, .tmp 36], argTypes := #[5, 5] }, none⟩,
  ⟨some 38, .buildSlice 127 2 #[(0, .tmp 34), (1, .tmp 37)], none⟩,
  ⟨some 39, .call { callee := .value (.func 81), args := #[.tmp 38], argTypes := #[127] }, none⟩,
  ⟨none, .store 34 (.tmp 3) (.tmp 39), none⟩]
def f76_l12 : LC := (.seq (.seq (.reg f76_r2 [] none) (.cond (.tmp 9) .skip (.exit 0))) (.block 1 (.seq (.reg f76_r3 [] none) (.seq (.reg f76_r4 [] none) (.seq (.seq (.reg f76_r5 [] none) (.cond (.tmp 14) (.seq (.reg f76_r6 [] none) (.seq (.reg f76_r7 [] none) (.seq (.reg f76_r8 [] none) (.seq (.reg f76_r9 [] none) (.cond (.tmp 30) (.reg f76_r10 [] none) .skip))))) .skip)) (.reg f76_r11 [] (some 4)))))))
def f76_i12 (t0 t2 t3 : D) : List D := [t0, .any, t2, t3, .any, .any, .any, .any, .any, .any, .any, .any, .any, .any, .any, .any, .any, .any, .any, .any, .any, .any, .any, .any, .any, .any, .any, .any, .any, .any, .any, .any, .any, .any, .any, .any, .any, .any, .any, .any, .any, .any, .any, .any, .any, .any, .any, .any, .any]
def f76_r13 : List LOp := [
  ⟨some 40, .move (.tmp 0), none⟩,
  ⟨some 41, .nilCheck (.tmp 40), none⟩,
  ⟨some 42, .fieldAddr 78 (.tmp 41) 1, none⟩,
  ⟨some 43, .load 3 (.tmp 42), none⟩,
  ⟨some 44, .binOp .add 3 (.tmp 43) (.const (.int .i64 1)) 3, none⟩,
  ⟨some 45, .nilCheck (.tmp 40), none⟩,
  ⟨some 46, .fieldAddr 78 (.tmp 45) 1, none⟩,
  ⟨none, .store 3 (.tmp 46) (.tmp 44), none⟩]
def f76_r14 : List LOp := [
  ⟨some 47, .load 34 (.tmp 3), none⟩,
  ⟨some 48, .call { callee := .value (.func 74), args := #[.tmp 47], argTypes := #[34] }, none⟩,
  ⟨none, .store 37 (.tmp 2) (.tmp 48), none⟩]
def f76_c : LC := (.seq (.reg f76_r0 [] none) (.seq (.reg f76_r1 [] none) (.seq (.block 0 (.loop f76_l12)) (.seq (.reg f76_r13 [] none) (.seq (.reg f76_r14 [] none) .ret)))))
theorem f76_lc : Tryd.f76.body.map lc = some f76_c.st := by kernel_rfl
theorem f76_res : Tryd.f76.results.toList = [.cell 2 37] := by kernel_rfl
theorem f76_nt : Tryd.f76.ntmps = 49 := by kernel_rfl
theorem f76_nm : (Tryd.f76.name == "runtime.NumGoroutine") = false := by kernel_rfl
/-! (*quill/read.reader).eat -/
def f77_r0 : List LOp := [
  ⟨some 4, .move (.tmp 0), none⟩,
  ⟨some 5, .move (.tmp 1), none⟩,
  ⟨some 6, .call { callee := .value (.func 54), args := #[.tmp 4, .tmp 5], argTypes := #[76, 9] }, none⟩,
  ⟨some 7, .unOp .not 4 (.tmp 6), none⟩]
def f77_r1 : List LOp := [
  ⟨some 8, .move (.tmp 0), none⟩,
  ⟨some 9, .nilCheck (.tmp 8), none⟩,
  ⟨some 10, .fieldAddr 78 (.tmp 9) 1, none⟩,
  ⟨some 11, .load 3 (.tmp 10), none⟩,
  ⟨some 12, .build 89 #[(0, .tmp 11)], none⟩,
  ⟨some 13, .makeInterface 89 (.tmp 12), none⟩,
  ⟨none, .panic (.tmp 13), none⟩]
def f77_r2 : List LOp := [
  ⟨some 14, .move (.tmp 0), none⟩,
  ⟨some 15, .nilCheck (.tmp 14), none⟩,
  ⟨some 16, .fieldAddr 78 (.tmp 15) 1, none⟩,
  ⟨some 17, .load 3 (.tmp 16), none⟩,
  ⟨some 18, .binOp .add 3 (.tmp 17) (.const (.int .i64 1)) 3, none⟩,
  ⟨some 19, .nilCheck (.tmp 14), none⟩,
  ⟨some 20, .fieldAddr 78 (.tmp 19) 1, none⟩,
  ⟨none, .store 3 (.tmp 20) (.tmp 18), none⟩]
def f77_c : LC := (.seq (.seq (.reg f77_r0 [] none) (.cond (.tmp 7) (.reg f77_r1 [] none) .skip)) (.reg f77_r2 [] none))
theorem f77_lc : Tryd.f77.body.map lc = some f77_c.st := by kernel_rfl
theorem f77_res : Tryd.f77.results.toList = [] := by kernel_rfl
theorem f77_nt : Tryd.f77.ntmps = 21 := by kernel_rfl
theorem f77_nm : (Tryd.f77.name == "runtime.NumGoroutine") = false := by kernel_rfl
/-! quill/set.Of -/
def f78_r0 : List LOp := [
  ⟨some 2, .alloc 34, none⟩]
def f78_r1 : List LOp := [
  ⟨some 3, .alloc 34, none⟩]
def f78_r2 : List LOp := [
  ⟨some 6, .move (.tmp 0), none⟩,
  ⟨some 7, .call { callee := .builtin .len, args := #[.tmp 6], argTypes := #[22] }, none⟩,
  ⟨some 8, .move (.const (.int .i64 0)), none⟩]
def f78_r3 : List LOp := [
  ⟨some 9, .binOp .lss 3 (.tmp 8) (.tmp 7) 3, none⟩]
def f78_r4 : List LOp := [
  ⟨some 10, .indexAddr 22 (.tmp 6) (.tmp 8), none⟩,
  ⟨some 11, .load 5 (.tmp 10), none⟩,
  ⟨some 5, .assign (.tmp 11), none⟩]
def f78_r5 : List LOp := [
  ⟨some 12, .move (.tmp 5), none⟩,
  ⟨some 13, .binOp .quo 5 (.tmp 12) (.const (.int .u8 64)) 5, none⟩,
  ⟨some 14, .indexAddr 34 (.tmp 3) (.tmp 13), none⟩,
  ⟨some 15, .load 32 (.tmp 14), none⟩,
  ⟨some 16, .move (.tmp 5), none⟩,
  ⟨some 17, .binOp .rem 5 (.tmp 16) (.const (.int .u8 64)) 5, none⟩,
  ⟨some 18, .binOp .shl 32 (.const (.int .u64 1)) (.tmp 17) 5, none⟩,
  ⟨some 19, .binOp .or 32 (.tmp 15) (.tmp 18) 32, none⟩,
  ⟨some 20, .indexAddr 34 (.tmp 3) (.tmp 13), none⟩,
  ⟨none, .store 32 (.tmp 20) (.tmp 19), none⟩]
def f78_r6 : List LOp := [
  ⟨some 21, .binOp .add 3 (.tmp 8) (.const (.int .i64 1)) 3, none⟩,
  ⟨some 8, .move (.tmp 21), none⟩]
def f78_l7 : LC := (.seq (.reg f78_r3 [] none) (.seq (.cond (.tmp 9) .skip (.exit 0)) (.seq (.block 1 (.seq (.reg f78_r4 [] none) (.reg f78_r5 [] none))) (.reg f78_r6 [] none))))
def f78_i7 (t2 t3 t6 t7 t8 : D) : List D := [.any, .any, t2, t3, .any, .any, t6, t7, t8, .any, .any, .any, .any, .any, .any, .any, .any, .any, .any, .any, .any, .any, .any]
def f78_r8 : List LOp := [
  ⟨some 22, .load 34 (.tmp 3), none⟩,
  ⟨none, .store 34 (.tmp 2) (.tmp 22), none⟩]
def f78_c : LC := (.seq (.reg f78_r0 [] none) (.seq (.reg f78_r1 [] none) (.seq (.seq (.reg f78_r2 [] none) (.block 0 (.loop f78_l7))) (.seq (.reg f78_r8 [] none) .ret))))
theorem f78_lc : Tryd.f78.body.map lc = some f78_c.st := by kernel_rfl
theorem f78_res : Tryd.f78.results.toList = [.cell 2 34] := by kernel_rfl
theorem f78_nt : Tryd.f78.ntmps = 23 := by kernel_rfl
theorem f78_nm : (Tryd.f78.name == "runtime.NumGoroutine") = false := by kernel_rfl
/-! (*quill/read.reader).sign -/
def f79_r0 : List LOp := [
  ⟨some 2, .assign (.const (.int .u8 0)), none⟩]
def f79_r1 : List LOp := [
  ⟨some 7, .move (.tmp 0), none⟩,
  ⟨some 8, .call { callee := .value (.func 65), args := #[.tmp 7], argTypes := #[76] }, none⟩,
  ⟨some 9, .unOp .not 4 (.tmp 8), none⟩]
def f79_r2 : List LOp := [
  ⟨some 10, .move (.tmp 0), none⟩,
  ⟨some 11, .nilCheck (.tmp 10), none⟩,
  ⟨some 12, .fieldAddr 78 (.tmp 11) 1, none⟩,
  ⟨some 13, .load 3 (.tmp 12), none⟩,
  ⟨some 14, .build 89 #[(0, .tmp 13)], none⟩,
  ⟨some 15, .makeInterface 89 (.tmp 14), none⟩,
  ⟨none, .panic (.tmp 15), none⟩]
def f79_r3 : List LOp := [
  ⟨some 16, .move (.tmp 0), none⟩,
  ⟨some 17, .nilCheck (.tmp 16), none⟩,
  ⟨some 18, .fieldAddr 78 (.tmp 17) 0, none⟩,
  ⟨some 19, .load 9 (.tmp 18), none⟩,
  ⟨some 20, .move (.tmp 0), none⟩,
  ⟨some 21, .nilCheck (.tmp 20), none⟩,
  ⟨some 22, .fieldAddr 78 (.tmp 21) 1, none⟩,
  ⟨some 23, .load 3 (.tmp 22), none⟩,
  ⟨some 24, .index 9 (.tmp 19) (.tmp 23), none⟩,
  ⟨some 3, .assign (.tmp 24), none⟩]
def f79_r4 : List LOp := [
  ⟨some 25, .move (.tmp 0), none⟩,
  ⟨some 26, .nilCheck (.tmp 25), none⟩,
  ⟨some 27, .fieldAddr 78 (.tmp 26) 1, none⟩,
  ⟨some 28, .load 3 (.tmp 27), none⟩,
  ⟨some 29, .binOp .add 3 (.tmp 28) (.const (.int .i64 1)) 3, none⟩,
  ⟨some 30, .nilCheck (.tmp 25), none⟩,
  ⟨some 31, .fieldAddr 78 (.tmp 30) 1, none⟩,
  ⟨none, .store 3 (.tmp 31) (.tmp 29), none⟩]
def f79_r5 : List LOp := [
  ⟨some 32, .move (.tmp 3), none⟩,
  ⟨some 33, .binOp .neq 5 (.tmp 32) (.const (.int .u8 92)) 5, none⟩]
def f79_r6 : List LOp := [
  ⟨some 34, .move (.tmp 3), none⟩,
  ⟨some 2, .assign (.tmp 34), none⟩]
def f79_r7 : List LOp := [
  ⟨some 35, .move (.tmp 0), none⟩,
  ⟨some 36, .nilCheck (.tmp 35), none⟩,
  ⟨some 37, .fieldAddr 78 (.tmp 36) 1, none⟩,
  ⟨some 38, .load 3 (.tmp 37), none⟩,
  ⟨some 4, .assign (.tmp 38), none⟩]
def f79_r8 : List LOp := [
  ⟨some 39, .move (.tmp 0), none⟩,
  ⟨some 40, .call { callee := .value (.func 82), args := #[.tmp 39], argTypes := #[76] }, none⟩]
def f79_r9 : List LOp := [
  ⟨some 41, .move (.tmp 0), none⟩,
  ⟨some 42, .call { callee := .value (.func 82), args := #[.tmp 41], argTypes := #[76] }, none⟩]
def f79_r10 : List LOp := [
  ⟨some 44, .move (.tmp 0), none⟩,
  ⟨some 45, .nilCheck (.tmp 44), none⟩,
  ⟨some 46, .fieldAddr 78 (.tmp 45) 0, none⟩,
  ⟨some 47, .load 9 (.tmp 46), none⟩,
  ⟨some 48, .move (.tmp 4), none⟩,
  ⟨some 49, .move (.tmp 0), none⟩,
  ⟨some 50, .nilCheck (.tmp 49), none⟩,
  ⟨some 51, .fieldAddr 78 (.tmp 50) 1, none⟩,
  ⟨some 52, .load 3 (.tmp 51), none⟩,
  ⟨some 53, .slice 9 (.tmp 47) (some (.tmp 48)) (some (.tmp 52)) none, none⟩,
  ⟨some 54, .call { callee := .value (.func 83), args := #[.tmp 53], argTypes := #[9] }, none⟩,
  ⟨some 43, .move (.tmp 54), none⟩,
  ⟨some 55, .extract (.tmp 43) 0, none⟩,
  ⟨some 56, .extract (.tmp 43) 1, none⟩,
  ⟨some 5, .assign (.tmp 55), none⟩,
  ⟨some 6, .assign (.tmp 56), none⟩]
def f79_r11 : List LOp := [
  ⟨some 57, .move (.tmp 5), none⟩,
  ⟨some 58, .indexAddr 22 (.tmp 57) (.const (.int .i64 0)), none⟩,
  ⟨some 59, .load 5 (.tmp 58), none⟩,
  ⟨some 2, .assign (.tmp 59), none⟩]
def f79_c : LC := (.seq (.reg f79_r0 [] none) (.seq (.seq (.reg f79_r1 [] none) (.cond (.tmp 9) (.reg f79_r2 [] none) .skip)) (.seq (.reg f79_r3 [] (some 8)) (.seq (.reg f79_r4 [] none) (.seq (.seq (.reg f79_r5 [] none) (.cond (.tmp 33) (.seq (.reg f79_r6 [] none) .ret) .skip)) (.seq (.reg f79_r7 [] none) (.seq (.reg f79_r8 [] none) (.seq (.reg f79_r9 [] none) (.seq (.regp f79_r10 [] [0, 4, 5] 15) (.seq (.reg f79_r11 [] none) .ret))))))))))
theorem f79_lc : Tryd.f79.body.map lc = some f79_c.st := by kernel_rfl
theorem f79_res : Tryd.f79.results.toList = [.tmp 2] := by kernel_rfl
theorem f79_nt : Tryd.f79.ntmps = 60 := by kernel_rfl
theorem f79_nm : (Tryd.f79.name == "runtime.NumGoroutine") = false := by kernel_rfl
/-! slices.Backward[[]quill/api.Re,quill/api.Re]$1 -/
def f80_r0 : List LOp := [
  ⟨some 4, .load 35 (.tmp 1), none⟩,
  ⟨some 5, .call { callee := .builtin .len, args := #[.tmp 4], argTypes := #[35] }, none⟩,
  ⟨some 6, .binOp .sub 3 (.tmp 5) (.const (.int .i64 1)) 3, none⟩,
  ⟨some 3, .assign (.tmp 6), none⟩]
def f80_r1 : List LOp := [
  ⟨some 7, .move (.tmp 3), none⟩,
  ⟨some 8, .binOp .geq 3 (.tmp 7) (.const (.int .i64 0)) 3, none⟩]
def f80_r2 : List LOp := [
  ⟨some 11, .move (.tmp 0), none⟩,
  ⟨some 12, .move (.tmp 3), none⟩,
  ⟨some 13, .load 35 (.tmp 1), none⟩,
  ⟨some 14, .move (.tmp 3), none⟩,
  ⟨some 15, .indexAddr 35 (.tmp 13) (.tmp 14), none⟩,
  ⟨some 16, .load 37 (.tmp 15), none⟩,
  ⟨some 17, .call { callee := .value (.tmp 11), args := #[.tmp 12, .tmp 16], argTypes := #[3, 37] }, none⟩,
  ⟨some 18, .unOp .not 4 (.tmp 17), none⟩]
def f80_r3 : List LOp := [
  ⟨some 9, .move (.tmp 3), none⟩,
  ⟨some 10, .binOp .sub 3 (.tmp 9) (.const (.int .i64 1)) 3, none⟩,
  ⟨some 3, .assign (.tmp 10), none⟩]
def f80_l4 : LC := (.seq (.seq (.reg f80_r1 [] none) (.cond (.tmp 8) .skip (.exit 0))) (.seq (.block 1 (.seq (.reg f80_r2 [] none) (.cond (.tmp 18) .ret .skip))) (.reg f80_r3 [] none)))
def f80_i4 (t0 t1 t3 : D) : List D := [t0, t1, .any, t3, .any, .any, .any, .any, .any, .any, .any, .any, .any, .any, .any, .any, .any, .any, .any]
def f80_c : LC := (.seq (.reg f80_r0 [] none) (.block 0 (.loop f80_l4)))
theorem f80_lc : Tryd.f80.body.map lc = some f80_c.st := by kernel_rfl
theorem f80_res : Tryd.f80.results.toList = [] := by kernel_rfl
theorem f80_nt : Tryd.f80.ntmps = 19 := by kernel_rfl
theorem f80_nm : (Tryd.f80.name == "runtime.NumGoroutine") = false := by kernel_rfl
/-! quill/set.Join -/
def f81_r0 : List LOp := [
  ⟨some 2, .alloc 34, none⟩]
def f81_r1 : List LOp := [
  ⟨some 3, .alloc 34, none⟩]
def f81_r2 : List LOp := [
  ⟨some 7, .move (.tmp 0), none⟩,
  ⟨some 8, .call { callee := .builtin .len, args := #[.tmp 7], argTypes := #[127] }, none⟩,
  ⟨some 9, .move (.const (.int .i64 0)), none⟩]
def f81_r3 : List LOp := [
  ⟨some 10, .binOp .lss 3 (.tmp 9) (.tmp 8) 3, none⟩]
def f81_r4 : List LOp := [
  ⟨some 11, .indexAddr 127 (.tmp 7) (.tmp 9), none⟩,
  ⟨some 12, .load 34 (.tmp 11), none⟩,
  ⟨some 5, .alloc 34, none⟩,
  ⟨none, .store 34 (.tmp 5) (.tmp 12), none⟩]
def f81_r5 : List LOp := [
  ⟨some 13, .move (.const (.int .i64 0)), none⟩]
def f81_r6 : List LOp := [
  ⟨some 14, .binOp .lss 3 (.tmp 13) (.const (.int .i64 4)) 3, none⟩]
def f81_r7 : List LOp := [
  ⟨some 15, .move (.tmp 13), none⟩,
  ⟨some 6, .assign (.tmp 15), none⟩]
def f81_r8 : List LOp := [
  ⟨some 16, .move (.tmp 6), none⟩,
  ⟨some 17, .indexAddr 34 (.tmp 3) (.tmp 16), none⟩,
  ⟨some 18, .load 32 (.tmp 17), none⟩,
  ⟨some 19, .move (.tmp 6), none⟩,
  ⟨some 20, .indexAddr 34 (.tmp 5) (.tmp 19), none⟩,
  ⟨some 21, .load 32 (.tmp 20), none⟩,
  ⟨some 22, .binOp .or 32 (.tmp 18) (.tmp 21) 32, none⟩,
  ⟨some 23, .indexAddr 34 (.tmp 3) (.tmp 16), none⟩,
  ⟨none, .store 32 (.tmp 23) (.tmp 22), none⟩]
def f81_r9 : List LOp := [
  ⟨some 24, .binOp .add 3 (.tmp 13) (.const (.int .i64 1)) 3, none⟩,
  ⟨some 13, .move (.tmp 24), none⟩]
def f81_l10 : LC := (.seq (.reg f81_r6 [] none) (.seq (.cond (.tmp 14) .skip (.exit 2)) (.seq (.block 3 (.seq (.reg f81_r7 [] none) (.reg f81_r8 [] (some 6)))) (.reg f81_r9 [] none))))
def f81_i10 (t2 t3 t5 t7 t8 t9 t13 : D) : List D := [.any, .any, t2, t3, .any, t5, .any, t7, t8, t9, .any, .any, .any, t13, .any, .any, .any, .any, .any, .any, .any, .any, .any, .any, .any, .any, .any]
def f81_r11 : List LOp := [
  ⟨some 25, .binOp .add 3 (.tmp 9) (.const (.int .i64 1)) 3, none⟩,
  ⟨some 9, .move (.tmp 25), none⟩]
def f81_l12 : LC := (.seq (.reg f81_r3 [] none) (.seq (.cond (.tmp 10) .skip (.exit 0)) (.seq (.block 1 (.seq (.reg f81_r4 [] none) (.seq (.reg f81_r5 [] none) (.block 2 (.loop f81_l10))))) (.reg f81_r11 [] none))))
def f81_i12 (t2 t3 t7 t8 t9 : D) : List D := [.any, .any, t2, t3, .any, .any, .any, t7, t8, t9, .any, .any, .any, .any, .any, .any, .any, .any, .any, .any, .any, .any, .any, .any, .any, .any, .any]
def f81_r13 : List LOp := [
  ⟨some 26, .load 34 (.tmp 3), none⟩,
  ⟨none, .store 34 (.tmp 2) (.tmp 26), none⟩]
def f81_c : LC := (.seq (.reg f81_r0 [] none) (.seq (.reg f81_r1 [] none) (.seq (.seq (.reg f81_r2 [] none) (.block 0 (.loop f81_l12))) (.seq (.reg f81_r13 [] none) .ret))))
theorem f81_lc : Tryd.f81.body.map lc = some f81_c.st := by kernel_rfl
theorem f81_res : Tryd.f81.results.toList = [.cell 2 34] := by kernel_rfl
theorem f81_nt : Tryd.f81.ntmps = 27 := by kernel_rfl
theorem f81_nm : (Tryd.f81.name == "runtime.NumGoroutine") = false := by kernel_rfl
/-! (*quill/read.reader).digit -/
def f82_r0 : List LOp := [
  ⟨some 2, .move (.tmp 0), none⟩,
  ⟨some 3, .call { callee := .value (.func 54), args := #[.tmp 2, .const (.string { data := #[48, 49, 50, 51, 52, 53, 54, 55, 56, 57, 97, 98, 99, 100, 101, 102] })], argTypes := #[76, 9] }, none⟩,
  ⟨some 4, .unOp .not 4 (.tmp 3), none⟩]
def f82_r1 : List LOp := [
  ⟨some 5, .move (.tmp 0), none⟩,
  ⟨some 6, .nilCheck (.tmp 5), none⟩,
  ⟨some 7, .fieldAddr 78 (.tmp 6) 1, none⟩,
  ⟨some 8, .load 3 (.tmp 7), none⟩,
  ⟨some 9, .build 89 #[(0, .tmp 8)], none⟩,
  ⟨some 10, .makeInterface 89 (.tmp 9), none⟩,
  ⟨none, .panic (.tmp 10), none⟩]
def f82_r2 : List LOp := [
  ⟨some 11, .move (.tmp 0), none⟩,
  ⟨some 12, .nilCheck (.tmp 11), none⟩,
  ⟨some 13, .fieldAddr 78 (.tmp 12) 1, none⟩,
  ⟨some 14, .load 3 (.tmp 13), none⟩,
  ⟨some 15, .binOp .add 3 (.tmp 14) (.const (.int .i64 1)) 3, none⟩,
  ⟨some 16, .nilCheck (.tmp 11), none⟩,
  ⟨some 17, .fieldAddr 78 (.tmp 16) 1, none⟩,
  ⟨none, .store 3 (.tmp 17) (.tmp 15), none⟩]
def f82_c : LC := (.seq (.seq (.reg f82_r0 [] none) (.cond (.tmp 4) (.reg f82_r1 [] none) .skip)) (.reg f82_r2 [] none))
theorem f82_lc : Tryd.f82.body.map lc = some f82_c.st := by kernel_rfl
theorem f82_res : Tryd.f82.results.toList = [] := by kernel_rfl
theorem f82_nt : Tryd.f82.ntmps = 18 := by kernel_rfl
theorem f82_nm : (Tryd.f82.name == "runtime.NumGoroutine") = false := by kernel_rfl
/-! quill/num.ReadHex -/
def f83_r0 : List LOp := [
  ⟨some 2, .assign (.const (.slice none 0 0)), none⟩,
  ⟨some 3, .assign (.const (.int .i64 0)), none⟩]
def f83_r1 : List LOp := [
  ⟨some 4, .assign (.const (.slice none 0 0)), none⟩]
def f83_r2 : List LOp := [
  ⟨some 5, .assign (.const (.int .i64 0)), none⟩]
def f83_r3 : List LOp := [
  ⟨some 8, .move (.tmp 5), none⟩,
  ⟨some 9, .binOp .add 3 (.tmp 8) (.const (.int .i64 1)) 3, none⟩,
  ⟨some 10, .move (.tmp 0), none⟩,
  ⟨some 11, .call { callee := .builtin .len, args := #[.tmp 10], argTypes := #[9] }, none⟩,
  ⟨some 12, .binOp .lss 3 (.tmp 9) (.tmp 11) 3, none⟩]
def f83_r4 : List LOp := [
  ⟨some 15, .move (.tmp 0), none⟩,
  ⟨some 16, .move (.tmp 5), none⟩,
  ⟨some 17, .index 9 (.tmp 15) (.tmp 16), none⟩,
  ⟨some 18, .call { callee := .value (.func 16), args := #[.const (.string { data := #[48, 49, 50, 51, 52, 53, 54, 55, 56, 57, 97, 98, 99, 100, 101, 102] }), .tmp 17], argTypes := #[9, 5] }, none⟩,
  ⟨some 6, .assign (.tmp 18), none⟩]
def f83_r5 : List LOp := [
  ⟨some 19, .move (.tmp 0), none⟩,
  ⟨some 20, .move (.tmp 5), none⟩,
  ⟨some 21, .binOp .add 3 (.tmp 20) (.const (.int .i64 1)) 3, none⟩,
  ⟨some 22, .index 9 (.tmp 19) (.tmp 21), none⟩,
  ⟨some 23, .call { callee := .value (.func 16), args := #[.const (.string { data := #[48, 49, 50, 51, 52, 53, 54, 55, 56, 57, 97, 98, 99, 100, 101, 102] }), .tmp 22], argTypes := #[9, 5] }, none⟩,
  ⟨some 7, .assign (.tmp 23), none⟩]
def f83_r6 : List LOp := [
  ⟨some 24, .move (.tmp 6), none⟩,
  ⟨some 25, .binOp .lss 3 (.tmp 24) (.const (.int .i64 0)) 3, none⟩,
  ⟨some 26, .move (.tmp 25), none⟩,
  ⟨some 27, .move (.tmp 7), some (2, false)⟩,
  ⟨some 28, .binOp .lss 3 (.tmp 27) (.const (.int .i64 0)) 3, some (2, false)⟩,
  ⟨some 29, .pick (.tmp 26) (.const (.bool true)) (.tmp 28), none⟩]
def f83_r7 : List LOp := [
  ⟨some 2, .assign (.const (.slice none 0 0)), none⟩,
  ⟨some 3, .assign (.const (.int .i64 2)), none⟩]
def f83_r8 : List LOp := [
  ⟨some 30, .move (.tmp 4), none⟩,
  ⟨some 31, .move (.tmp 6), none⟩,
  ⟨some 32, .binOp .shl 3 (.tmp 31) (.const (.int .u64 4)) 99, none⟩,
  ⟨some 33, .move (.tmp 7), none⟩,
  ⟨some 34, .binOp .or 3 (.tmp 32) (.tmp 33) 3, none⟩,
  ⟨some 35, .convert 3 5 (.tmp 34), none⟩,
  ⟨some 36, .buildSlice 22 1 #[(0, .tmp 35)], none⟩,
  ⟨some 37, .call { callee := .builtin .append, args := #[.tmp 30, .tmp 36], argTypes := #[22, 22] }, none⟩,
  ⟨some 4, .assign (.tmp 37), none⟩]
def f83_r9 : List LOp := [
  ⟨some 13, .move (.tmp 5), none⟩,
  ⟨some 14, .binOp .add 3 (.tmp 13) (.const (.int .i64 2)) 3, none⟩,
  ⟨some 5, .assign (.tmp 14), none⟩]
def f83_l10 : LC := (.seq (.seq (.reg f83_r3 [] none) (.cond (.tmp 12) .skip (.exit 0))) (.seq (.block 1 (.seq (.reg f83_r4 [] none) (.seq (.reg f83_r5 [] none) (.seq (.seq (.reg f83_r6 [] none) (.cond (.tmp 29) (.seq (.reg f83_r7 [] none) .ret) .skip)) (.reg f83_r8 [] none))))) (.reg f83_r9 [] none)))
def f83_i10 (t0 t4 t5 : D) : List D := [t0, .any, .any, .any, t4, t5, .any, .any, .any, .any, .any, .any, .any, .any, .any, .any, .any, .any, .any, .any, .any, .any, .any, .any, .any, .any, .any, .any, .any, .any, .any, .any, .any, .any, .any, .any, .any, .any, .any, .any, .any, .any, .any]
def f83_r11 : List LOp := [
  ⟨some 38, .move (.tmp 0), none⟩,
  ⟨some 39, .call { callee := .builtin .len, args := #[.tmp 38], argTypes := #[9] }, none⟩,
  ⟨some 40, .binOp .rem 3 (.tmp 39) (.const (.int .i64 2)) 3, none⟩,
  ⟨some 41, .binOp .eql 3 (.tmp 40) (.const (.int .i64 1)) 3, none⟩]
def f83_r12 : List LOp := [
  ⟨some 2, .assign (.const (.slice none 0 0)), none⟩,
  ⟨some 3, .assign (.const (.int .i64 2)), none⟩]
def f83_r13 : List LOp := [
  ⟨some 42, .move (.tmp 4), none⟩,
  ⟨some 2, .assign (.tmp 42), none⟩,
  ⟨some 3, .assign (.const (.int .i64 0)), none⟩]
def f83_c : LC := (.seq (.reg f83_r0 [] none) (.seq (.reg f83_r1 [] none) (.seq (.seq (.reg f83_r2 [] none) (.block 0 (.loop f83_l10))) (.seq (.seq (.reg f83_r11 [] none) (.cond (.tmp 41) (.seq (.reg f83_r12 [] none) .ret) .skip)) (.seq (.reg f83_r13 [] none) .ret)))))
theorem f83_lc : Tryd.f83.body.map lc = some f83_c.st := by kernel_rfl
theorem f83_res : Tryd.f83.results.toList = [.tmp 2, .tmp 3] := by kernel_rfl
theorem f83_nt : Tryd.f83.ntmps = 43 := by kernel_rfl
theorem f83_nm : (Tryd.f83.name == "runtime.NumGoroutine") = false := by kernel_rfl
attribute [go_sem] f14_r0 f14_r1 f14_c f16_r0 f16_r1 f16_c f20_r0 f20_r1 f20_r2 f20_r3 f20_r4 f20_r5 f20_r6 f20_c f21_r0 f21_r1 f21_r2 f21_r3 f21_r4 f21_r5 f21_r6 f21_l7 f21_i7 f21_r8 f21_c f23_r0 f23_r1 f23_r2 f23_r3 f23_c f24_r0 f24_r1 f24_r2 f24_r3 f24_r4 f24_r5 f24_c f27_r0 f27_r1 f27_r2 f27_r3 f27_r4 f27_r5 f27_r6 f27_r7 f27_r8 f27_l9 f27_i9 f27_r10 f27_c f34_r0 f34_r1 f34_r2 f34_r3 f34_r4 f34_r5 f34_c f35_r0 f35_r1 f35_c f37_r0 f37_r1 f37_r2 f37_r3 f37_r4 f37_r5 f37_r6 f37_r7 f37_r8 f37_r9 f37_r10 f37_r11 f37_r12 f37_r13 f37_r14 f37_r15 f37_r16 f37_r17 f37_r18 f37_r19 f37_r20 f37_r21 f37_r22 f37_c f41_r0 f41_r1 f41_r2 f41_r3 f41_r4 f41_r5 f41_r6 f41_r7 f41_c f42_r0 f42_r1 f42_r2 f42_r3 f42_r4 f42_l5 f42_i5 f42_r6 f42_c f43_r0 f43_r1 f43_c f44_r0 f44_r1 f44_c f45_r0 f45_r1 f45_c f47_r0 f47_r1 f47_c f48_r0 f48_r1 f48_r2 f48_r3 f48_c f49_r0 f49_r1 f49_r2 f49_r3 f49_r4 f49_r5 f49_r6 f49_r7 f49_r8 f49_r9 f49_r10 f49_r11 f49_r12 f49_l13 f49_i13 f49_r14 f49_r15 f49_r16 f49_r17 f49_r18 f49_r19 f49_l20 f49_i20 f49_r21 f49_r22 f49_c f53_r0 f53_r1 f53_r2 f53_r3 f53_l4 f53_i4 f53_r5 f53_c f54_r0 f54_r1 f54_c f55_r0 f55_r1 f55_c f56_r0 f56_r1 f56_r2 f56_r3 f56_r4 f56_r5 f56_r6 f56_l7 f56_i7 f56_r8 f56_c f57_r0 f57_r1 f57_r2 f57_r3 f57_r4 f57_r5 f57_r6 f57_r7 f57_r8 f57_r9 f57_r10 f57_r11 f57_r12 f57_r13 f57_c f58_r0 f58_r1 f58_c f59_r0 f59_r1 f59_r2 f59_r3 f59_r4 f59_r5 f59_r6 f59_l7 f59_i7 f59_r8 f59_c f60_r0 f60_r1 f60_r2 f60_r3 f60_r4 f60_r5 f60_r6 f60_r7 f60_l8 f60_i8 f60_r9 f60_l10 f60_i10 f60_r11 f60_c f61_r0 f61_r1 f61_c f62_r0 f62_r1 f62_r2 f62_r3 f62_c f64_r0 f64_r1 f64_r2 f64_r3 f64_r4 f64_l5 f64_i5 f64_r6 f64_c f65_r0 f65_r1 f65_c f66_r0 f66_r1 f66_c f67_r0 f67_r1 f67_r2 f67_r3 f67_r4 f67_r5 f67_r6 f67_a7 f67_b7 f67_r8 f67_c f68_r0 f68_r1 f68_r2 f68_r3 f68_c f69_r0 f69_r1 f69_r2 f69_r3 f69_r4 f69_r5 f69_r6 f69_l7 f69_i7 f69_r8 f69_c f70_r0 f70_r1 f70_r2 f70_r3 f70_r4 f70_r5 f70_r6 f70_r7 f70_r8 f70_r9 f70_r10 f70_r11 f70_r12 f70_r13 f70_r14 f70_r15 f70_c f71_r0 f71_r1 f71_c f72_r0 f72_r1 f72_c f73_r0 f73_r1 f73_c f74_r0 f74_r1 f74_r2 f74_r3 f74_c f75_r0 f75_r1 f75_r2 f75_r3 f75_r4 f75_r5 f75_l6 f75_i6 f75_r7 f75_c f76_r0 f76_r1 f76_r2 f76_r3 f76_r4 f76_r5 f76_r6 f76_r7 f76_r8 f76_r9 f76_r10 f76_r11 f76_l12 f76_i12 f76_r13 f76_r14 f76_c f77_r0 f77_r1 f77_r2 f77_c f78_r0 f78_r1 f78_r2 f78_r3 f78_r4 f78_r5 f78_r6 f78_l7 f78_i7 f78_r8 f78_c f79_r0 f79_r1 f79_r2 f79_r3 f79_r4 f79_r5 f79_r6 f79_r7 f79_r8 f79_r9 f79_r10 f79_r11 f79_c f80_r0 f80_r1 f80_r2 f80_r3 f80_l4 f80_i4 f80_c f81_r0 f81_r1 f81_r2 f81_r3 f81_r4 f81_r5 f81_r6 f81_r7 f81_r8 f81_r9 f81_l10 f81_i10 f81_r11 f81_l12 f81_i12 f81_r13 f81_c f82_r0 f82_r1 f82_r2 f82_c f83_r0 f83_r1 f83_r2 f83_r3 f83_r4 f83_r5 f83_r6 f83_r7 f83_r8 f83_r9 f83_l10 f83_i10 f83_r11 f83_r12 f83_r13 f83_c T3 T4 T5 T9 T20 T21 T22 T23 T24 T30 T32 T34 T35 T37 T39 T40 T41 T43 T54 T63 T65 T76 T78 T81 T83 T85 T89 T92 T93 T106 T116 T127 ti3 ti4 ti5 ti9 ti20 ti21 ti22 ti23 ti24 ti30 ti32 ti34 ti35 ti37 ti39 ti40 ti41 ti43 ti54 ti63 ti65 ti76 ti78 ti81 ti83 ti85 ti89 ti92 ti93 ti106 ti116 ti127
end Go.Proofs.YtdliolbjngcgcaaDoor.W
set_option maxRecDepth 100000
namespace Go.Proofs.YtdliolbjngcgcaaDoor.W
open Go Go.Proofs Go.Proofs.YtdliolbjngcgcaaDoor.AWP
/-! gosem.cut.init -/
/-! quill/quilllaw19.RulesMost -/
def f3_r0 : List LOp := [
  ⟨some 2, .assign (.const (.bool false)), none⟩]
def f3_r1 : List LOp := [
  ⟨some 9, .move (.tmp 0), none⟩,
  ⟨some 10, .binOp .rem 5 (.tmp 9) (.const (.int .u8 5)) 5, none⟩,
  ⟨some 11, .convert 5 3 (.tmp 10), none⟩,
  ⟨some 12, .binOp .add 3 (.const (.int .i64 98)) (.tmp 11) 3, none⟩,
  ⟨some 3, .assign (.tmp 12), none⟩]
def f3_r2 : List LOp := [
  ⟨some 4, .assign (.const (.string { data := #[] })), none⟩]
def f3_r3 : List LOp := [
  ⟨some 5, .assign (.const (.int .i64 0)), none⟩]
def f3_r4 : List LOp := [
  ⟨some 13, .move (.tmp 5), none⟩,
  ⟨some 14, .move (.tmp 3), none⟩,
  ⟨some 15, .binOp .lss 3 (.tmp 13) (.tmp 14) 3, none⟩]
def f3_r5 : List LOp := [
  ⟨some 18, .move (.tmp 4), none⟩,
  ⟨some 19, .move (.tmp 5), none⟩,
  ⟨some 20, .binOp .quo 3 (.tmp 19) (.const (.int .i64 100)) 3, none⟩,
  ⟨some 21, .binOp .add 3 (.const (.int .i64 48)) (.tmp 20) 3, none⟩,
  ⟨some 22, .convert 3 5 (.tmp 21), none⟩,
  ⟨some 23, .move (.tmp 5), none⟩,
  ⟨some 24, .binOp .quo 3 (.tmp 23) (.const (.int .i64 10)) 3, none⟩,
  ⟨some 25, .binOp .rem 3 (.tmp 24) (.const (.int .i64 10)) 3, none⟩,
  ⟨some 26, .binOp .add 3 (.const (.int .i64 48)) (.tmp 25) 3, none⟩,
  ⟨some 27, .convert 3 5 (.tmp 26), none⟩,
  ⟨some 28, .move (.tmp 5), none⟩,
  ⟨some 29, .binOp .rem 3 (.tmp 28) (.const (.int .i64 10)) 3, none⟩,
  ⟨some 30, .binOp .add 3 (.const (.int .i64 48)) (.tmp 29) 3, none⟩,
  ⟨some 31, .convert 3 5 (.tmp 30), none⟩,
  ⟨some 32, .buildSlice 22 3 #[(0, .tmp 22), (1, .tmp 27), (2, .tmp 31)], none⟩,
  ⟨some 33, .convert 22 9 (.tmp 32), none⟩,
  ⟨some 34, .binOp .add 9 (.const (.string { data := #[97] })) (.tmp 33) 9, none⟩,
  ⟨some 35, .binOp .add 9 (.tmp 34) (.const (.string { data := #[32, 120, 10] })) 9, none⟩,
  ⟨some 36, .binOp .add 9 (.tmp 18) (.tmp 35) 9, none⟩,
  ⟨some 4, .assign (.tmp 36), none⟩]
def f3_r6 : List LOp := [
  ⟨some 16, .move (.tmp 5), none⟩,
  ⟨some 17, .binOp .add 3 (.tmp 16) (.const (.int .i64 1)) 3, none⟩,
  ⟨some 5, .assign (.tmp 17), none⟩]
def f3_l7 : LC := (.seq (.seq (.reg f3_r4 [] none) (.cond (.tmp 15) .skip (.exit 0))) (.seq (.block 1 (.reg f3_r5 [] none)) (.reg f3_r6 [] none)))
def f3_i7 (t3 t4 t5 : D) : List D := [.any, .any, .any, t3, t4, t5, .any, .any, .any, .any, .any, .any, .any, .any, .any, .any, .any, .any, .any, .any, .any, .any, .any, .any, .any, .any, .any, .any, .any, .any, .any, .any, .any, .any, .any, .any, .any, .any, .any, .any, .any, .any, .any, .any, .any, .any, .any, .any, .any, .any, .any, .any, .any, .any, .any, .any, .any, .any, .any, .any, .any, .any, .any, .any, .any, .any, .any, .any, .any, .any]
def f3_r8 : List LOp := [
  ⟨some 38, .move (.tmp 4), none⟩,
  ⟨some 39, .call { callee := .value (.func 5), args := #[.tmp 38], argTypes := #[9] }, none⟩,
  ⟨some 37, .move (.tmp 39), none⟩,
  ⟨some 40, .extract (.tmp 37) 0, none⟩,
  ⟨some 41, .extract (.tmp 37) 1, none⟩,
  ⟨some 42, .extract (.tmp 37) 2, none⟩,
  ⟨some 6, .assign (.tmp 40), none⟩,
  ⟨some 7, .assign (.tmp 41), none⟩,
  ⟨some 8, .assign (.tmp 42), none⟩]
def f3_r9 : List LOp := [
  ⟨some 43, .move (.tmp 3), none⟩,
  ⟨some 44, .binOp .leq 3 (.tmp 43) (.const (.int .i64 100)) 3, none⟩]
def f3_r10 : List LOp := [
  ⟨some 45, .move (.tmp 8), none⟩,
  ⟨some 46, .binOp .eql 24 (.tmp 45) (.const (.int .i64 0)) 24, none⟩,
  ⟨some 47, .move (.tmp 46), none⟩,
  ⟨some 48, .move (.tmp 6), some (2, true)⟩,
  ⟨some 49, .call { callee := .builtin .len, args := #[.tmp 48], argTypes := #[23] }, some (2, true)⟩,
  ⟨some 50, .move (.tmp 3), some (2, true)⟩,
  ⟨some 51, .binOp .eql 3 (.tmp 49) (.tmp 50) 3, some (2, true)⟩,
  ⟨some 52, .pick (.tmp 47) (.tmp 51) (.const (.bool false)), none⟩,
  ⟨some 53, .move (.tmp 52), none⟩,
  ⟨some 54, .call { callee := .value (.func 6), args := #[], argTypes := #[] }, some (8, true)⟩,
  ⟨some 55, .pick (.tmp 53) (.tmp 54) (.const (.bool false)), none⟩,
  ⟨some 2, .assign (.tmp 55), none⟩]
def f3_r11 : List LOp := [
  ⟨some 56, .move (.tmp 8), none⟩,
  ⟨some 57, .binOp .eql 24 (.tmp 56) (.const (.int .i64 4)) 24, none⟩,
  ⟨some 58, .move (.tmp 57), none⟩,
  ⟨some 59, .move (.tmp 7), some (2, true)⟩,
  ⟨some 60, .binOp .eql 3 (.tmp 59) (.const (.int .i64 700)) 3, some (2, true)⟩,
  ⟨some 61, .pick (.tmp 58) (.tmp 60) (.const (.bool false)), none⟩,
  ⟨some 62, .move (.tmp 61), none⟩,
  ⟨some 63, .move (.tmp 6), some (6, true)⟩,
  ⟨some 64, .call { callee := .builtin .len, args := #[.tmp 63], argTypes := #[23] }, some (6, true)⟩,
  ⟨some 65, .binOp .eql 3 (.tmp 64) (.const (.int .i64 0)) 3, some (6, true)⟩,
  ⟨some 66, .pick (.tmp 62) (.tmp 65) (.const (.bool false)), none⟩,
  ⟨some 67, .move (.tmp 66), none⟩,
  ⟨some 68, .call { callee := .value (.func 6), args := #[], argTypes := #[] }, some (11, true)⟩,
  ⟨some 69, .pick (.tmp 67) (.tmp 68) (.const (.bool false)), none⟩,
  ⟨some 2, .assign (.tmp 69), none⟩]
def f3_c : LC := (.seq (.reg f3_r0 [] none) (.seq (.reg f3_r1 [] none) (.seq (.reg f3_r2 [] none) (.seq (.seq (.reg f3_r3 [] none) (.block 0 (.loop f3_l7))) (.seq (.reg f3_r8 [] none) (.seq (.seq (.reg f3_r9 [] none) (.cond (.tmp 44) (.seq (.reg f3_r10 [] none) .ret) .skip)) (.seq (.reg f3_r11 [] none) .ret)))))))
theorem f3_lc : Tryd.f3.body.map lc = some f3_c.st := by kernel_rfl
theorem f3_res : Tryd.f3.results.toList = [.tmp 2] := by kernel_rfl
theorem f3_nt : Tryd.f3.ntmps = 70 := by kernel_rfl
theorem f3_nm : (Tryd.f3.name == "runtime.NumGoroutine") = false := by kernel_rfl
/-! quill/quilllaw19.RulesNames -/
/-! quill/rules.Read -/
def f5_r0 : List LOp := [
  ⟨some 1, .box 9 (.tmp 0), none⟩,
  ⟨some 2, .alloc 23, none⟩,
  ⟨some 3, .alloc 3, none⟩,
  ⟨some 4, .alloc 24, none⟩]
def f5_r1 : List LOp := [
  ⟨some 12, .load 9 (.tmp 1), none⟩,
  ⟨some 13, .call { callee := .builtin .len, args := #[.tmp 12], argTypes := #[9] }, none⟩,
  ⟨some 14, .binOp .gtr 3 (.tmp 13) (.const (.int .i64 65536)) 3, none⟩]
def f5_r2 : List LOp := [
  ⟨none, .store 23 (.tmp 2) (.const (.slice none 0 0)), none⟩,
  ⟨none, .store 3 (.tmp 3) (.const (.int .i64 0)), none⟩,
  ⟨none, .store 24 (.tmp 4) (.const (.int .i64 3)), none⟩]
def f5_r3 : List LOp := [
  ⟨some 15, .makeMap 41 none, none⟩,
  ⟨some 16, .build 43 #[(1, .tmp 15)], none⟩,
  ⟨some 17, .box 43 (.tmp 16), none⟩,
  ⟨some 5, .alloc 40, none⟩,
  ⟨none, .store 40 (.tmp 5) (.tmp 17), none⟩]
def f5_r4 : List LOp := [
  ⟨some 6, .alloc 3, none⟩,
  ⟨none, .store 3 (.tmp 6) (.const (.int .i64 0)), none⟩]
def f5_r5 : List LOp := [
  ⟨some 18, .load 9 (.tmp 1), none⟩,
  ⟨some 19, .call { callee := .value (.func 9), args := #[.tmp 18], argTypes := #[9] }, none⟩]
def f5_r6 : List LOp := [
  ⟨some 7, .assign (.tmp 20), none⟩]
def f5_r7 : List LOp := [
  ⟨some 22, .move (.tmp 7), none⟩,
  ⟨some 23, .call { callee := .value (.func 10), args := #[.tmp 22, .const (.string { data := #[10] })], argTypes := #[9, 9] }, none⟩,
  ⟨some 21, .move (.tmp 23), none⟩,
  ⟨some 24, .extract (.tmp 21) 0, none⟩,
  ⟨some 25, .extract (.tmp 21) 1, none⟩,
  ⟨some 8, .assign (.tmp 24), none⟩,
  ⟨some 9, .assign (.tmp 25), none⟩]
def f5_r8 : List LOp := [
  ⟨some 26, .move (.tmp 9), none⟩,
  ⟨some 27, .unOp .not 4 (.tmp 26), none⟩]
def f5_r9 : List LOp := [
  ⟨some 28, .load 9 (.tmp 1), none⟩,
  ⟨some 29, .call { callee := .builtin .len, args := #[.tmp 28], argTypes := #[9] }, none⟩,
  ⟨none, .store 23 (.tmp 2) (.const (.slice none 0 0)), none⟩,
  ⟨none, .store 3 (.tmp 3) (.tmp 29), none⟩,
  ⟨none, .store 24 (.tmp 4) (.const (.int .i64 2)), none⟩]
def f5_r10 : List LOp := [
  ⟨some 31, .load 40 (.tmp 5), none⟩,
  ⟨some 32, .move (.tmp 8), none⟩,
  ⟨some 33, .call { callee := .value (.func 11), args := #[.tmp 31, .tmp 32], argTypes := #[40, 9] }, none⟩,
  ⟨some 30, .move (.tmp 33), none⟩,
  ⟨some 34, .extract (.tmp 30) 0, none⟩,
  ⟨some 35, .extract (.tmp 30) 1, none⟩,
  ⟨some 10, .assign (.tmp 34), none⟩,
  ⟨some 11, .assign (.tmp 35), none⟩]
def f5_r11 : List LOp := [
  ⟨some 36, .move (.tmp 11), none⟩,
  ⟨some 37, .binOp .neq 24 (.tmp 36) (.const (.int .i64 0)) 24, none⟩]
def f5_r12 : List LOp := [
  ⟨some 38, .load 3 (.tmp 6), none⟩,
  ⟨some 39, .move (.tmp 10), none⟩,
  ⟨some 40, .binOp .add 3 (.tmp 38) (.tmp 39) 3, none⟩,
  ⟨some 41, .move (.tmp 11), none⟩,
  ⟨none, .store 23 (.tmp 2) (.const (.slice none 0 0)), none⟩,
  ⟨none, .store 3 (.tmp 3) (.tmp 40), none⟩,
  ⟨none, .store 24 (.tmp 4) (.tmp 41), none⟩]
def f5_r13 : List LOp := [
  ⟨some 42, .load 3 (.tmp 6), none⟩,
  ⟨some 43, .move (.tmp 7), none⟩,
  ⟨some 44, .call { callee := .builtin .len, args := #[.tmp 43], argTypes := #[9] }, none⟩,
  ⟨some 45, .binOp .add 3 (.tmp 42) (.tmp 44) 3, none⟩,
  ⟨none, .store 3 (.tmp 6) (.tmp 45), none⟩]
def f5_a14 : LC := (.reg f5_r6 [] none)
def f5_b14 : LC := (.block 1 (.seq (.reg f5_r7 [] none) (.seq (.seq (.reg f5_r8 [] none) (.cond (.tmp 27) (.seq (.regt f5_r9 [] 0 (.both (.op 0 (.both (.op 1 (.op 2 (.op 3 (.op 4 .done)))) (.op 2 (.op 1 (.op 3 (.op 4 .done)))))) (.op 2 (.op 0 (.op 1 (.op 3 (.op 4 .done))))))) .ret) .skip)) (.seq (.seq (.reg f5_r10 [] none) (.seq (.reg f5_r11 [] none) (.cond (.tmp 37) (.seq (.regt f5_r12 [] 0 (.both (.op 0 (.both (.op 1 (.both (.op 2 (.both (.op 3 (.op 4 (.op 5 (.op 6 .done)))) (.op 4 (.both (.op 3 (.op 5 (.op 6 .done))) (.op 5 (.op 3 (.op 6 .done))))))) (.both (.op 3 (.both (.op 2 (.op 4 (.op 5 (.op 6 .done)))) (.op 4 (.op 2 (.op 5 (.op 6 .done)))))) (.op 4 (.both (.op 2 (.both (.op 3 (.op 5 (.op 6 .done))) (.op 5 (.op 3 (.op 6 .done))))) (.op 3 (.op 2 (.op 5 (.op 6 .done))))))))) (.both (.op 3 (.both (.op 1 (.both (.op 2 (.op 4 (.op 5 (.op 6 .done)))) (.op 4 (.op 2 (.op 5 (.op 6 .done)))))) (.op 4 (.op 1 (.op 2 (.op 5 (.op 6 .done))))))) (.op 4 (.both (.op 1 (.both (.op 2 (.both (.op 3 (.op 5 (.op 6 .done))) (.op 5 (.op 3 (.op 6 .done))))) (.op 3 (.op 2 (.op 5 (.op 6 .done)))))) (.op 3 (.op 1 (.op 2 (.op 5 (.op 6 .done)))))))))) (.both (.op 1 (.both (.op 0 (.both (.op 2 (.both (.op 3 (.op 4 (.op 5 (.op 6 .done)))) (.op 4 (.both (.op 3 (.op 5 (.op 6 .done))) (.op 5 (.op 3 (.op 6 .done))))))) (.both (.op 3 (.both (.op 2 (.op 4 (.op 5 (.op 6 .done)))) (.op 4 (.op 2 (.op 5 (.op 6 .done)))))) (.op 4 (.both (.op 2 (.both (.op 3 (.op 5 (.op 6 .done))) (.op 5 (.op 3 (.op 6 .done))))) (.op 3 (.op 2 (.op 5 (.op 6 .done))))))))) (.both (.op 3 (.both (.op 0 (.both (.op 2 (.op 4 (.op 5 (.op 6 .done)))) (.op 4 (.op 2 (.op 5 (.op 6 .done)))))) (.op 4 (.op 0 (.op 2 (.op 5 (.op 6 .done))))))) (.op 4 (.both (.op 0 (.both (.op 2 (.both (.op 3 (.op 5 (.op 6 .done))) (.op 5 (.op 3 (.op 6 .done))))) (.op 3 (.op 2 (.op 5 (.op 6 .done)))))) (.op 3 (.op 0 (.op 2 (.op 5 (.op 6 .done)))))))))) (.both (.op 3 (.both (.op 0 (.both (.op 1 (.both (.op 2 (.op 4 (.op 5 (.op 6 .done)))) (.op 4 (.op 2 (.op 5 (.op 6 .done)))))) (.op 4 (.op 1 (.op 2 (.op 5 (.op 6 .done))))))) (.both (.op 1 (.both (.op 0 (.both (.op 2 (.op 4 (.op 5 (.op 6 .done)))) (.op 4 (.op 2 (.op 5 (.op 6 .done)))))) (.op 4 (.op 0 (.op 2 (.op 5 (.op 6 .done))))))) (.op 4 (.both (.op 0 (.op 1 (.op 2 (.op 5 (.op 6 .done))))) (.op 1 (.op 0 (.op 2 (.op 5 (.op 6 .done)))))))))) (.op 4 (.both (.op 0 (.both (.op 1 (.both (.op 2 (.both (.op 3 (.op 5 (.op 6 .done))) (.op 5 (.op 3 (.op 6 .done))))) (.op 3 (.op 2 (.op 5 (.op 6 .done)))))) (.op 3 (.op 1 (.op 2 (.op 5 (.op 6 .done))))))) (.both (.op 1 (.both (.op 0 (.both (.op 2 (.both (.op 3 (.op 5 (.op 6 .done))) (.op 5 (.op 3 (.op 6 .done))))) (.op 3 (.op 2 (.op 5 (.op 6 .done)))))) (.op 3 (.op 0 (.op 2 (.op 5 (.op 6 .done))))))) (.op 3 (.both (.op 0 (.op 1 (.op 2 (.op 5 (.op 6 .done))))) (.op 1 (.op 0 (.op 2 (.op 5 (.op 6 .done)))))))))))))) .ret) .skip))) (.reg f5_r13 [] none)))))
def f5_r15 : List LOp := [
  ⟨some 47, .load 40 (.tmp 5), none⟩,
  ⟨some 48, .nilCheck (.tmp 47), none⟩,
  ⟨some 49, .fieldAddr 43 (.tmp 48) 0, none⟩,
  ⟨some 50, .load 23 (.tmp 49), none⟩,
  ⟨some 51, .call { callee := .builtin .len, args := #[.tmp 50], argTypes := #[23] }, none⟩,
  ⟨some 52, .binOp .eql 3 (.tmp 51) (.const (.int .i64 0)) 3, none⟩,
  ⟨some 46, .assign (.tmp 52), none⟩]
def f5_r16 : List LOp := [
  ⟨none, .store 23 (.tmp 2) (.const (.slice none 0 0)), none⟩,
  ⟨none, .store 3 (.tmp 3) (.const (.int .i64 0)), none⟩,
  ⟨none, .store 24 (.tmp 4) (.const (.int .i64 2)), none⟩]
def f5_r17 : List LOp := [
  ⟨some 54, .load 40 (.tmp 5), none⟩,
  ⟨some 55, .nilCheck (.tmp 54), none⟩,
  ⟨some 56, .fieldAddr 43 (.tmp 55) 0, none⟩,
  ⟨some 57, .load 23 (.tmp 56), none⟩,
  ⟨some 58, .call { callee := .value (.func 12), args := #[.tmp 57], argTypes := #[23] }, none⟩,
  ⟨some 59, .unOp .not 4 (.tmp 58), none⟩,
  ⟨some 53, .assign (.tmp 59), none⟩]
def f5_r18 : List LOp := [
  ⟨none, .store 23 (.tmp 2) (.const (.slice none 0 0)), none⟩,
  ⟨none, .store 3 (.tmp 3) (.const (.int .i64 0)), none⟩,
  ⟨none, .store 24 (.tmp 4) (.const (.int .i64 4)), none⟩]
def f5_r19 : List LOp := [
  ⟨some 60, .load 40 (.tmp 5), none⟩,
  ⟨some 61, .nilCheck (.tmp 60), none⟩,
  ⟨some 62, .fieldAddr 43 (.tmp 61) 0, none⟩,
  ⟨some 63, .load 23 (.tmp 62), none⟩,
  ⟨none, .store 23 (.tmp 2) (.tmp 63), none⟩,
  ⟨none, .store 3 (.tmp 3) (.const (.int .i64 0)), none⟩,
  ⟨none, .store 24 (.tmp 4) (.const (.int .i64 0)), none⟩]
def f5_c : LC := (.seq (.reg f5_r0 [] none) (.seq (.seq (.reg f5_r1 [] none) (.cond (.tmp 14) (.seq (.reg f5_r2 [] none) .ret) .skip)) (.seq (.reg f5_r3 [2] none) (.seq (.reg f5_r4 [] none) (.seq (.seq (.reg f5_r5 [] none) (.block 0 (.rfun (.tmp 19) [20] f5_a14 f5_b14))) (.seq (.block 2 (.seq (.reg f5_r15 [] none) (.cond (.tmp 46) (.seq (.reg f5_r16 [] none) .ret) (.seq (.reg f5_r17 [] none) (.cond (.tmp 53) (.seq (.reg f5_r18 [] none) .ret) .skip))))) (.seq (.reg f5_r19 [] none) .ret)))))))
theorem f5_lc : Tryd.f5.body.map lc = some f5_c.st := by kernel_rfl
theorem f5_res : Tryd.f5.results.toList = [.cell 2 23, .cell 3 3, .cell 4 24] := by kernel_rfl
theorem f5_nt : Tryd.f5.ntmps = 64 := by kernel_rfl
theorem f5_nm : (Tryd.f5.name == "runtime.NumGoroutine") = false := by kernel_rfl
/-! quill/quilllaw19.awake -/
def f6_r0 : List LOp := [
  ⟨some 0, .assign (.const (.bool false)), none⟩]
def f6_r1 : List LOp := [
  ⟨some 7, .call { callee := .value (.func 5), args := #[.const (.string { data := #[105, 100, 32, 91, 97, 45, 122, 93, 91, 97, 45, 122, 93, 42, 10] })], argTypes := #[9] }, none⟩,
  ⟨some 6, .move (.tmp 7), none⟩,
  ⟨some 8, .extract (.tmp 6) 0, none⟩,
  ⟨some 9, .extract (.tmp 6) 1, none⟩,
  ⟨some 10, .extract (.tmp 6) 2, none⟩,
  ⟨some 1, .assign (.tmp 8), none⟩,
  ⟨some 2, .assign (.tmp 9), none⟩,
  ⟨some 3, .assign (.tmp 10), none⟩]
def f6_r2 : List LOp := [
  ⟨some 12, .move (.tmp 1), none⟩,
  ⟨some 13, .call { callee := .value (.func 13), args := #[.tmp 12], argTypes := #[23] }, none⟩,
  ⟨some 11, .move (.tmp 13), none⟩,
  ⟨some 14, .extract (.tmp 11) 0, none⟩,
  ⟨some 15, .extract (.tmp 11) 1, none⟩,
  ⟨some 4, .assign (.tmp 14), none⟩,
  ⟨some 5, .assign (.tmp 15), none⟩]
def f6_r3 : List LOp := [
  ⟨some 16, .move (.tmp 3), none⟩,
  ⟨some 17, .binOp .eql 24 (.tmp 16) (.const (.int .i64 0)) 24, none⟩,
  ⟨some 18, .move (.tmp 17), none⟩,
  ⟨some 19, .move (.tmp 5), some (2, true)⟩,
  ⟨some 20, .binOp .eql 24 (.tmp 19) (.const (.int .i64 0)) 24, some (2, true)⟩,
  ⟨some 21, .pick (.tmp 18) (.tmp 20) (.const (.bool false)), none⟩,
  ⟨some 22, .move (.tmp 21), none⟩,
  ⟨some 23, .move (.tmp 4), some (6, true)⟩,
  ⟨some 24, .binOp .eql 9 (.tmp 23) (.const (.string { data := #[105, 100, 32, 91, 97, 45, 122, 93, 91, 97, 45, 122, 93, 42, 10] })) 9, some (6, true)⟩,
  ⟨some 25, .pick (.tmp 22) (.tmp 24) (.const (.bool false)), none⟩,
  ⟨some 0, .assign (.tmp 25), none⟩]
def f6_c : LC := (.seq (.reg f6_r0 [] none) (.seq (.reg f6_r1 [] none) (.seq (.reg f6_r2 [] none) (.seq (.reg f6_r3 [] none) .ret))))
theorem f6_lc : Tryd.f6.body.map lc = some f6_c.st := by kernel_rfl
theorem f6_res : Tryd.f6.results.toList = [.tmp 0] := by kernel_rfl
theorem f6_nt : Tryd.f6.ntmps = 26 := by kernel_rfl
theorem f6_nm : (Tryd.f6.name == "runtime.NumGoroutine") = false := by kernel_rfl
/-! quill/quillref19.Great -/
/-! quill/rules.Names -/
/-! strings.Lines -/
def f9_r0 : List LOp := [
  ⟨some 1, .box 9 (.tmp 0), none⟩,
  ⟨some 2, .assign (.const .nilFunc), none⟩]
def f9_r1 : List LOp := [
  ⟨some 3, .makeFunc (.func 15) #[] #[.tmp 1], none⟩,
  ⟨some 2, .assign (.tmp 3), none⟩]
def f9_c : LC := (.seq (.reg f9_r0 [0] none) (.seq (.reg f9_r1 [] none) .ret))
theorem f9_lc : Tryd.f9.body.map lc = some f9_c.st := by kernel_rfl
theorem f9_res : Tryd.f9.results.toList = [.tmp 2] := by kernel_rfl
theorem f9_nt : Tryd.f9.ntmps = 4 := by kernel_rfl
theorem f9_nm : (Tryd.f9.name == "runtime.NumGoroutine") = false := by kernel_rfl
/-! strings.CutSuffix -/
def f10_r0 : List LOp := [
  ⟨some 4, .assign (.const (.string { data := #[] })), none⟩,
  ⟨some 5, .assign (.const (.bool false)), none⟩]
def f10_r1 : List LOp := [
  ⟨some 6, .move (.tmp 0), none⟩,
  ⟨some 7, .move (.tmp 1), none⟩,
  ⟨some 8, .call { callee := .value (.func 17), args := #[.tmp 6, .tmp 7], argTypes := #[9, 9] }, none⟩,
  ⟨some 9, .extract (.tmp 8) 0, none⟩,
  ⟨some 10, .extract (.tmp 8) 1, none⟩,
  ⟨some 4, .assign (.tmp 9), none⟩,
  ⟨some 5, .assign (.tmp 10), none⟩]
def f10_c : LC := (.seq (.reg f10_r0 [] none) (.seq (.reg f10_r1 [] none) .ret))
theorem f10_lc : Tryd.f10.body.map lc = some f10_c.st := by kernel_rfl
theorem f10_res : Tryd.f10.results.toList = [.tmp 4, .tmp 5] := by kernel_rfl
theorem f10_nt : Tryd.f10.ntmps = 11 := by kernel_rfl
theorem f10_nm : (Tryd.f10.name == "runtime.NumGoroutine") = false := by kernel_rfl
/-! (*quill/rules.reader).line -/
def f11_r0 : List LOp := [
  ⟨some 4, .assign (.const (.int .i64 0)), none⟩,
  ⟨some 5, .assign (.const (.int .i64 0)), none⟩]
def f11_r1 : List LOp := [
  ⟨some 13, .move (.tmp 1), none⟩,
  ⟨some 14, .call { callee := .value (.func 18), args := #[.tmp 13, .const (.string { data := #[32] })], argTypes := #[9, 9] }, none⟩,
  ⟨some 12, .move (.tmp 14), none⟩,
  ⟨some 15, .extract (.tmp 12) 0, none⟩,
  ⟨some 16, .extract (.tmp 12) 1, none⟩,
  ⟨some 17, .extract (.tmp 12) 2, none⟩,
  ⟨some 6, .assign (.tmp 15), none⟩,
  ⟨some 7, .assign (.tmp 16), none⟩,
  ⟨some 8, .assign (.tmp 17), none⟩]
def f11_r2 : List LOp := [
  ⟨some 19, .move (.tmp 0), none⟩,
  ⟨some 20, .nilCheck (.tmp 19), none⟩,
  ⟨some 21, .fieldAddr 43 (.tmp 20) 0, none⟩,
  ⟨some 22, .load 23 (.tmp 21), none⟩,
  ⟨some 23, .call { callee := .builtin .len, args := #[.tmp 22], argTypes := #[23] }, none⟩,
  ⟨some 24, .binOp .geq 3 (.tmp 23) (.const (.int .i64 100)) 3, none⟩,
  ⟨some 18, .assign (.tmp 24), none⟩]
def f11_r3 : List LOp := [
  ⟨some 4, .assign (.const (.int .i64 0)), none⟩,
  ⟨some 5, .assign (.const (.int .i64 4)), none⟩]
def f11_r4 : List LOp := [
  ⟨some 26, .move (.tmp 8), none⟩,
  ⟨some 27, .unOp .not 4 (.tmp 26), none⟩,
  ⟨some 28, .move (.tmp 27), none⟩,
  ⟨some 29, .move (.tmp 6), some (2, false)⟩,
  ⟨some 30, .buildSlice 30 1 #[(0, .tmp 29)], some (2, false)⟩,
  ⟨some 31, .call { callee := .value (.func 19), args := #[.tmp 30], argTypes := #[30] }, some (2, false)⟩,
  ⟨some 32, .unOp .not 4 (.tmp 31), some (2, false)⟩,
  ⟨some 33, .pick (.tmp 28) (.const (.bool true)) (.tmp 32), none⟩,
  ⟨some 34, .move (.tmp 33), none⟩,
  ⟨some 35, .move (.tmp 0), some (8, false)⟩,
  ⟨some 36, .nilCheck (.tmp 35), some (8, false)⟩,
  ⟨some 37, .fieldAddr 43 (.tmp 36) 1, some (8, false)⟩,
  ⟨some 38, .load 41 (.tmp 37), some (8, false)⟩,
  ⟨some 39, .move (.tmp 6), some (8, false)⟩,
  ⟨some 40, .lookup 41 (.tmp 38) (.tmp 39) false, some (8, false)⟩,
  ⟨some 41, .pick (.tmp 34) (.const (.bool true)) (.tmp 40), none⟩,
  ⟨some 25, .assign (.tmp 41), none⟩]
def f11_r5 : List LOp := [
  ⟨some 4, .assign (.const (.int .i64 0)), none⟩,
  ⟨some 5, .assign (.const (.int .i64 2)), none⟩]
def f11_r6 : List LOp := [
  ⟨some 43, .move (.tmp 7), none⟩,
  ⟨some 44, .call { callee := .value (.func 20), args := #[.tmp 43], argTypes := #[9] }, none⟩,
  ⟨some 42, .move (.tmp 44), none⟩,
  ⟨some 45, .extract (.tmp 42) 0, none⟩,
  ⟨some 46, .extract (.tmp 42) 1, none⟩,
  ⟨some 47, .extract (.tmp 42) 2, none⟩,
  ⟨some 9, .alloc 37, none⟩,
  ⟨none, .store 37 (.tmp 9) (.tmp 45), none⟩,
  ⟨some 10, .assign (.tmp 46), none⟩,
  ⟨some 11, .assign (.tmp 47), none⟩]
def f11_r7 : List LOp := [
  ⟨some 48, .move (.tmp 11), none⟩,
  ⟨some 49, .binOp .eql 24 (.tmp 48) (.const (.int .i64 2)) 24, none⟩]
def f11_r8 : List LOp := [
  ⟨some 50, .move (.tmp 6), none⟩,
  ⟨some 51, .call { callee := .builtin .len, args := #[.tmp 50], argTypes := #[9] }, none⟩,
  ⟨some 52, .binOp .add 3 (.tmp 51) (.const (.int .i64 1)) 3, none⟩,
  ⟨some 53, .move (.tmp 10), none⟩,
  ⟨some 54, .binOp .add 3 (.tmp 52) (.tmp 53) 3, none⟩,
  ⟨some 55, .move (.tmp 11), none⟩,
  ⟨some 4, .assign (.tmp 54), none⟩,
  ⟨some 5, .assign (.tmp 55), none⟩]
def f11_r9 : List LOp := [
  ⟨some 56, .move (.tmp 0), none⟩,
  ⟨some 57, .nilCheck (.tmp 56), none⟩,
  ⟨some 58, .fieldAddr 43 (.tmp 57) 1, none⟩,
  ⟨some 59, .load 41 (.tmp 58), none⟩,
  ⟨some 60, .move (.tmp 6), none⟩,
  ⟨none, .mapUpdate 41 (.tmp 59) (.tmp 60) (.const (.bool true)), none⟩]
def f11_r10 : List LOp := [
  ⟨some 61, .move (.tmp 0), none⟩,
  ⟨some 62, .move (.tmp 0), none⟩,
  ⟨some 63, .nilCheck (.tmp 62), none⟩,
  ⟨some 64, .fieldAddr 43 (.tmp 63) 0, none⟩,
  ⟨some 65, .load 23 (.tmp 64), none⟩,
  ⟨some 66, .move (.tmp 6), none⟩,
  ⟨some 67, .load 37 (.tmp 9), none⟩,
  ⟨some 68, .build 39 #[(0, .tmp 66), (1, .tmp 67)], none⟩,
  ⟨some 69, .buildSlice 23 1 #[(0, .tmp 68)], none⟩,
  ⟨some 70, .call { callee := .builtin .append, args := #[.tmp 65, .tmp 69], argTypes := #[23, 23] }, none⟩,
  ⟨some 71, .nilCheck (.tmp 61), none⟩,
  ⟨some 72, .fieldAddr 43 (.tmp 71) 0, none⟩,
  ⟨none, .store 23 (.tmp 72) (.tmp 70), none⟩]
def f11_r11 : List LOp := [
  ⟨some 73, .move (.tmp 11), none⟩,
  ⟨some 4, .assign (.const (.int .i64 0)), none⟩,
  ⟨some 5, .assign (.tmp 73), none⟩]
def f11_c : LC := (.seq (.reg f11_r0 [] none) (.seq (.reg f11_r1 [] none) (.seq (.block 0 (.seq (.reg f11_r2 [] none) (.cond (.tmp 18) (.seq (.reg f11_r3 [] none) .ret) (.seq (.reg f11_r4 [] none) (.cond (.tmp 25) (.seq (.reg f11_r5 [] none) .ret) .skip))))) (.seq (.reg f11_r6 [] none) (.seq (.seq (.reg f11_r7 [] none) (.cond (.tmp 49) (.seq (.reg f11_r8 [] none) .ret) .skip)) (.seq (.reg f11_r9 [] none) (.seq (.regp f11_r10 [] [0, 1, 5] 9) (.seq (.reg f11_r11 [] none) .ret))))))))
theorem f11_lc : Tryd.f11.body.map lc = some f11_c.st := by kernel_rfl
theorem f11_res : Tryd.f11.results.toList = [.tmp 4, .tmp 5] := by kernel_rfl
theorem f11_nt : Tryd.f11.ntmps = 74 := by kernel_rfl
theorem f11_nm : (Tryd.f11.name == "runtime.NumGoroutine") = false := by kernel_rfl
/-! quill/rules.few -/
def f12_r0 : List LOp := [
  ⟨some 2, .assign (.const (.bool false)), none⟩]
def f12_r1 : List LOp := [
  ⟨some 6, .move (.tmp 0), none⟩,
  ⟨some 7, .call { callee := .builtin .len, args := #[.tmp 6], argTypes := #[23] }, none⟩,
  ⟨some 8, .binOp .sub 3 (.tmp 7) (.const (.int .i64 1)) 3, none⟩,
  ⟨some 3, .assign (.tmp 8), none⟩]
def f12_r2 : List LOp := [
  ⟨some 9, .move (.tmp 0), none⟩,
  ⟨some 10, .call { callee := .builtin .len, args := #[.tmp 9], argTypes := #[23] }, none⟩,
  ⟨some 11, .move (.const (.int .i64 0)), none⟩]
def f12_r3 : List LOp := [
  ⟨some 12, .binOp .lss 3 (.tmp 11) (.tmp 10) 3, none⟩]
def f12_r4 : List LOp := [
  ⟨some 13, .indexAddr 23 (.tmp 9) (.tmp 11), none⟩,
  ⟨some 14, .load 39 (.tmp 13), none⟩,
  ⟨some 5, .alloc 39, none⟩,
  ⟨none, .store 39 (.tmp 5) (.tmp 14), none⟩]
def f12_r5 : List LOp := [
  ⟨some 15, .move (.tmp 3), none⟩,
  ⟨some 16, .fieldAddr 39 (.tmp 5) 1, none⟩,
  ⟨some 17, .load 37 (.tmp 16), none⟩,
  ⟨some 18, .buildSlice 35 1 #[(0, .tmp 17)], none⟩,
  ⟨some 19, .call { callee := .value (.func 21), args := #[.tmp 18], argTypes := #[35] }, none⟩,
  ⟨some 20, .binOp .add 3 (.tmp 15) (.tmp 19) 3, none⟩,
  ⟨some 3, .assign (.tmp 20), none⟩]
def f12_r6 : List LOp := [
  ⟨some 21, .binOp .add 3 (.tmp 11) (.const (.int .i64 1)) 3, none⟩,
  ⟨some 11, .move (.tmp 21), none⟩]
def f12_l7 : LC := (.seq (.reg f12_r3 [] none) (.seq (.cond (.tmp 12) .skip (.exit 0)) (.seq (.block 1 (.seq (.reg f12_r4 [] none) (.reg f12_r5 [] none))) (.reg f12_r6 [] none))))
def f12_i7 (t3 t9 t10 t11 : D) : List D := [.any, .any, .any, t3, .any, .any, .any, .any, .any, t9, t10, t11, .any, .any, .any, .any, .any, .any, .any, .any, .any, .any, .any, .any]
def f12_r8 : List LOp := [
  ⟨some 22, .move (.tmp 3), none⟩,
  ⟨some 23, .binOp .leq 3 (.tmp 22) (.const (.int .i64 2000)) 3, none⟩,
  ⟨some 2, .assign (.tmp 23), none⟩]
def f12_c : LC := (.seq (.reg f12_r0 [] none) (.seq (.reg f12_r1 [] none) (.seq (.seq (.reg f12_r2 [] none) (.block 0 (.loop f12_l7))) (.seq (.reg f12_r8 [] none) .ret))))
theorem f12_lc : Tryd.f12.body.map lc = some f12_c.st := by kernel_rfl
theorem f12_res : Tryd.f12.results.toList = [.tmp 2] := by kernel_rfl
theorem f12_nt : Tryd.f12.ntmps = 24 := by kernel_rfl
theorem f12_nm : (Tryd.f12.name == "runtime.NumGoroutine") = false := by kernel_rfl
/-! quill/rules.Print -/
def f13_r0 : List LOp := [
  ⟨some 2, .assign (.const (.string { data := #[] })), none⟩,
  ⟨some 3, .assign (.const (.int .i64 0)), none⟩]
def f13_r1 : List LOp := [
  ⟨some 7, .move (.tmp 0), none⟩,
  ⟨some 8, .call { callee := .value (.func 22), args := #[.tmp 7], argTypes := #[23] }, none⟩,
  ⟨some 9, .unOp .not 4 (.tmp 8), none⟩]
def f13_r2 : List LOp := [
  ⟨some 2, .assign (.const (.string { data := #[] })), none⟩,
  ⟨some 3, .assign (.const (.int .i64 1)), none⟩]
def f13_r3 : List LOp := [
  ⟨some 4, .alloc 65, none⟩]
def f13_r4 : List LOp := [
  ⟨some 10, .move (.tmp 0), none⟩,
  ⟨some 11, .call { callee := .builtin .len, args := #[.tmp 10], argTypes := #[23] }, none⟩,
  ⟨some 12, .move (.const (.int .i64 0)), none⟩]
def f13_r5 : List LOp := [
  ⟨some 13, .binOp .lss 3 (.tmp 12) (.tmp 11) 3, none⟩]
def f13_r6 : List LOp := [
  ⟨some 14, .indexAddr 23 (.tmp 10) (.tmp 12), none⟩,
  ⟨some 15, .load 39 (.tmp 14), none⟩,
  ⟨some 6, .alloc 39, none⟩,
  ⟨none, .store 39 (.tmp 6) (.tmp 15), none⟩]
def f13_r7 : List LOp := [
  ⟨some 16, .fieldAddr 39 (.tmp 6) 0, none⟩,
  ⟨some 17, .load 9 (.tmp 16), none⟩,
  ⟨some 18, .binOp .add 9 (.tmp 17) (.const (.string { data := #[32] })) 9, none⟩,
  ⟨some 19, .fieldAddr 39 (.tmp 6) 1, none⟩,
  ⟨some 20, .load 37 (.tmp 19), none⟩,
  ⟨some 21, .call { callee := .value (.func 24), args := #[.tmp 20], argTypes := #[37] }, none⟩,
  ⟨some 22, .binOp .add 9 (.tmp 18) (.tmp 21) 9, none⟩,
  ⟨some 23, .binOp .add 9 (.tmp 22) (.const (.string { data := #[10] })) 9, none⟩,
  ⟨some 24, .call { callee := .value (.func 23), args := #[.tmp 4, .tmp 23], argTypes := #[65, 9] }, none⟩]
def f13_r8 : List LOp := [
  ⟨some 25, .binOp .add 3 (.tmp 12) (.const (.int .i64 1)) 3, none⟩,
  ⟨some 12, .move (.tmp 25), none⟩]
def f13_l9 : LC := (.seq (.reg f13_r5 [] none) (.seq (.cond (.tmp 13) .skip (.exit 0)) (.seq (.block 1 (.seq (.reg f13_r6 [] none) (.reg f13_r7 [] (some 6)))) (.reg f13_r8 [] none))))
def f13_i9 (t4 t10 t11 t12 : D) : List D := [.any, .any, .any, .any, t4, .any, .any, .any, .any, .any, t10, t11, t12, .any, .any, .any, .any, .any, .any, .any, .any, .any, .any, .any, .any, .any, .any, .any, .any]
def f13_r10 : List LOp := [
  ⟨some 26, .call { callee := .value (.func 25), args := #[.tmp 4], argTypes := #[65] }, none⟩,
  ⟨some 27, .binOp .gtr 3 (.tmp 26) (.const (.int .i64 65536)) 3, none⟩]
def f13_r11 : List LOp := [
  ⟨some 2, .assign (.const (.string { data := #[] })), none⟩,
  ⟨some 3, .assign (.const (.int .i64 3)), none⟩]
def f13_r12 : List LOp := [
  ⟨some 28, .call { callee := .value (.func 26), args := #[.tmp 4], argTypes := #[65] }, none⟩,
  ⟨some 2, .assign (.tmp 28), none⟩,
  ⟨some 3, .assign (.const (.int .i64 0)), none⟩]
def f13_c : LC := (.seq (.reg f13_r0 [] none) (.seq (.seq (.reg f13_r1 [] none) (.cond (.tmp 9) (.seq (.reg f13_r2 [] none) .ret) .skip)) (.seq (.reg f13_r3 [] none) (.seq (.seq (.reg f13_r4 [] none) (.block 0 (.loop f13_l9))) (.seq (.seq (.reg f13_r10 [] none) (.cond (.tmp 27) (.seq (.reg f13_r11 [] none) .ret) .skip)) (.seq (.reg f13_r12 [] none) .ret))))))
theorem f13_lc : Tryd.f13.body.map lc = some f13_c.st := by kernel_rfl
theorem f13_res : Tryd.f13.results.toList = [.tmp 2, .tmp 3] := by kernel_rfl
theorem f13_nt : Tryd.f13.ntmps = 29 := by kernel_rfl
theorem f13_nm : (Tryd.f13.name == "runtime.NumGoroutine") = false := by kernel_rfl
/-! strings.Lines$1 -/
def f15_r0 : List LOp := [
  ⟨some 5, .load 9 (.tmp 1), none⟩,
  ⟨some 6, .call { callee := .builtin .len, args := #[.tmp 5], argTypes := #[9] }, none⟩,
  ⟨some 7, .binOp .gtr 3 (.tmp 6) (.const (.int .i64 0)) 3, none⟩]
def f15_r1 : List LOp := [
  ⟨some 3, .assign (.const (.string { data := #[] })), none⟩]
def f15_r2 : List LOp := [
  ⟨some 8, .load 9 (.tmp 1), none⟩,
  ⟨some 9, .call { callee := .value (.func 16), args := #[.tmp 8, .const (.int .u8 10)], argTypes := #[9, 5] }, none⟩,
  ⟨some 4, .assign (.tmp 9), none⟩]
def f15_r3 : List LOp := [
  ⟨some 10, .move (.tmp 4), none⟩,
  ⟨some 11, .binOp .geq 3 (.tmp 10) (.const (.int .i64 0)) 3, none⟩]
def f15_r4 : List LOp := [
  ⟨some 12, .load 9 (.tmp 1), none⟩,
  ⟨some 13, .move (.tmp 4), none⟩,
  ⟨some 14, .binOp .add 3 (.tmp 13) (.const (.int .i64 1)) 3, none⟩,
  ⟨some 15, .slice 9 (.tmp 12) none (some (.tmp 14)) none, none⟩,
  ⟨some 16, .load 9 (.tmp 1), none⟩,
  ⟨some 17, .move (.tmp 4), none⟩,
  ⟨some 18, .binOp .add 3 (.tmp 17) (.const (.int .i64 1)) 3, none⟩,
  ⟨some 19, .slice 9 (.tmp 16) (some (.tmp 18)) none none, none⟩,
  ⟨some 3, .assign (.tmp 15), none⟩,
  ⟨none, .store 9 (.tmp 1) (.tmp 19), none⟩]
def f15_r5 : List LOp := [
  ⟨some 20, .load 9 (.tmp 1), none⟩,
  ⟨some 3, .assign (.tmp 20), none⟩,
  ⟨none, .store 9 (.tmp 1) (.const (.string { data := #[] })), none⟩]
def f15_r6 : List LOp := [
  ⟨some 21, .move (.tmp 0), none⟩,
  ⟨some 22, .move (.tmp 3), none⟩,
  ⟨some 23, .call { callee := .value (.tmp 21), args := #[.tmp 22], argTypes := #[9] }, none⟩,
  ⟨some 24, .unOp .not 4 (.tmp 23), none⟩]
def f15_l7 : LC := (.seq (.seq (.reg f15_r0 [] none) (.cond (.tmp 7) .skip (.exit 0))) (.block 1 (.seq (.reg f15_r1 [] none) (.seq (.seq (.reg f15_r2 [] none) (.seq (.reg f15_r3 [] none) (.cond (.tmp 11) (.regp f15_r4 [] [1, 2, 5, 6] 9) (.reg f15_r5 [] none)))) (.seq (.reg f15_r6 [] none) (.cond (.tmp 24) .ret .skip))))))
def f15_i7 (t0 t1 : D) : List D := [t0, t1, .any, .any, .any, .any, .any, .any, .any, .any, .any, .any, .any, .any, .any, .any, .any, .any, .any, .any, .any, .any, .any, .any, .any]
def f15_c : LC := (.block 0 (.loop f15_l7))
theorem f15_lc : Tryd.f15.body.map lc = some f15_c.st := by kernel_rfl
theorem f15_res : Tryd.f15.results.toList = [] := by kernel_rfl
theorem f15_nt : Tryd.f15.ntmps = 25 := by kernel_rfl
theorem f15_nm : (Tryd.f15.name == "runtime.NumGoroutine") = false := by kernel_rfl
/-! internal/stringslite.CutSuffix -/
def f17_r0 : List LOp := [
  ⟨some 4, .assign (.const (.string { data := #[] })), none⟩,
  ⟨some 5, .assign (.const (.bool false)), none⟩]
def f17_r1 : List LOp := [
  ⟨some 6, .move (.tmp 0), none⟩,
  ⟨some 7, .move (.tmp 1), none⟩,
  ⟨some 8, .call { callee := .value (.func 29), args := #[.tmp 6, .tmp 7], argTypes := #[9, 9] }, none⟩,
  ⟨some 9, .unOp .not 4 (.tmp 8), none⟩]
def f17_r2 : List LOp := [
  ⟨some 10, .move (.tmp 0), none⟩,
  ⟨some 4, .assign (.tmp 10), none⟩,
  ⟨some 5, .assign (.const (.bool false)), none⟩]
def f17_r3 : List LOp := [
  ⟨some 11, .move (.tmp 0), none⟩,
  ⟨some 12, .move (.tmp 0), none⟩,
  ⟨some 13, .call { callee := .builtin .len, args := #[.tmp 12], argTypes := #[9] }, none⟩,
  ⟨some 14, .move (.tmp 1), none⟩,
  ⟨some 15, .call { callee := .builtin .len, args := #[.tmp 14], argTypes := #[9] }, none⟩,
  ⟨some 16, .binOp .sub 3 (.tmp 13) (.tmp 15) 3, none⟩,
  ⟨some 17, .slice 9 (.tmp 11) none (some (.tmp 16)) none, none⟩,
  ⟨some 4, .assign (.tmp 17), none⟩,
  ⟨some 5, .assign (.const (.bool true)), none⟩]
def f17_c : LC := (.seq (.reg f17_r0 [] none) (.seq (.seq (.reg f17_r1 [] none) (.cond (.tmp 9) (.seq (.reg f17_r2 [] none) .ret) .skip)) (.seq (.reg f17_r3 [] none) .ret)))
theorem f17_lc : Tryd.f17.body.map lc = some f17_c.st := by kernel_rfl
theorem f17_res : Tryd.f17.results.toList = [.tmp 4, .tmp 5] := by kernel_rfl
theorem f17_nt : Tryd.f17.ntmps = 18 := by kernel_rfl
theorem f17_nm : (Tryd.f17.name == "runtime.NumGoroutine") = false := by kernel_rfl
/-! strings.Cut -/
def f18_r0 : List LOp := [
  ⟨some 4, .assign (.const (.string { data := #[] })), none⟩,
  ⟨some 5, .assign (.const (.string { data := #[] })), none⟩,
  ⟨some 6, .assign (.const (.bool false)), none⟩]
def f18_r1 : List LOp := [
  ⟨some 7, .move (.tmp 0), none⟩,
  ⟨some 8, .move (.tmp 1), none⟩,
  ⟨some 9, .call { callee := .value (.func 30), args := #[.tmp 7, .tmp 8], argTypes := #[9, 9] }, none⟩,
  ⟨some 10, .extract (.tmp 9) 0, none⟩,
  ⟨some 11, .extract (.tmp 9) 1, none⟩,
  ⟨some 12, .extract (.tmp 9) 2, none⟩,
  ⟨some 4, .assign (.tmp 10), none⟩,
  ⟨some 5, .assign (.tmp 11), none⟩,
  ⟨some 6, .assign (.tmp 12), none⟩]
def f18_c : LC := (.seq (.reg f18_r0 [] none) (.seq (.reg f18_r1 [] none) .ret))
theorem f18_lc : Tryd.f18.body.map lc = some f18_c.st := by kernel_rfl
theorem f18_res : Tryd.f18.results.toList = [.tmp 4, .tmp 5, .tmp 6] := by kernel_rfl
theorem f18_nt : Tryd.f18.ntmps = 13 := by kernel_rfl
theorem f18_nm : (Tryd.f18.name == "runtime.NumGoroutine") = false := by kernel_rfl
/-! quill/num.Name -/
def f19_r0 : List LOp := [
  ⟨some 2, .assign (.const (.bool false)), none⟩]
def f19_r1 : List LOp := [
  ⟨some 3, .move (.tmp 0), none⟩,
  ⟨some 4, .call { callee := .value (.func 31), args := #[.tmp 3, .func 32], argTypes := #[30, 54] }, none⟩,
  ⟨some 5, .unOp .not 4 (.tmp 4), none⟩,
  ⟨some 2, .assign (.tmp 5), none⟩]
def f19_c : LC := (.seq (.reg f19_r0 [] none) (.seq (.reg f19_r1 [] none) .ret))
theorem f19_lc : Tryd.f19.body.map lc = some f19_c.st := by kernel_rfl
theorem f19_res : Tryd.f19.results.toList = [.tmp 2] := by kernel_rfl
theorem f19_nt : Tryd.f19.ntmps = 6 := by kernel_rfl
theorem f19_nm : (Tryd.f19.name == "runtime.NumGoroutine") = false := by kernel_rfl
/-! quill/rules.May -/
def f22_r0 : List LOp := [
  ⟨some 2, .assign (.const (.bool false)), none⟩]
def f22_r1 : List LOp := [
  ⟨some 6, .makeMap 41 none, none⟩,
  ⟨some 3, .assign (.tmp 6), none⟩]
def f22_r2 : List LOp := [
  ⟨some 7, .move (.tmp 0), none⟩,
  ⟨some 8, .call { callee := .builtin .len, args := #[.tmp 7], argTypes := #[23] }, none⟩,
  ⟨some 9, .move (.const (.int .i64 0)), none⟩]
def f22_r3 : List LOp := [
  ⟨some 10, .binOp .lss 3 (.tmp 9) (.tmp 8) 3, none⟩]
def f22_r4 : List LOp := [
  ⟨some 11, .indexAddr 23 (.tmp 7) (.tmp 9), none⟩,
  ⟨some 12, .load 39 (.tmp 11), none⟩,
  ⟨some 5, .alloc 39, none⟩,
  ⟨none, .store 39 (.tmp 5) (.tmp 12), none⟩]
def f22_r5 : List LOp := [
  ⟨some 13, .move (.tmp 3), none⟩,
  ⟨some 14, .fieldAddr 39 (.tmp 5) 0, none⟩,
  ⟨some 15, .load 9 (.tmp 14), none⟩,
  ⟨some 16, .lookup 41 (.tmp 13) (.tmp 15) false, none⟩,
  ⟨some 17, .move (.tmp 16), none⟩,
  ⟨some 18, .fieldAddr 39 (.tmp 5) 0, some (4, false)⟩,
  ⟨some 19, .load 9 (.tmp 18), some (4, false)⟩,
  ⟨some 20, .buildSlice 30 1 #[(0, .tmp 19)], some (4, false)⟩,
  ⟨some 21, .call { callee := .value (.func 19), args := #[.tmp 20], argTypes := #[30] }, some (4, false)⟩,
  ⟨some 22, .unOp .not 4 (.tmp 21), some (4, false)⟩,
  ⟨some 23, .pick (.tmp 17) (.const (.bool true)) (.tmp 22), none⟩,
  ⟨some 24, .move (.tmp 23), none⟩,
  ⟨some 25, .fieldAddr 39 (.tmp 5) 1, some (11, false)⟩,
  ⟨some 26, .load 37 (.tmp 25), some (11, false)⟩,
  ⟨some 27, .buildSlice 35 1 #[(0, .tmp 26)], some (11, false)⟩,
  ⟨some 28, .call { callee := .value (.func 35), args := #[.tmp 27], argTypes := #[35] }, some (11, false)⟩,
  ⟨some 29, .unOp .not 4 (.tmp 28), some (11, false)⟩,
  ⟨some 30, .pick (.tmp 24) (.const (.bool true)) (.tmp 29), none⟩]
def f22_r6 : List LOp := [
  ⟨some 2, .assign (.const (.bool false)), none⟩]
def f22_r7 : List LOp := [
  ⟨some 31, .move (.tmp 3), none⟩,
  ⟨some 32, .fieldAddr 39 (.tmp 5) 0, none⟩,
  ⟨some 33, .load 9 (.tmp 32), none⟩,
  ⟨none, .mapUpdate 41 (.tmp 31) (.tmp 33) (.const (.bool true)), none⟩]
def f22_r8 : List LOp := [
  ⟨some 34, .binOp .add 3 (.tmp 9) (.const (.int .i64 1)) 3, none⟩,
  ⟨some 9, .move (.tmp 34), none⟩]
def f22_l9 : LC := (.seq (.reg f22_r3 [] none) (.seq (.cond (.tmp 10) .skip (.exit 0)) (.seq (.block 1 (.seq (.reg f22_r4 [] none) (.seq (.seq (.reg f22_r5 [] none) (.cond (.tmp 30) (.seq (.reg f22_r6 [] none) .ret) .skip)) (.reg f22_r7 [] none)))) (.reg f22_r8 [] none))))
def f22_i9 (t0 t3 t7 t8 t9 : D) : List D := [t0, .any, .any, t3, .any, .any, .any, t7, t8, t9, .any, .any, .any, .any, .any, .any, .any, .any, .any, .any, .any, .any, .any, .any, .any, .any, .any, .any, .any, .any, .any, .any, .any, .any, .any, .any, .any, .any, .any, .any, .any, .any, .any, .any, .any, .any, .any]
def f22_r10 : List LOp := [
  ⟨some 35, .move (.tmp 0), none⟩,
  ⟨some 36, .call { callee := .builtin .len, args := #[.tmp 35], argTypes := #[23] }, none⟩,
  ⟨some 37, .binOp .geq 3 (.tmp 36) (.const (.int .i64 1)) 3, none⟩,
  ⟨some 38, .move (.tmp 37), none⟩,
  ⟨some 39, .move (.tmp 0), some (3, true)⟩,
  ⟨some 40, .call { callee := .builtin .len, args := #[.tmp 39], argTypes := #[23] }, some (3, true)⟩,
  ⟨some 41, .binOp .leq 3 (.tmp 40) (.const (.int .i64 100)) 3, some (3, true)⟩,
  ⟨some 42, .pick (.tmp 38) (.tmp 41) (.const (.bool false)), none⟩,
  ⟨some 43, .move (.tmp 42), none⟩,
  ⟨some 44, .move (.tmp 0), some (8, true)⟩,
  ⟨some 45, .call { callee := .value (.func 12), args := #[.tmp 44], argTypes := #[23] }, some (8, true)⟩,
  ⟨some 46, .pick (.tmp 43) (.tmp 45) (.const (.bool false)), none⟩,
  ⟨some 2, .assign (.tmp 46), none⟩]
def f22_c : LC := (.seq (.reg f22_r0 [] none) (.seq (.reg f22_r1 [] none) (.seq (.seq (.reg f22_r2 [] none) (.block 0 (.loop f22_l9))) (.seq (.reg f22_r10 [] none) .ret))))
theorem f22_lc : Tryd.f22.body.map lc = some f22_c.st := by kernel_rfl
theorem f22_res : Tryd.f22.results.toList = [.tmp 2] := by kernel_rfl
theorem f22_nt : Tryd.f22.ntmps = 47 := by kernel_rfl
theorem f22_nm : (Tryd.f22.name == "runtime.NumGoroutine") = false := by kernel_rfl
/-! (*strings.Builder).Len -/
def f25_r0 : List LOp := [
  ⟨some 2, .assign (.const (.int .i64 0)), none⟩]
def f25_r1 : List LOp := [
  ⟨some 3, .move (.tmp 0), none⟩,
  ⟨some 4, .nilCheck (.tmp 3), none⟩,
  ⟨some 5, .fieldAddr 65 (.tmp 4) 1, none⟩,
  ⟨some 6, .load 22 (.tmp 5), none⟩,
  ⟨some 7, .call { callee := .builtin .len, args := #[.tmp 6], argTypes := #[22] }, none⟩,
  ⟨some 2, .assign (.tmp 7), none⟩]
def f25_c : LC := (.seq (.reg f25_r0 [] none) (.seq (.reg f25_r1 [] none) .ret))
theorem f25_lc : Tryd.f25.body.map lc = some f25_c.st := by kernel_rfl
theorem f25_res : Tryd.f25.results.toList = [.tmp 2] := by kernel_rfl
theorem f25_nt : Tryd.f25.ntmps = 8 := by kernel_rfl
theorem f25_nm : (Tryd.f25.name == "runtime.NumGoroutine") = false := by kernel_rfl
/-! internal/stringslite.HasSuffix -/
def f29_r0 : List LOp := [
  ⟨some 4, .assign (.const (.bool false)), none⟩]
def f29_r1 : List LOp := [
  ⟨some 5, .move (.tmp 0), none⟩,
  ⟨some 6, .call { callee := .builtin .len, args := #[.tmp 5], argTypes := #[9] }, none⟩,
  ⟨some 7, .move (.tmp 1), none⟩,
  ⟨some 8, .call { callee := .builtin .len, args := #[.tmp 7], argTypes := #[9] }, none⟩,
  ⟨some 9, .binOp .geq 3 (.tmp 6) (.tmp 8) 3, none⟩,
  ⟨some 10, .move (.tmp 9), none⟩,
  ⟨some 11, .move (.tmp 0), some (5, true)⟩,
  ⟨some 12, .move (.tmp 0), some (5, true)⟩,
  ⟨some 13, .call { callee := .builtin .len, args := #[.tmp 12], argTypes := #[9] }, some (5, true)⟩,
  ⟨some 14, .move (.tmp 1), some (5, true)⟩,
  ⟨some 15, .call { callee := .builtin .len, args := #[.tmp 14], argTypes := #[9] }, some (5, true)⟩,
  ⟨some 16, .binOp .sub 3 (.tmp 13) (.tmp 15) 3, some (5, true)⟩,
  ⟨some 17, .slice 9 (.tmp 11) (some (.tmp 16)) none none, some (5, true)⟩,
  ⟨some 18, .move (.tmp 1), some (5, true)⟩,
  ⟨some 19, .binOp .eql 9 (.tmp 17) (.tmp 18) 9, some (5, true)⟩,
  ⟨some 20, .pick (.tmp 10) (.tmp 19) (.const (.bool false)), none⟩,
  ⟨some 4, .assign (.tmp 20), none⟩]
def f29_c : LC := (.seq (.reg f29_r0 [] none) (.seq (.reg f29_r1 [] none) .ret))
theorem f29_lc : Tryd.f29.body.map lc = some f29_c.st := by kernel_rfl
theorem f29_res : Tryd.f29.results.toList = [.tmp 4] := by kernel_rfl
theorem f29_nt : Tryd.f29.ntmps = 21 := by kernel_rfl
theorem f29_nm : (Tryd.f29.name == "runtime.NumGoroutine") = false := by kernel_rfl
/-! internal/stringslite.Cut -/
def f30_r0 : List LOp := [
  ⟨some 4, .assign (.const (.string { data := #[] })), none⟩,
  ⟨some 5, .assign (.const (.string { data := #[] })), none⟩,
  ⟨some 6, .assign (.const (.bool false)), none⟩]
def f30_r1 : List LOp := [
  ⟨some 8, .move (.tmp 0), none⟩,
  ⟨some 9, .move (.tmp 1), none⟩,
  ⟨some 10, .call { callee := .value (.func 39), args := #[.tmp 8, .tmp 9], argTypes := #[9, 9] }, none⟩,
  ⟨some 7, .assign (.tmp 10), none⟩]
def f30_r2 : List LOp := [
  ⟨some 11, .move (.tmp 7), none⟩,
  ⟨some 12, .binOp .geq 3 (.tmp 11) (.const (.int .i64 0)) 3, none⟩]
def f30_r3 : List LOp := [
  ⟨some 13, .move (.tmp 0), none⟩,
  ⟨some 14, .move (.tmp 7), none⟩,
  ⟨some 15, .slice 9 (.tmp 13) none (some (.tmp 14)) none, none⟩,
  ⟨some 16, .move (.tmp 0), none⟩,
  ⟨some 17, .move (.tmp 7), none⟩,
  ⟨some 18, .move (.tmp 1), none⟩,
  ⟨some 19, .call { callee := .builtin .len, args := #[.tmp 18], argTypes := #[9] }, none⟩,
  ⟨some 20, .binOp .add 3 (.tmp 17) (.tmp 19) 3, none⟩,
  ⟨some 21, .slice 9 (.tmp 16) (some (.tmp 20)) none none, none⟩,
  ⟨some 4, .assign (.tmp 15), none⟩,
  ⟨some 5, .assign (.tmp 21), none⟩,
  ⟨some 6, .assign (.const (.bool true)), none⟩]
def f30_r4 : List LOp := [
  ⟨some 22, .move (.tmp 0), none⟩,
  ⟨some 4, .assign (.tmp 22), none⟩,
  ⟨some 5, .assign (.const (.string { data := #[] })), none⟩,
  ⟨some 6, .assign (.const (.bool false)), none⟩]
def f30_c : LC := (.seq (.reg f30_r0 [] none) (.seq (.seq (.reg f30_r1 [] none) (.seq (.reg f30_r2 [] none) (.cond (.tmp 12) (.seq (.regp f30_r3 [] [0, 1, 3, 4, 5] 10) .ret) .skip))) (.seq (.reg f30_r4 [] none) .ret)))
theorem f30_lc : Tryd.f30.body.map lc = some f30_c.st := by kernel_rfl
theorem f30_res : Tryd.f30.results.toList = [.tmp 4, .tmp 5, .tmp 6] := by kernel_rfl
theorem f30_nt : Tryd.f30.ntmps = 23 := by kernel_rfl
theorem f30_nm : (Tryd.f30.name == "runtime.NumGoroutine") = false := by kernel_rfl
/-! slices.ContainsFunc[[]string,string] -/
def f31_r0 : List LOp := [
  ⟨some 4, .assign (.const (.bool false)), none⟩]
def f31_r1 : List LOp := [
  ⟨some 5, .move (.tmp 0), none⟩,
  ⟨some 6, .move (.tmp 1), none⟩,
  ⟨some 7, .call { callee := .value (.func 40), args := #[.tmp 5, .tmp 6], argTypes := #[30, 54] }, none⟩,
  ⟨some 8, .binOp .geq 3 (.tmp 7) (.const (.int .i64 0)) 3, none⟩,
  ⟨some 4, .assign (.tmp 8), none⟩]
def f31_c : LC := (.seq (.reg f31_r0 [] none) (.seq (.reg f31_r1 [] none) .ret))
theorem f31_lc : Tryd.f31.body.map lc = some f31_c.st := by kernel_rfl
theorem f31_res : Tryd.f31.results.toList = [.tmp 4] := by kernel_rfl
theorem f31_nt : Tryd.f31.ntmps = 9 := by kernel_rfl
theorem f31_nm : (Tryd.f31.name == "runtime.NumGoroutine") = false := by kernel_rfl
/-! quill/num.Name$1 -/
def f32_r0 : List LOp := [
  ⟨some 2, .assign (.const (.bool false)), none⟩]
def f32_r1 : List LOp := [
  ⟨some 3, .move (.tmp 0), none⟩,
  ⟨some 4, .call { callee := .value (.func 33), args := #[.tmp 3], argTypes := #[9] }, none⟩,
  ⟨some 5, .unOp .not 4 (.tmp 4), none⟩,
  ⟨some 2, .assign (.tmp 5), none⟩]
def f32_c : LC := (.seq (.reg f32_r0 [] none) (.seq (.reg f32_r1 [] none) .ret))
theorem f32_lc : Tryd.f32.body.map lc = some f32_c.st := by kernel_rfl
theorem f32_res : Tryd.f32.results.toList = [.tmp 2] := by kernel_rfl
theorem f32_nt : Tryd.f32.ntmps = 6 := by kernel_rfl
theorem f32_nm : (Tryd.f32.name == "runtime.NumGoroutine") = false := by kernel_rfl
/-! quill/num.name -/
def f33_r0 : List LOp := [
  ⟨some 2, .assign (.const (.bool false)), none⟩]
def f33_r1 : List LOp := [
  ⟨some 6, .move (.tmp 0), none⟩,
  ⟨some 7, .range 9 (.tmp 6), none⟩]
def f33_r2 : List LOp := [
  ⟨some 8, .next (.tmp 7) true, none⟩,
  ⟨some 9, .extract (.tmp 8) 0, none⟩]
def f33_r3 : List LOp := [
  ⟨some 10, .extract (.tmp 8) 1, none⟩,
  ⟨some 11, .extract (.tmp 8) 2, none⟩,
  ⟨some 3, .assign (.tmp 10), none⟩,
  ⟨some 4, .assign (.tmp 11), none⟩]
def f33_r4 : List LOp := [
  ⟨some 12, .move (.tmp 4), none⟩,
  ⟨some 13, .binOp .geq 21 (.tmp 12) (.const (.int .i32 97)) 21, none⟩,
  ⟨some 14, .move (.tmp 13), none⟩,
  ⟨some 15, .move (.tmp 4), some (2, true)⟩,
  ⟨some 16, .binOp .leq 21 (.tmp 15) (.const (.int .i32 122)) 21, some (2, true)⟩,
  ⟨some 17, .pick (.tmp 14) (.tmp 16) (.const (.bool false)), none⟩,
  ⟨some 5, .assign (.tmp 17), none⟩]
def f33_r5 : List LOp := [
  ⟨some 18, .move (.tmp 5), none⟩,
  ⟨some 19, .unOp .not 4 (.tmp 18), none⟩,
  ⟨some 20, .move (.tmp 19), none⟩,
  ⟨some 21, .move (.tmp 3), some (2, true)⟩,
  ⟨some 22, .binOp .eql 3 (.tmp 21) (.const (.int .i64 0)) 3, some (2, true)⟩,
  ⟨some 23, .move (.tmp 22), some (2, true)⟩,
  ⟨some 24, .move (.tmp 4), some (5, false)⟩,
  ⟨some 25, .binOp .neq 21 (.tmp 24) (.const (.int .i32 95)) 21, some (5, false)⟩,
  ⟨some 26, .move (.tmp 25), some (5, false)⟩,
  ⟨some 27, .move (.tmp 4), some (8, true)⟩,
  ⟨some 28, .binOp .lss 21 (.tmp 27) (.const (.int .i32 48)) 21, some (8, true)⟩,
  ⟨some 29, .move (.tmp 28), some (8, true)⟩,
  ⟨some 30, .move (.tmp 4), some (11, false)⟩,
  ⟨some 31, .binOp .gtr 21 (.tmp 30) (.const (.int .i32 57)) 21, some (11, false)⟩,
  ⟨some 32, .pick (.tmp 29) (.const (.bool true)) (.tmp 31), some (8, true)⟩,
  ⟨some 33, .pick (.tmp 26) (.tmp 32) (.const (.bool false)), some (5, false)⟩,
  ⟨some 34, .pick (.tmp 23) (.const (.bool true)) (.tmp 33), some (2, true)⟩,
  ⟨some 35, .pick (.tmp 20) (.tmp 34) (.const (.bool false)), none⟩]
def f33_r6 : List LOp := [
  ⟨some 2, .assign (.const (.bool false)), none⟩]
def f33_l7 : LC := (.seq (.reg f33_r2 [] none) (.seq (.cond (.tmp 9) .skip (.exit 0)) (.block 1 (.seq (.reg f33_r3 [] none) (.seq (.reg f33_r4 [] none) (.seq (.reg f33_r5 [] none) (.cond (.tmp 35) (.seq (.reg f33_r6 [] none) .ret) .skip)))))))
def f33_i7 (t0 t7 : D) : List D := [t0, .any, .any, .any, .any, .any, .any, t7, .any, .any, .any, .any, .any, .any, .any, .any, .any, .any, .any, .any, .any, .any, .any, .any, .any, .any, .any, .any, .any, .any, .any, .any, .any, .any, .any, .any, .any, .any, .any, .any, .any, .any, .any, .any]
def f33_r8 : List LOp := [
  ⟨some 36, .move (.tmp 0), none⟩,
  ⟨some 37, .call { callee := .builtin .len, args := #[.tmp 36], argTypes := #[9] }, none⟩,
  ⟨some 38, .binOp .geq 3 (.tmp 37) (.const (.int .i64 1)) 3, none⟩,
  ⟨some 39, .move (.tmp 38), none⟩,
  ⟨some 40, .move (.tmp 0), some (3, true)⟩,
  ⟨some 41, .call { callee := .builtin .len, args := #[.tmp 40], argTypes := #[9] }, some (3, true)⟩,
  ⟨some 42, .binOp .leq 3 (.tmp 41) (.const (.int .i64 30)) 3, some (3, true)⟩,
  ⟨some 43, .pick (.tmp 39) (.tmp 42) (.const (.bool false)), none⟩,
  ⟨some 2, .assign (.tmp 43), none⟩]
def f33_c : LC := (.seq (.reg f33_r0 [] none) (.seq (.seq (.reg f33_r1 [] none) (.block 0 (.loop f33_l7))) (.seq (.reg f33_r8 [] none) .ret)))
theorem f33_lc : Tryd.f33.body.map lc = some f33_c.st := by kernel_rfl
theorem f33_res : Tryd.f33.results.toList = [.tmp 2] := by kernel_rfl
theorem f33_nt : Tryd.f33.ntmps = 44 := by kernel_rfl
theorem f33_nm : (Tryd.f33.name == "runtime.NumGoroutine") = false := by kernel_rfl
/-! internal/stringslite.Index -/
def f39_r0 : List LOp := [
  ⟨some 4, .assign (.const (.int .i64 0)), none⟩]
def f39_r1 : List LOp := [
  ⟨some 14, .move (.tmp 1), none⟩,
  ⟨some 15, .call { callee := .builtin .len, args := #[.tmp 14], argTypes := #[9] }, none⟩,
  ⟨some 5, .assign (.tmp 15), none⟩]
def f39_r2 : List LOp := [
  ⟨some 17, .move (.tmp 5), none⟩,
  ⟨some 18, .binOp .eql 3 (.tmp 17) (.const (.int .i64 0)) 3, none⟩,
  ⟨some 19, .move (.tmp 18), none⟩,
  ⟨some 20, .move (.tmp 1), some (2, false)⟩,
  ⟨some 21, .move (.tmp 0), some (2, false)⟩,
  ⟨some 22, .binOp .eql 9 (.tmp 20) (.tmp 21) 9, some (2, false)⟩,
  ⟨some 23, .pick (.tmp 19) (.const (.bool true)) (.tmp 22), none⟩,
  ⟨some 16, .assign (.tmp 23), none⟩]
def f39_r3 : List LOp := [
  ⟨some 4, .assign (.const (.int .i64 0)), none⟩]
def f39_r4 : List LOp := [
  ⟨some 25, .move (.tmp 5), none⟩,
  ⟨some 26, .binOp .eql 3 (.tmp 25) (.const (.int .i64 1)) 3, none⟩,
  ⟨some 24, .assign (.tmp 26), none⟩]
def f39_r5 : List LOp := [
  ⟨some 27, .move (.tmp 0), none⟩,
  ⟨some 28, .move (.tmp 1), none⟩,
  ⟨some 29, .index 9 (.tmp 28) (.const (.int .i64 0)), none⟩,
  ⟨some 30, .call { callee := .value (.func 28), args := #[.tmp 27, .tmp 29], argTypes := #[9, 5] }, none⟩,
  ⟨some 4, .assign (.tmp 30), none⟩]
def f39_r6 : List LOp := [
  ⟨some 32, .move (.tmp 5), none⟩,
  ⟨some 33, .move (.tmp 0), none⟩,
  ⟨some 34, .call { callee := .builtin .len, args := #[.tmp 33], argTypes := #[9] }, none⟩,
  ⟨some 35, .binOp .geq 3 (.tmp 32) (.tmp 34) 3, none⟩,
  ⟨some 31, .assign (.tmp 35), none⟩]
def f39_r7 : List LOp := [
  ⟨some 4, .assign (.const (.int .i64 (-1))), none⟩]
def f39_r8 : List LOp := [
  ⟨some 37, .move (.tmp 5), none⟩,
  ⟨some 38, .load 3 (.global 0), none⟩,
  ⟨some 39, .binOp .leq 3 (.tmp 37) (.tmp 38) 3, none⟩,
  ⟨some 40, .move (.tmp 39), none⟩,
  ⟨some 41, .move (.tmp 0), some (3, true)⟩,
  ⟨some 42, .call { callee := .builtin .len, args := #[.tmp 41], argTypes := #[9] }, some (3, true)⟩,
  ⟨some 43, .binOp .leq 3 (.tmp 42) (.const (.int .i64 64)) 3, some (3, true)⟩,
  ⟨some 44, .pick (.tmp 40) (.tmp 43) (.const (.bool false)), none⟩,
  ⟨some 36, .assign (.tmp 44), none⟩]
def f39_r9 : List LOp := [
  ⟨some 45, .move (.tmp 0), none⟩,
  ⟨some 46, .move (.tmp 1), none⟩,
  ⟨some 47, .call { callee := .value (.func 50), args := #[.tmp 45, .tmp 46], argTypes := #[9, 9] }, none⟩,
  ⟨some 4, .assign (.tmp 47), none⟩]
def f39_r10 : List LOp := [
  ⟨some 48, .move (.tmp 1), none⟩,
  ⟨some 49, .index 9 (.tmp 48) (.const (.int .i64 0)), none⟩,
  ⟨some 6, .assign (.tmp 49), none⟩]
def f39_r11 : List LOp := [
  ⟨some 50, .move (.tmp 1), none⟩,
  ⟨some 51, .index 9 (.tmp 50) (.const (.int .i64 1)), none⟩,
  ⟨some 7, .assign (.tmp 51), none⟩]
def f39_r12 : List LOp := [
  ⟨some 8, .assign (.const (.int .i64 0)), none⟩]
def f39_r13 : List LOp := [
  ⟨some 52, .move (.tmp 0), none⟩,
  ⟨some 53, .call { callee := .builtin .len, args := #[.tmp 52], argTypes := #[9] }, none⟩,
  ⟨some 54, .move (.tmp 5), none⟩,
  ⟨some 55, .binOp .sub 3 (.tmp 53) (.tmp 54) 3, none⟩,
  ⟨some 56, .binOp .add 3 (.tmp 55) (.const (.int .i64 1)) 3, none⟩,
  ⟨some 9, .assign (.tmp 56), none⟩]
def f39_r14 : List LOp := [
  ⟨some 10, .assign (.const (.int .i64 0)), none⟩]
def f39_r15 : List LOp := [
  ⟨some 57, .move (.tmp 8), none⟩,
  ⟨some 58, .move (.tmp 9), none⟩,
  ⟨some 59, .binOp .lss 3 (.tmp 57) (.tmp 58) 3, none⟩]
def f39_r16 : List LOp := [
  ⟨some 60, .move (.tmp 0), none⟩,
  ⟨some 61, .move (.tmp 8), none⟩,
  ⟨some 62, .index 9 (.tmp 60) (.tmp 61), none⟩,
  ⟨some 63, .move (.tmp 6), none⟩,
  ⟨some 64, .binOp .neq 5 (.tmp 62) (.tmp 63) 5, none⟩]
def f39_r17 : List LOp := [
  ⟨some 65, .move (.tmp 0), none⟩,
  ⟨some 66, .move (.tmp 8), none⟩,
  ⟨some 67, .binOp .add 3 (.tmp 66) (.const (.int .i64 1)) 3, none⟩,
  ⟨some 68, .move (.tmp 9), none⟩,
  ⟨some 69, .slice 9 (.tmp 65) (some (.tmp 67)) (some (.tmp 68)) none, none⟩,
  ⟨some 70, .move (.tmp 6), none⟩,
  ⟨some 71, .call { callee := .value (.func 28), args := #[.tmp 69, .tmp 70], argTypes := #[9, 5] }, none⟩,
  ⟨some 11, .assign (.tmp 71), none⟩]
def f39_r18 : List LOp := [
  ⟨some 72, .move (.tmp 11), none⟩,
  ⟨some 73, .binOp .lss 3 (.tmp 72) (.const (.int .i64 0)) 3, none⟩]
def f39_r19 : List LOp := [
  ⟨some 4, .assign (.const (.int .i64 (-1))), none⟩]
def f39_r20 : List LOp := [
  ⟨some 74, .move (.tmp 8), none⟩,
  ⟨some 75, .move (.tmp 11), none⟩,
  ⟨some 76, .binOp .add 3 (.tmp 75) (.const (.int .i64 1)) 3, none⟩,
  ⟨some 77, .binOp .add 3 (.tmp 74) (.tmp 76) 3, none⟩,
  ⟨some 8, .assign (.tmp 77), none⟩]
def f39_r21 : List LOp := [
  ⟨some 78, .move (.tmp 0), none⟩,
  ⟨some 79, .move (.tmp 8), none⟩,
  ⟨some 80, .binOp .add 3 (.tmp 79) (.const (.int .i64 1)) 3, none⟩,
  ⟨some 81, .index 9 (.tmp 78) (.tmp 80), none⟩,
  ⟨some 82, .move (.tmp 7), none⟩,
  ⟨some 83, .binOp .eql 5 (.tmp 81) (.tmp 82) 5, none⟩,
  ⟨some 84, .move (.tmp 83), none⟩,
  ⟨some 85, .move (.tmp 0), some (6, true)⟩,
  ⟨some 86, .move (.tmp 8), some (6, true)⟩,
  ⟨some 87, .move (.tmp 8), some (6, true)⟩,
  ⟨some 88, .move (.tmp 5), some (6, true)⟩,
  ⟨some 89, .binOp .add 3 (.tmp 87) (.tmp 88) 3, some (6, true)⟩,
  ⟨some 90, .slice 9 (.tmp 85) (some (.tmp 86)) (some (.tmp 89)) none, some (6, true)⟩,
  ⟨some 91, .move (.tmp 1), some (6, true)⟩,
  ⟨some 92, .binOp .eql 9 (.tmp 90) (.tmp 91) 9, some (6, true)⟩,
  ⟨some 93, .pick (.tmp 84) (.tmp 92) (.const (.bool false)), none⟩]
def f39_r22 : List LOp := [
  ⟨some 94, .move (.tmp 8), none⟩,
  ⟨some 4, .assign (.tmp 94), none⟩]
def f39_r23 : List LOp := [
  ⟨some 95, .move (.tmp 8), none⟩,
  ⟨some 96, .binOp .add 3 (.tmp 95) (.const (.int .i64 1)) 3, none⟩,
  ⟨some 8, .assign (.tmp 96), none⟩]
def f39_r24 : List LOp := [
  ⟨some 97, .move (.tmp 10), none⟩,
  ⟨some 98, .binOp .add 3 (.tmp 97) (.const (.int .i64 1)) 3, none⟩,
  ⟨some 10, .assign (.tmp 98), none⟩]
def f39_r25 : List LOp := [
  ⟨some 99, .move (.tmp 5), none⟩,
  ⟨some 100, .load 3 (.global 0), none⟩,
  ⟨some 101, .binOp .leq 3 (.tmp 99) (.tmp 100) 3, none⟩,
  ⟨some 102, .move (.tmp 101), none⟩,
  ⟨some 103, .move (.tmp 10), some (3, true)⟩,
  ⟨some 104, .move (.tmp 8), some (3, true)⟩,
  ⟨some 105, .call { callee := .value (.func 51), args := #[.tmp 104], argTypes := #[3] }, some (3, true)⟩,
  ⟨some 106, .binOp .gtr 3 (.tmp 103) (.tmp 105) 3, some (3, true)⟩,
  ⟨some 107, .pick (.tmp 102) (.tmp 106) (.const (.bool false)), none⟩]
def f39_r26 : List LOp := [
  ⟨some 108, .move (.tmp 0), none⟩,
  ⟨some 109, .move (.tmp 8), none⟩,
  ⟨some 110, .slice 9 (.tmp 108) (some (.tmp 109)) none none, none⟩,
  ⟨some 111, .move (.tmp 1), none⟩,
  ⟨some 112, .call { callee := .value (.func 50), args := #[.tmp 110, .tmp 111], argTypes := #[9, 9] }, none⟩,
  ⟨some 12, .assign (.tmp 112), none⟩]
def f39_r27 : List LOp := [
  ⟨some 113, .move (.tmp 12), none⟩,
  ⟨some 114, .binOp .geq 3 (.tmp 113) (.const (.int .i64 0)) 3, none⟩]
def f39_r28 : List LOp := [
  ⟨some 115, .move (.tmp 12), none⟩,
  ⟨some 116, .move (.tmp 8), none⟩,
  ⟨some 117, .binOp .add 3 (.tmp 115) (.tmp 116) 3, none⟩,
  ⟨some 4, .assign (.tmp 117), none⟩]
def f39_r29 : List LOp := [
  ⟨some 4, .assign (.const (.int .i64 (-1))), none⟩]
def f39_r30 : List LOp := [
  ⟨some 118, .move (.tmp 5), none⟩,
  ⟨some 119, .load 3 (.global 0), none⟩,
  ⟨some 120, .binOp .gtr 3 (.tmp 118) (.tmp 119) 3, none⟩,
  ⟨some 121, .move (.tmp 120), none⟩,
  ⟨some 122, .move (.tmp 10), some (3, true)⟩,
  ⟨some 123, .move (.tmp 8), some (3, true)⟩,
  ⟨some 124, .binOp .shr 3 (.tmp 123) (.const (.int .u64 4)) 99, some (3, true)⟩,
  ⟨some 125, .binOp .add 3 (.const (.int .i64 4)) (.tmp 124) 3, some (3, true)⟩,
  ⟨some 126, .binOp .geq 3 (.tmp 122) (.tmp 125) 3, some (3, true)⟩,
  ⟨some 127, .pick (.tmp 121) (.tmp 126) (.const (.bool false)), none⟩,
  ⟨some 128, .move (.tmp 127), none⟩,
  ⟨some 129, .move (.tmp 8), some (10, true)⟩,
  ⟨some 130, .move (.tmp 9), some (10, true)⟩,
  ⟨some 131, .binOp .lss 3 (.tmp 129) (.tmp 130) 3, some (10, true)⟩,
  ⟨some 132, .pick (.tmp 128) (.tmp 131) (.const (.bool false)), none⟩]
def f39_r31 : List LOp := [
  ⟨some 133, .move (.tmp 0), none⟩,
  ⟨some 134, .move (.tmp 8), none⟩,
  ⟨some 135, .slice 9 (.tmp 133) (some (.tmp 134)) none none, none⟩,
  ⟨some 136, .move (.tmp 1), none⟩,
  ⟨some 137, .call { callee := .value (.func 52), args := #[.tmp 135, .tmp 136], argTypes := #[9, 9] }, none⟩,
  ⟨some 13, .assign (.tmp 137), none⟩]
def f39_r32 : List LOp := [
  ⟨some 138, .move (.tmp 13), none⟩,
  ⟨some 139, .binOp .lss 3 (.tmp 138) (.const (.int .i64 0)) 3, none⟩]
def f39_r33 : List LOp := [
  ⟨some 4, .assign (.const (.int .i64 (-1))), none⟩]
def f39_r34 : List LOp := [
  ⟨some 140, .move (.tmp 8), none⟩,
  ⟨some 141, .move (.tmp 13), none⟩,
  ⟨some 142, .binOp .add 3 (.tmp 140) (.tmp 141) 3, none⟩,
  ⟨some 4, .assign (.tmp 142), none⟩]
def f39_l35 : LC := (.seq (.seq (.reg f39_r15 [] none) (.cond (.tmp 59) .skip (.exit 1))) (.block 2 (.seq (.seq (.reg f39_r16 [] none) (.cond (.tmp 64) (.seq (.reg f39_r17 [] none) (.seq (.seq (.reg f39_r18 [] none) (.cond (.tmp 73) (.seq (.reg f39_r19 [] none) .ret) .skip)) (.reg f39_r20 [] none))) .skip)) (.seq (.seq (.reg f39_r21 [] none) (.cond (.tmp 93) (.seq (.reg f39_r22 [] none) .ret) .skip)) (.seq (.reg f39_r23 [] none) (.seq (.reg f39_r24 [] none) (.seq (.reg f39_r25 [] none) (.cond (.tmp 107) (.seq (.reg f39_r26 [] none) (.seq (.seq (.reg f39_r27 [] none) (.cond (.tmp 114) (.seq (.reg f39_r28 [] none) .ret) .skip)) (.seq (.reg f39_r29 [] none) .ret))) (.seq (.reg f39_r30 [] none) (.cond (.tmp 132) (.seq (.reg f39_r31 [] none) (.seq (.seq (.reg f39_r32 [] none) (.cond (.tmp 139) (.seq (.reg f39_r33 [] none) .ret) .skip)) (.seq (.reg f39_r34 [] none) .ret))) .skip))))))))))
def f39_r36 : List LOp := [
  ⟨some 4, .assign (.const (.int .i64 (-1))), none⟩]
def f39_c : LC := (.seq (.reg f39_r0 [] none) (.seq (.reg f39_r1 [] none) (.seq (.block 0 (.seq (.reg f39_r2 [] none) (.cond (.tmp 16) (.seq (.reg f39_r3 [] none) .ret) (.seq (.reg f39_r4 [] none) (.cond (.tmp 24) (.seq (.reg f39_r5 [] none) .ret) (.seq (.reg f39_r6 [] none) (.cond (.tmp 31) (.seq (.reg f39_r7 [] none) .ret) (.seq (.reg f39_r8 [] none) (.cond (.tmp 36) (.seq (.reg f39_r9 [] none) .ret) .skip))))))))) (.seq (.reg f39_r10 [] none) (.seq (.reg f39_r11 [] none) (.seq (.reg f39_r12 [] none) (.seq (.reg f39_r13 [] none) (.seq (.reg f39_r14 [] none) (.seq (.block 1 (.loop f39_l35)) (.seq (.reg f39_r36 [] none) .ret))))))))))
theorem f39_lc : Tryd.f39.body.map lc = some f39_c.st := by kernel_rfl
theorem f39_res : Tryd.f39.results.toList = [.tmp 4] := by kernel_rfl
theorem f39_nt : Tryd.f39.ntmps = 143 := by kernel_rfl
theorem f39_nm : (Tryd.f39.name == "runtime.NumGoroutine") = false := by kernel_rfl
/-! slices.IndexFunc[[]string,string] -/
def f40_r0 : List LOp := [
  ⟨some 4, .assign (.const (.int .i64 0)), none⟩]
def f40_r1 : List LOp := [
  ⟨some 6, .move (.tmp 0), none⟩,
  ⟨some 7, .call { callee := .builtin .len, args := #[.tmp 6], argTypes := #[30] }, none⟩,
  ⟨some 8, .move (.const (.int .i64 0)), none⟩]
def f40_r2 : List LOp := [
  ⟨some 9, .binOp .lss 3 (.tmp 8) (.tmp 7) 3, none⟩]
def f40_r3 : List LOp := [
  ⟨some 10, .move (.tmp 8), none⟩,
  ⟨some 5, .assign (.tmp 10), none⟩]
def f40_r4 : List LOp := [
  ⟨some 11, .move (.tmp 1), none⟩,
  ⟨some 12, .move (.tmp 0), none⟩,
  ⟨some 13, .move (.tmp 5), none⟩,
  ⟨some 14, .indexAddr 30 (.tmp 12) (.tmp 13), none⟩,
  ⟨some 15, .load 9 (.tmp 14), none⟩,
  ⟨some 16, .call { callee := .value (.tmp 11), args := #[.tmp 15], argTypes := #[9] }, none⟩]
def f40_r5 : List LOp := [
  ⟨some 17, .move (.tmp 5), none⟩,
  ⟨some 4, .assign (.tmp 17), none⟩]
def f40_r6 : List LOp := [
  ⟨some 18, .binOp .add 3 (.tmp 8) (.const (.int .i64 1)) 3, none⟩,
  ⟨some 8, .move (.tmp 18), none⟩]
def f40_l7 : LC := (.seq (.reg f40_r2 [] none) (.seq (.cond (.tmp 9) .skip (.exit 0)) (.seq (.block 1 (.seq (.reg f40_r3 [] none) (.seq (.reg f40_r4 [] none) (.cond (.tmp 16) (.seq (.reg f40_r5 [] none) .ret) .skip)))) (.reg f40_r6 [] none))))
def f40_i7 (t0 t1 t7 t8 : D) : List D := [t0, t1, .any, .any, .any, .any, .any, t7, t8, .any, .any, .any, .any, .any, .any, .any, .any, .any, .any]
def f40_r8 : List LOp := [
  ⟨some 4, .assign (.const (.int .i64 (-1))), none⟩]
def f40_c : LC := (.seq (.reg f40_r0 [] none) (.seq (.seq (.reg f40_r1 [] none) (.block 0 (.loop f40_l7))) (.seq (.reg f40_r8 [] none) .ret)))
theorem f40_lc : Tryd.f40.body.map lc = some f40_c.st := by kernel_rfl
theorem f40_res : Tryd.f40.results.toList = [.tmp 4] := by kernel_rfl
theorem f40_nt : Tryd.f40.ntmps = 19 := by kernel_rfl
theorem f40_nm : (Tryd.f40.name == "runtime.NumGoroutine") = false := by kernel_rfl
/-! internal/bytealg.Cutover -/
/-! internal/bytealg.IndexRabinKarp[string] -/
/-! internal/bytealg.hashStr[string] -/
/-! gosem.cut.vars -/
attribute [go_sem] f3_r0 f3_r1 f3_r2 f3_r3 f3_r4 f3_r5 f3_r6 f3_l7 f3_i7 f3_r8 f3_r9 f3_r10 f3_r11 f3_c f5_r0 f5_r1 f5_r2 f5_r3 f5_r4 f5_r5 f5_r6 f5_r7 f5_r8 f5_r9 f5_r10 f5_r11 f5_r12 f5_r13 f5_a14 f5_b14 f5_r15 f5_r16 f5_r17 f5_r18 f5_r19 f5_c f6_r0 f6_r1 f6_r2 f6_r3 f6_c f9_r0 f9_r1 f9_c f10_r0 f10_r1 f10_c f11_r0 f11_r1 f11_r2 f11_r3 f11_r4 f11_r5 f11_r6 f11_r7 f11_r8 f11_r9 f11_r10 f11_r11 f11_c f12_r0 f12_r1 f12_r2 f12_r3 f12_r4 f12_r5 f12_r6 f12_l7 f12_i7 f12_r8 f12_c f13_r0 f13_r1 f13_r2 f13_r3 f13_r4 f13_r5 f13_r6 f13_r7 f13_r8 f13_l9 f13_i9 f13_r10 f13_r11 f13_r12 f13_c f15_r0 f15_r1 f15_r2 f15_r3 f15_r4 f15_r5 f15_r6 f15_l7 f15_i7 f15_c f17_r0 f17_r1 f17_r2 f17_r3 f17_c f18_r0 f18_r1 f18_c f19_r0 f19_r1 f19_c f22_r0 f22_r1 f22_r2 f22_r3 f22_r4 f22_r5 f22_r6 f22_r7 f22_r8 f22_l9 f22_i9 f22_r10 f22_c f25_r0 f25_r1 f25_c f29_r0 f29_r1 f29_c f30_r0 f30_r1 f30_r2 f30_r3 f30_r4 f30_c f31_r0 f31_r1 f31_c f32_r0 f32_r1 f32_c f33_r0 f33_r1 f33_r2 f33_r3 f33_r4 f33_r5 f33_r6 f33_l7 f33_i7 f33_r8 f33_c f39_r0 f39_r1 f39_r2 f39_r3 f39_r4 f39_r5 f39_r6 f39_r7 f39_r8 f39_r9 f39_r10 f39_r11 f39_r12 f39_r13 f39_r14 f39_r15 f39_r16 f39_r17 f39_r18 f39_r19 f39_r20 f39_r21 f39_r22 f39_r23 f39_r24 f39_r25 f39_r26 f39_r27 f39_r28 f39_r29 f39_r30 f39_r31 f39_r32 f39_r33 f39_r34 f39_l35 f39_r36 f39_c f40_r0 f40_r1 f40_r2 f40_r3 f40_r4 f40_r5 f40_r6 f40_l7 f40_i7 f40_r8 f40_c
end Go.Proofs.YtdliolbjngcgcaaDoor.W
