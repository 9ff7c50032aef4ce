/- Part of a program logic over data: rules of the walk, each proved. -/
import Derived.Test.YtbmedfjmccnclaaGreatGenA
set_option linter.unusedVariables false
set_option linter.unusedSimpArgs false
set_option linter.unusedSectionVars false
set_option maxRecDepth 100000
namespace Go.Proofs.YtbmedfjmccnclaaGreat.W
open Go Go.Proofs Go.Proofs.YtbmedfjmccnclaaGreat.AWP
def f52_r0:List LOp:=[
 ⟨some 2,.box 93 (.tmp 0),none⟩,
 ⟨some 3,.box 28 (.tmp 1),none⟩,
 ⟨some 4,.assign (.const (.slice none 0 0)),none⟩]
def f52_r1:List LOp:=[
 ⟨some 8,.fieldAddr 93 (.tmp 2) 4,none⟩,
 ⟨some 9,.load 3 (.tmp 8),none⟩,
 ⟨some 10,.makeSlice 83 (.tmp 9) (.tmp 9),none⟩,
 ⟨some 5,.assign (.tmp 10),none⟩]
def f52_r2:List LOp:=[
 ⟨some 11,.fieldAddr 28 (.tmp 3) 0,none⟩,
 ⟨some 12,.load 5 (.tmp 11),none⟩,
 ⟨some 13,.binOp .eql 5 (.tmp 12) (.const (.int .u8 6)) 5,none⟩]
def f52_r3:List LOp:=[
 ⟨some 14,.fieldAddr 93 (.tmp 2) 3,none⟩,
 ⟨some 15,.load 91 (.tmp 14),none⟩,
 ⟨some 16,.fieldAddr 28 (.tmp 3) 1,none⟩,
 ⟨some 17,.load 3 (.tmp 16),none⟩,
 ⟨some 18,.indexAddr 91 (.tmp 15) (.tmp 17),none⟩,
 ⟨some 19,.load 83 (.tmp 18),none⟩,
 ⟨some 4,.assign (.tmp 19),none⟩]
def f52_r4:List LOp:=[
 ⟨some 20,.fieldAddr 28 (.tmp 3) 0,none⟩,
 ⟨some 21,.load 5 (.tmp 20),none⟩,
 ⟨some 22,.binOp .lss 5 (.tmp 21) (.const (.int .u8 4)) 5,none⟩]
def f52_r5:List LOp:=[
 ⟨some 23,.move (.tmp 5),none⟩,
 ⟨some 4,.assign (.tmp 23),none⟩]
def f52_r6:List LOp:=[
 ⟨some 24,.fieldAddr 28 (.tmp 3) 2,none⟩,
 ⟨some 25,.load 26 (.tmp 24),none⟩,
 ⟨some 26,.indexAddr 26 (.tmp 25) (.const (.int .i64 0)),none⟩,
 ⟨some 27,.load 28 (.tmp 26),none⟩,
 ⟨some 28,.fieldAddr 28 (.tmp 3) 2,none⟩,
 ⟨some 29,.load 26 (.tmp 28),none⟩,
 ⟨some 30,.indexAddr 26 (.tmp 29) (.const (.int .i64 1)),none⟩,
 ⟨some 31,.load 28 (.tmp 30),none⟩,
 ⟨some 6,.alloc 28,none⟩,
 ⟨some 7,.alloc 28,none⟩,
 ⟨none,.store 28 (.tmp 6) (.tmp 27),none⟩,
 ⟨none,.store 28 (.tmp 7) (.tmp 31),none⟩]
def f52_r7:List LOp:=[
 ⟨some 32,.fieldAddr 28 (.tmp 3) 0,none⟩,
 ⟨some 33,.load 5 (.tmp 32),none⟩,
 ⟨some 34,.binOp .eql 5 (.tmp 33) (.const (.int .u8 5)) 5,none⟩,
 ⟨some 35,.move (.tmp 34),none⟩,
 ⟨some 36,.load 93 (.tmp 2),some (3,false)⟩,
 ⟨some 37,.load 28 (.tmp 7),some (3,false)⟩,
 ⟨some 38,.call ⟨.value (.func 59),#[.tmp 36,.tmp 37,.const (.bool true)],#[93,28,4]⟩,some (3,false)⟩,
 ⟨some 39,.pick (.tmp 35) (.const (.bool true)) (.tmp 38),none⟩]
def f52_r8:List LOp:=[
 ⟨some 40,.move (.tmp 5),none⟩,
 ⟨some 41,.load 93 (.tmp 2),none⟩,
 ⟨some 42,.load 28 (.tmp 6),none⟩,
 ⟨some 43,.call ⟨.value (.func 52),#[.tmp 41,.tmp 42],#[93,28]⟩,none⟩,
 ⟨some 44,.call ⟨.value (.func 78),#[.tmp 40,.tmp 43],#[83,83]⟩,none⟩,
 ⟨some 5,.assign (.tmp 44),none⟩]
def f52_r9:List LOp:=[
 ⟨some 45,.fieldAddr 28 (.tmp 3) 0,none⟩,
 ⟨some 46,.load 5 (.tmp 45),none⟩,
 ⟨some 47,.binOp .eql 5 (.tmp 46) (.const (.int .u8 5)) 5,none⟩,
 ⟨some 48,.move (.tmp 47),none⟩,
 ⟨some 49,.load 93 (.tmp 2),some (3,false)⟩,
 ⟨some 50,.load 28 (.tmp 6),some (3,false)⟩,
 ⟨some 51,.call ⟨.value (.func 59),#[.tmp 49,.tmp 50,.const (.bool false)],#[93,28,4]⟩,some (3,false)⟩,
 ⟨some 52,.pick (.tmp 48) (.const (.bool true)) (.tmp 51),none⟩]
def f52_r10:List LOp:=[
 ⟨some 53,.move (.tmp 5),none⟩,
 ⟨some 54,.load 93 (.tmp 2),none⟩,
 ⟨some 55,.load 28 (.tmp 7),none⟩,
 ⟨some 56,.call ⟨.value (.func 52),#[.tmp 54,.tmp 55],#[93,28]⟩,none⟩,
 ⟨some 57,.call ⟨.value (.func 78),#[.tmp 53,.tmp 56],#[83,83]⟩,none⟩,
 ⟨some 5,.assign (.tmp 57),none⟩]
def f52_r11:List LOp:=[
 ⟨some 58,.fieldAddr 28 (.tmp 3) 0,none⟩,
 ⟨some 59,.load 5 (.tmp 58),none⟩,
 ⟨some 60,.binOp .eql 5 (.tmp 59) (.const (.int .u8 5)) 5,none⟩,
 ⟨some 61,.move (.tmp 60),none⟩,
 ⟨some 62,.load 93 (.tmp 2),some (3,true)⟩,
 ⟨some 63,.load 28 (.tmp 6),some (3,true)⟩,
 ⟨some 64,.call ⟨.value (.func 59),#[.tmp 62,.tmp 63,.const (.bool true)],#[93,28,4]⟩,some (3,true)⟩,
 ⟨some 65,.pick (.tmp 61) (.tmp 64) (.const (.bool false)),none⟩]
def f52_r12:List LOp:=[
 ⟨some 66,.move (.tmp 5),none⟩,
 ⟨some 67,.load 93 (.tmp 2),none⟩,
 ⟨some 68,.load 28 (.tmp 7),none⟩,
 ⟨some 69,.call ⟨.value (.func 47),#[.tmp 67,.tmp 68],#[93,28]⟩,none⟩,
 ⟨some 70,.call ⟨.value (.func 78),#[.tmp 66,.tmp 69],#[83,83]⟩,none⟩,
 ⟨some 5,.assign (.tmp 70),none⟩]
def f52_r13:List LOp:=[
 ⟨some 71,.fieldAddr 28 (.tmp 3) 0,none⟩,
 ⟨some 72,.load 5 (.tmp 71),none⟩,
 ⟨some 73,.binOp .eql 5 (.tmp 72) (.const (.int .u8 5)) 5,none⟩,
 ⟨some 74,.move (.tmp 73),none⟩,
 ⟨some 75,.load 93 (.tmp 2),some (3,true)⟩,
 ⟨some 76,.load 28 (.tmp 7),some (3,true)⟩,
 ⟨some 77,.call ⟨.value (.func 59),#[.tmp 75,.tmp 76,.const (.bool true)],#[93,28,4]⟩,some (3,true)⟩,
 ⟨some 78,.pick (.tmp 74) (.tmp 77) (.const (.bool false)),none⟩]
def f52_r14:List LOp:=[
 ⟨some 79,.move (.tmp 5),none⟩,
 ⟨some 80,.load 93 (.tmp 2),none⟩,
 ⟨some 81,.load 28 (.tmp 6),none⟩,
 ⟨some 82,.call ⟨.value (.func 47),#[.tmp 80,.tmp 81],#[93,28]⟩,none⟩,
 ⟨some 83,.call ⟨.value (.func 78),#[.tmp 79,.tmp 82],#[83,83]⟩,none⟩,
 ⟨some 5,.assign (.tmp 83),none⟩]
def f52_r15:List LOp:=[
 ⟨some 84,.move (.tmp 5),none⟩,
 ⟨some 4,.assign (.tmp 84),none⟩]
def f52_c:LC:=(.seq (.reg f52_r0 [] none) (.seq (.reg f52_r1 [2] none) (.seq (.seq (.reg f52_r2 [] none) (.cond (.tmp 13) (.seq (.reg f52_r3 [] none) .ret) .skip)) (.seq (.seq (.reg f52_r4 [] none) (.cond (.tmp 22) (.seq (.reg f52_r5 [] none) .ret) .skip)) (.seq (.rega f52_r6 [] 11) (.seq (.seq (.reg f52_r7 [] none) (.cond (.tmp 39) (.reg f52_r8 [] none) .skip)) (.seq (.seq (.reg f52_r9 [] none) (.cond (.tmp 52) (.reg f52_r10 [] none) .skip)) (.seq (.seq (.reg f52_r11 [] none) (.cond (.tmp 65) (.reg f52_r12 [] none) .skip)) (.seq (.seq (.reg f52_r13 [] none) (.cond (.tmp 78) (.reg f52_r14 [] none) .skip)) (.seq (.reg f52_r15 [] none) .ret))))))))))
theorem f52_lc:Tryz.f52.body.map lc=some f52_c.st:=by kernel_rfl
theorem f52_res:Tryz.f52.results.toList=[.tmp 4]:=by kernel_rfl
theorem f52_nt:Tryz.f52.ntmps=85:=by kernel_rfl
theorem f52_nm : (Tryz.f52.name == "runtime.NumGoroutine") = false := by kernel_rfl
def f53_r0:List LOp:=[
 ⟨some 4,.assign (.const (.bool false)),none⟩]
def f53_r1:List LOp:=[
 ⟨some 5,.move (.tmp 0),none⟩,
 ⟨some 6,.move (.tmp 1),none⟩,
 ⟨some 7,.call ⟨.value (.func 82),#[.tmp 5,.tmp 6],#[36,3]⟩,none⟩,
 ⟨some 8,.binOp .geq 3 (.tmp 7) (.const (.int .i64 0)) 3,none⟩,
 ⟨some 4,.assign (.tmp 8),none⟩]
def f53_c:LC:=(.seq (.reg f53_r0 [] none) (.seq (.reg f53_r1 [] none) .ret))
theorem f53_lc:Tryz.f53.body.map lc=some f53_c.st:=by kernel_rfl
theorem f53_res:Tryz.f53.results.toList=[.tmp 4]:=by kernel_rfl
theorem f53_nt:Tryz.f53.ntmps=9:=by kernel_rfl
theorem f53_nm : (Tryz.f53.name == "runtime.NumGoroutine") = false := by kernel_rfl
def f54_r0:List LOp:=[
 ⟨some 4,.assign (.const (.bool false)),none⟩]
def f54_r1:List LOp:=[
 ⟨some 5,.move (.tmp 0),none⟩,
 ⟨some 6,.move (.tmp 1),none⟩,
 ⟨some 7,.call ⟨.value (.func 66),#[.tmp 5,.tmp 6],#[26,30]⟩,none⟩,
 ⟨some 8,.binOp .geq 3 (.tmp 7) (.const (.int .i64 0)) 3,none⟩,
 ⟨some 4,.assign (.tmp 8),none⟩]
def f54_c:LC:=(.seq (.reg f54_r0 [] none) (.seq (.reg f54_r1 [] none) .ret))
theorem f54_lc:Tryz.f54.body.map lc=some f54_c.st:=by kernel_rfl
theorem f54_res:Tryz.f54.results.toList=[.tmp 4]:=by kernel_rfl
theorem f54_nt:Tryz.f54.ntmps=9:=by kernel_rfl
theorem f54_nm : (Tryz.f54.name == "runtime.NumGoroutine") = false := by kernel_rfl
def f56_r0:List LOp:=[
 ⟨some 3,.box 28 (.tmp 1),none⟩,
 ⟨some 4,.assign (.const (.bool false)),none⟩]
def f56_r1:List LOp:=[
 ⟨some 5,.fieldAddr 28 (.tmp 3) 0,none⟩,
 ⟨some 6,.load 5 (.tmp 5),none⟩]
def f56_r2:List LOp:=[
 ⟨some 8,.binOp .eql 5 (.tmp 6) (.const (.int .u8 2)) 5,none⟩,
 ⟨some 7,.assign (.tmp 8),none⟩]
def f56_r3:List LOp:=[
 ⟨some 9,.binOp .eql 5 (.tmp 6) (.const (.int .u8 3)) 5,none⟩,
 ⟨some 7,.assign (.tmp 9),none⟩]
def f56_r4:List LOp:=[
 ⟨some 4,.assign (.const (.bool true)),none⟩]
def f56_r5:List LOp:=[
 ⟨some 11,.binOp .eql 5 (.tmp 6) (.const (.int .u8 4)) 5,none⟩,
 ⟨some 10,.assign (.tmp 11),none⟩]
def f56_r6:List LOp:=[
 ⟨some 12,.move (.tmp 0),none⟩,
 ⟨some 13,.fieldAddr 28 (.tmp 3) 2,none⟩,
 ⟨some 14,.load 26 (.tmp 13),none⟩,
 ⟨some 15,.indexAddr 26 (.tmp 14) (.const (.int .i64 0)),none⟩,
 ⟨some 16,.load 28 (.tmp 15),none⟩,
 ⟨some 17,.call ⟨.value (.func 56),#[.tmp 12,.tmp 16],#[96,28]⟩,none⟩,
 ⟨some 18,.move (.tmp 17),none⟩,
 ⟨some 19,.move (.tmp 0),some (6,true)⟩,
 ⟨some 20,.fieldAddr 28 (.tmp 3) 2,some (6,true)⟩,
 ⟨some 21,.load 26 (.tmp 20),some (6,true)⟩,
 ⟨some 22,.indexAddr 26 (.tmp 21) (.const (.int .i64 1)),some (6,true)⟩,
 ⟨some 23,.load 28 (.tmp 22),some (6,true)⟩,
 ⟨some 24,.call ⟨.value (.func 56),#[.tmp 19,.tmp 23],#[96,28]⟩,some (6,true)⟩,
 ⟨some 25,.pick (.tmp 18) (.tmp 24) (.const (.bool false)),none⟩,
 ⟨some 4,.assign (.tmp 25),none⟩]
def f56_r7:List LOp:=[
 ⟨some 27,.binOp .eql 5 (.tmp 6) (.const (.int .u8 5)) 5,none⟩,
 ⟨some 26,.assign (.tmp 27),none⟩]
def f56_r8:List LOp:=[
 ⟨some 28,.move (.tmp 0),none⟩,
 ⟨some 29,.fieldAddr 28 (.tmp 3) 2,none⟩,
 ⟨some 30,.load 26 (.tmp 29),none⟩,
 ⟨some 31,.indexAddr 26 (.tmp 30) (.const (.int .i64 0)),none⟩,
 ⟨some 32,.load 28 (.tmp 31),none⟩,
 ⟨some 33,.call ⟨.value (.func 56),#[.tmp 28,.tmp 32],#[96,28]⟩,none⟩,
 ⟨some 34,.move (.tmp 33),none⟩,
 ⟨some 35,.move (.tmp 0),some (6,false)⟩,
 ⟨some 36,.fieldAddr 28 (.tmp 3) 2,some (6,false)⟩,
 ⟨some 37,.load 26 (.tmp 36),some (6,false)⟩,
 ⟨some 38,.indexAddr 26 (.tmp 37) (.const (.int .i64 1)),some (6,false)⟩,
 ⟨some 39,.load 28 (.tmp 38),some (6,false)⟩,
 ⟨some 40,.call ⟨.value (.func 56),#[.tmp 35,.tmp 39],#[96,28]⟩,some (6,false)⟩,
 ⟨some 41,.pick (.tmp 34) (.const (.bool true)) (.tmp 40),none⟩,
 ⟨some 4,.assign (.tmp 41),none⟩]
def f56_r9:List LOp:=[
 ⟨some 43,.binOp .eql 5 (.tmp 6) (.const (.int .u8 6)) 5,none⟩,
 ⟨some 42,.assign (.tmp 43),none⟩]
def f56_r10:List LOp:=[
 ⟨some 44,.move (.tmp 0),none⟩,
 ⟨some 45,.nilCheck (.tmp 44),none⟩,
 ⟨some 46,.fieldAddr 86 (.tmp 45) 0,none⟩,
 ⟨some 47,.load 83 (.tmp 46),none⟩,
 ⟨some 48,.fieldAddr 28 (.tmp 3) 1,none⟩,
 ⟨some 49,.load 3 (.tmp 48),none⟩,
 ⟨some 50,.indexAddr 83 (.tmp 47) (.tmp 49),none⟩,
 ⟨some 51,.load 4 (.tmp 50),none⟩,
 ⟨some 4,.assign (.tmp 51),none⟩]
def f56_r11:List LOp:=[
 ⟨some 4,.assign (.const (.bool false)),none⟩]
def f56_c:LC:=(.seq (.reg f56_r0 [] none) (.seq (.seq (.reg f56_r1 [] none) (.block 0 (.seq (.seq (.reg f56_r2 [] none) (.cond (.tmp 7) .skip (.reg f56_r3 [] none))) (.cond (.tmp 7) (.seq (.reg f56_r4 [] none) .ret) (.seq (.reg f56_r5 [] none) (.cond (.tmp 10) (.seq (.reg f56_r6 [] none) .ret) (.seq (.reg f56_r7 [] none) (.cond (.tmp 26) (.seq (.reg f56_r8 [] none) .ret) (.seq (.reg f56_r9 [] none) (.cond (.tmp 42) (.seq (.reg f56_r10 [] (some 6)) .ret) .skip)))))))))) (.seq (.reg f56_r11 [] none) .ret)))
theorem f56_lc:Tryz.f56.body.map lc=some f56_c.st:=by kernel_rfl
theorem f56_res:Tryz.f56.results.toList=[.tmp 4]:=by kernel_rfl
theorem f56_nt:Tryz.f56.ntmps=52:=by kernel_rfl
theorem f56_nm : (Tryz.f56.name == "runtime.NumGoroutine") = false := by kernel_rfl
def f57_r0:List LOp:=[
 ⟨some 2,.box 28 (.tmp 0),none⟩,
 ⟨some 3,.assign (.const (.bool false)),none⟩]
def f57_r1:List LOp:=[
 ⟨some 4,.load 96 (.tmp 1),none⟩,
 ⟨some 5,.load 28 (.tmp 2),none⟩,
 ⟨some 6,.call ⟨.value (.func 58),#[.tmp 4,.tmp 5],#[96,28]⟩,none⟩,
 ⟨some 7,.unOp .not 4 (.tmp 6),none⟩,
 ⟨some 3,.assign (.tmp 7),none⟩]
def f57_c:LC:=(.seq (.reg f57_r0 [] none) (.seq (.reg f57_r1 [] none) .ret))
theorem f57_lc:Tryz.f57.body.map lc=some f57_c.st:=by kernel_rfl
theorem f57_res:Tryz.f57.results.toList=[.tmp 3]:=by kernel_rfl
theorem f57_nt:Tryz.f57.ntmps=8:=by kernel_rfl
theorem f57_nm : (Tryz.f57.name == "runtime.NumGoroutine") = false := by kernel_rfl
def f58_r0:List LOp:=[
 ⟨some 3,.box 28 (.tmp 1),none⟩,
 ⟨some 4,.assign (.const (.bool false)),none⟩]
def f58_r1:List LOp:=[
 ⟨some 5,.fieldAddr 28 (.tmp 3) 0,none⟩,
 ⟨some 6,.load 5 (.tmp 5),none⟩]
def f58_r2:List LOp:=[
 ⟨some 8,.binOp .eql 5 (.tmp 6) (.const (.int .u8 2)) 5,none⟩,
 ⟨some 7,.assign (.tmp 8),none⟩]
def f58_r3:List LOp:=[
 ⟨some 4,.assign (.const (.bool true)),none⟩]
def f58_r4:List LOp:=[
 ⟨some 10,.binOp .eql 5 (.tmp 6) (.const (.int .u8 4)) 5,none⟩,
 ⟨some 9,.assign (.tmp 10),none⟩]
def f58_r5:List LOp:=[
 ⟨some 11,.move (.tmp 0),none⟩,
 ⟨some 12,.fieldAddr 28 (.tmp 3) 2,none⟩,
 ⟨some 13,.load 26 (.tmp 12),none⟩,
 ⟨some 14,.indexAddr 26 (.tmp 13) (.const (.int .i64 0)),none⟩,
 ⟨some 15,.load 28 (.tmp 14),none⟩,
 ⟨some 16,.call ⟨.value (.func 58),#[.tmp 11,.tmp 15],#[96,28]⟩,none⟩,
 ⟨some 17,.move (.tmp 16),none⟩,
 ⟨some 18,.move (.tmp 0),some (6,true)⟩,
 ⟨some 19,.fieldAddr 28 (.tmp 3) 2,some (6,true)⟩,
 ⟨some 20,.load 26 (.tmp 19),some (6,true)⟩,
 ⟨some 21,.indexAddr 26 (.tmp 20) (.const (.int .i64 1)),some (6,true)⟩,
 ⟨some 22,.load 28 (.tmp 21),some (6,true)⟩,
 ⟨some 23,.call ⟨.value (.func 58),#[.tmp 18,.tmp 22],#[96,28]⟩,some (6,true)⟩,
 ⟨some 24,.pick (.tmp 17) (.tmp 23) (.const (.bool false)),none⟩,
 ⟨some 4,.assign (.tmp 24),none⟩]
def f58_r6:List LOp:=[
 ⟨some 26,.binOp .eql 5 (.tmp 6) (.const (.int .u8 5)) 5,none⟩,
 ⟨some 25,.assign (.tmp 26),none⟩]
def f58_r7:List LOp:=[
 ⟨some 27,.move (.tmp 0),none⟩,
 ⟨some 28,.fieldAddr 28 (.tmp 3) 2,none⟩,
 ⟨some 29,.load 26 (.tmp 28),none⟩,
 ⟨some 30,.indexAddr 26 (.tmp 29) (.const (.int .i64 0)),none⟩,
 ⟨some 31,.load 28 (.tmp 30),none⟩,
 ⟨some 32,.call ⟨.value (.func 58),#[.tmp 27,.tmp 31],#[96,28]⟩,none⟩,
 ⟨some 33,.move (.tmp 32),none⟩,
 ⟨some 34,.move (.tmp 0),some (6,false)⟩,
 ⟨some 35,.fieldAddr 28 (.tmp 3) 2,some (6,false)⟩,
 ⟨some 36,.load 26 (.tmp 35),some (6,false)⟩,
 ⟨some 37,.indexAddr 26 (.tmp 36) (.const (.int .i64 1)),some (6,false)⟩,
 ⟨some 38,.load 28 (.tmp 37),some (6,false)⟩,
 ⟨some 39,.call ⟨.value (.func 58),#[.tmp 34,.tmp 38],#[96,28]⟩,some (6,false)⟩,
 ⟨some 40,.pick (.tmp 33) (.const (.bool true)) (.tmp 39),none⟩,
 ⟨some 4,.assign (.tmp 40),none⟩]
def f58_r8:List LOp:=[
 ⟨some 42,.binOp .eql 5 (.tmp 6) (.const (.int .u8 6)) 5,none⟩,
 ⟨some 41,.assign (.tmp 42),none⟩]
def f58_r9:List LOp:=[
 ⟨some 43,.move (.tmp 0),none⟩,
 ⟨some 44,.nilCheck (.tmp 43),none⟩,
 ⟨some 45,.fieldAddr 86 (.tmp 44) 1,none⟩,
 ⟨some 46,.load 83 (.tmp 45),none⟩,
 ⟨some 47,.fieldAddr 28 (.tmp 3) 1,none⟩,
 ⟨some 48,.load 3 (.tmp 47),none⟩,
 ⟨some 49,.indexAddr 83 (.tmp 46) (.tmp 48),none⟩,
 ⟨some 50,.load 4 (.tmp 49),none⟩,
 ⟨some 4,.assign (.tmp 50),none⟩]
def f58_r10:List LOp:=[
 ⟨some 4,.assign (.const (.bool false)),none⟩]
def f58_c:LC:=(.seq (.reg f58_r0 [] none) (.seq (.seq (.reg f58_r1 [] none) (.block 0 (.seq (.reg f58_r2 [] none) (.cond (.tmp 7) (.seq (.reg f58_r3 [] none) .ret) (.seq (.reg f58_r4 [] none) (.cond (.tmp 9) (.seq (.reg f58_r5 [] none) .ret) (.seq (.reg f58_r6 [] none) (.cond (.tmp 25) (.seq (.reg f58_r7 [] none) .ret) (.seq (.reg f58_r8 [] none) (.cond (.tmp 41) (.seq (.reg f58_r9 [] (some 6)) .ret) .skip)))))))))) (.seq (.reg f58_r10 [] none) .ret)))
theorem f58_lc:Tryz.f58.body.map lc=some f58_c.st:=by kernel_rfl
theorem f58_res:Tryz.f58.results.toList=[.tmp 4]:=by kernel_rfl
theorem f58_nt:Tryz.f58.ntmps=51:=by kernel_rfl
theorem f58_nm : (Tryz.f58.name == "runtime.NumGoroutine") = false := by kernel_rfl
def f59_r0:List LOp:=[
 ⟨some 3,.box 93 (.tmp 0),none⟩,
 ⟨some 4,.box 28 (.tmp 1),none⟩,
 ⟨some 6,.assign (.const (.bool false)),none⟩]
def f59_r1:List LOp:=[
 ⟨some 7,.fieldAddr 28 (.tmp 4) 0,none⟩,
 ⟨some 8,.load 5 (.tmp 7),none⟩]
def f59_r2:List LOp:=[
 ⟨some 10,.binOp .eql 5 (.tmp 8) (.const (.int .u8 2)) 5,none⟩,
 ⟨some 9,.assign (.tmp 10),none⟩]
def f59_r3:List LOp:=[
 ⟨some 6,.assign (.const (.bool true)),none⟩]
def f59_r4:List LOp:=[
 ⟨some 12,.binOp .eql 5 (.tmp 8) (.const (.int .u8 3)) 5,none⟩,
 ⟨some 11,.assign (.tmp 12),none⟩]
def f59_r5:List LOp:=[
 ⟨some 13,.move (.tmp 2),none⟩,
 ⟨some 14,.unOp .not 4 (.tmp 13),none⟩,
 ⟨some 6,.assign (.tmp 14),none⟩]
def f59_r6:List LOp:=[
 ⟨some 16,.binOp .eql 5 (.tmp 8) (.const (.int .u8 4)) 5,none⟩,
 ⟨some 15,.assign (.tmp 16),none⟩]
def f59_r7:List LOp:=[
 ⟨some 17,.load 93 (.tmp 3),none⟩,
 ⟨some 18,.fieldAddr 28 (.tmp 4) 2,none⟩,
 ⟨some 19,.load 26 (.tmp 18),none⟩,
 ⟨some 20,.indexAddr 26 (.tmp 19) (.const (.int .i64 0)),none⟩,
 ⟨some 21,.load 28 (.tmp 20),none⟩,
 ⟨some 22,.move (.tmp 2),none⟩,
 ⟨some 23,.call ⟨.value (.func 59),#[.tmp 17,.tmp 21,.tmp 22],#[93,28,4]⟩,none⟩,
 ⟨some 24,.move (.tmp 23),none⟩,
 ⟨some 25,.load 93 (.tmp 3),some (7,true)⟩,
 ⟨some 26,.fieldAddr 28 (.tmp 4) 2,some (7,true)⟩,
 ⟨some 27,.load 26 (.tmp 26),some (7,true)⟩,
 ⟨some 28,.indexAddr 26 (.tmp 27) (.const (.int .i64 1)),some (7,true)⟩,
 ⟨some 29,.load 28 (.tmp 28),some (7,true)⟩,
 ⟨some 30,.move (.tmp 2),some (7,true)⟩,
 ⟨some 31,.call ⟨.value (.func 59),#[.tmp 25,.tmp 29,.tmp 30],#[93,28,4]⟩,some (7,true)⟩,
 ⟨some 32,.pick (.tmp 24) (.tmp 31) (.const (.bool false)),none⟩,
 ⟨some 6,.assign (.tmp 32),none⟩]
def f59_r8:List LOp:=[
 ⟨some 34,.binOp .eql 5 (.tmp 8) (.const (.int .u8 5)) 5,none⟩,
 ⟨some 33,.assign (.tmp 34),none⟩]
def f59_r9:List LOp:=[
 ⟨some 35,.load 93 (.tmp 3),none⟩,
 ⟨some 36,.fieldAddr 28 (.tmp 4) 2,none⟩,
 ⟨some 37,.load 26 (.tmp 36),none⟩,
 ⟨some 38,.indexAddr 26 (.tmp 37) (.const (.int .i64 0)),none⟩,
 ⟨some 39,.load 28 (.tmp 38),none⟩,
 ⟨some 40,.move (.tmp 2),none⟩,
 ⟨some 41,.call ⟨.value (.func 59),#[.tmp 35,.tmp 39,.tmp 40],#[93,28,4]⟩,none⟩,
 ⟨some 42,.move (.tmp 41),none⟩,
 ⟨some 43,.load 93 (.tmp 3),some (7,false)⟩,
 ⟨some 44,.fieldAddr 28 (.tmp 4) 2,some (7,false)⟩,
 ⟨some 45,.load 26 (.tmp 44),some (7,false)⟩,
 ⟨some 46,.indexAddr 26 (.tmp 45) (.const (.int .i64 1)),some (7,false)⟩,
 ⟨some 47,.load 28 (.tmp 46),some (7,false)⟩,
 ⟨some 48,.move (.tmp 2),some (7,false)⟩,
 ⟨some 49,.call ⟨.value (.func 59),#[.tmp 43,.tmp 47,.tmp 48],#[93,28,4]⟩,some (7,false)⟩,
 ⟨some 50,.pick (.tmp 42) (.const (.bool true)) (.tmp 49),none⟩,
 ⟨some 6,.assign (.tmp 50),none⟩]
def f59_r10:List LOp:=[
 ⟨some 52,.binOp .eql 5 (.tmp 8) (.const (.int .u8 6)) 5,none⟩,
 ⟨some 51,.assign (.tmp 52),none⟩]
def f59_r11:List LOp:=[
 ⟨some 53,.move (.tmp 2),none⟩]
def f59_r12:List LOp:=[
 ⟨some 54,.fieldAddr 93 (.tmp 3) 1,none⟩,
 ⟨some 55,.load 83 (.tmp 54),none⟩,
 ⟨some 56,.fieldAddr 28 (.tmp 4) 1,none⟩,
 ⟨some 57,.load 3 (.tmp 56),none⟩,
 ⟨some 58,.indexAddr 83 (.tmp 55) (.tmp 57),none⟩,
 ⟨some 59,.load 4 (.tmp 58),none⟩,
 ⟨some 6,.assign (.tmp 59),none⟩]
def f59_r13:List LOp:=[
 ⟨some 60,.fieldAddr 93 (.tmp 3) 0,none⟩,
 ⟨some 61,.load 83 (.tmp 60),none⟩,
 ⟨some 62,.fieldAddr 28 (.tmp 4) 1,none⟩,
 ⟨some 63,.load 3 (.tmp 62),none⟩,
 ⟨some 64,.indexAddr 83 (.tmp 61) (.tmp 63),none⟩,
 ⟨some 65,.load 4 (.tmp 64),none⟩,
 ⟨some 6,.assign (.tmp 65),none⟩]
def f59_r14:List LOp:=[
 ⟨some 6,.assign (.const (.bool false)),none⟩]
def f59_c:LC:=(.seq (.reg f59_r0 [] none) (.seq (.seq (.reg f59_r1 [] none) (.block 0 (.seq (.reg f59_r2 [] none) (.cond (.tmp 9) (.seq (.reg f59_r3 [] none) .ret) (.seq (.reg f59_r4 [] none) (.cond (.tmp 11) (.seq (.reg f59_r5 [] none) .ret) (.seq (.reg f59_r6 [] none) (.cond (.tmp 15) (.seq (.reg f59_r7 [] (some 14)) .ret) (.seq (.reg f59_r8 [] none) (.cond (.tmp 33) (.seq (.reg f59_r9 [] (some 14)) .ret) (.seq (.reg f59_r10 [] none) (.cond (.tmp 51) (.seq (.seq (.reg f59_r11 [] none) (.cond (.tmp 53) (.seq (.reg f59_r12 [] none) .ret) .skip)) (.seq (.reg f59_r13 [] none) .ret)) .skip)))))))))))) (.seq (.reg f59_r14 [] none) .ret)))
theorem f59_lc:Tryz.f59.body.map lc=some f59_c.st:=by kernel_rfl
theorem f59_res:Tryz.f59.results.toList=[.tmp 6]:=by kernel_rfl
theorem f59_nt:Tryz.f59.ntmps=66:=by kernel_rfl
theorem f59_nm : (Tryz.f59.name == "runtime.NumGoroutine") = false := by kernel_rfl
def f63_r0:List LOp:=[
 ⟨some 4,.assign (.const (.bool false)),none⟩]
def f63_r1:List LOp:=[
 ⟨some 5,.move (.tmp 0),none⟩,
 ⟨some 6,.move (.tmp 1),none⟩,
 ⟨some 7,.call ⟨.value (.func 85),#[.tmp 5,.tmp 6],#[56,29]⟩,none⟩,
 ⟨some 8,.binOp .geq 3 (.tmp 7) (.const (.int .i64 0)) 3,none⟩,
 ⟨some 4,.assign (.tmp 8),none⟩]
def f63_c:LC:=(.seq (.reg f63_r0 [] none) (.seq (.reg f63_r1 [] none) .ret))
theorem f63_lc:Tryz.f63.body.map lc=some f63_c.st:=by kernel_rfl
theorem f63_res:Tryz.f63.results.toList=[.tmp 4]:=by kernel_rfl
theorem f63_nt:Tryz.f63.ntmps=9:=by kernel_rfl
theorem f63_nm : (Tryz.f63.name == "runtime.NumGoroutine") = false := by kernel_rfl
def f65_r0:List LOp:=[
 ⟨some 2,.box 25 (.tmp 0),none⟩,
 ⟨some 4,.assign (.const (.bool false)),none⟩]
def f65_r1:List LOp:=[
 ⟨some 5,.load 25 (.tmp 2),none⟩,
 ⟨some 6,.call ⟨.value (.func 75),#[.tmp 5],#[25]⟩,none⟩,
 ⟨some 7,.move (.tmp 6),none⟩,
 ⟨some 8,.move (.tmp 1),some (2,true)⟩,
 ⟨some 9,.makeFunc (.func 86) #[] #[.tmp 2],some (2,true)⟩,
 ⟨some 10,.call ⟨.value (.func 54),#[.tmp 8,.tmp 9],#[26,30]⟩,some (2,true)⟩,
 ⟨some 11,.unOp .not 4 (.tmp 10),some (2,true)⟩,
 ⟨some 12,.pick (.tmp 7) (.tmp 11) (.const (.bool false)),none⟩,
 ⟨some 4,.assign (.tmp 12),none⟩]
def f65_c:LC:=(.seq (.reg f65_r0 [] none) (.seq (.reg f65_r1 [] none) .ret))
theorem f65_lc:Tryz.f65.body.map lc=some f65_c.st:=by kernel_rfl
theorem f65_res:Tryz.f65.results.toList=[.tmp 4]:=by kernel_rfl
theorem f65_nt:Tryz.f65.ntmps=13:=by kernel_rfl
theorem f65_nm : (Tryz.f65.name == "runtime.NumGoroutine") = false := by kernel_rfl
def f66_r0:List LOp:=[
 ⟨some 4,.assign (.const (.int .i64 0)),none⟩]
def f66_r1:List LOp:=[
 ⟨some 6,.move (.tmp 0),none⟩,
 ⟨some 7,.call ⟨.builtin .len,#[.tmp 6],#[26]⟩,none⟩,
 ⟨some 8,.move (.const (.int .i64 0)),none⟩]
def f66_r2:List LOp:=[
 ⟨some 9,.binOp .lss 3 (.tmp 8) (.tmp 7) 3,none⟩]
def f66_r3:List LOp:=[
 ⟨some 10,.move (.tmp 8),none⟩,
 ⟨some 5,.assign (.tmp 10),none⟩]
def f66_r4:List LOp:=[
 ⟨some 11,.move (.tmp 1),none⟩,
 ⟨some 12,.move (.tmp 0),none⟩,
 ⟨some 13,.move (.tmp 5),none⟩,
 ⟨some 14,.indexAddr 26 (.tmp 12) (.tmp 13),none⟩,
 ⟨some 15,.load 28 (.tmp 14),none⟩,
 ⟨some 16,.call ⟨.value (.tmp 11),#[.tmp 15],#[28]⟩,none⟩]
def f66_r5:List LOp:=[
 ⟨some 17,.move (.tmp 5),none⟩,
 ⟨some 4,.assign (.tmp 17),none⟩]
def f66_r6:List LOp:=[
 ⟨some 18,.binOp .add 3 (.tmp 8) (.const (.int .i64 1)) 3,none⟩,
 ⟨some 8,.move (.tmp 18),none⟩]
def f66_l7:LC:=(.seq (.reg f66_r2 [] none) (.seq (.cond (.tmp 9) .skip (.exit 0)) (.seq (.block 1 (.seq (.reg f66_r3 [] none) (.seq (.reg f66_r4 [] none) (.cond (.tmp 16) (.seq (.reg f66_r5 [] none) .ret) .skip)))) (.reg f66_r6 [] none))))
def f66_i7 (t0 t1 t7 t8:D):List D:=[t0,t1,.any,.any,.any,.any,.any,t7,t8,.any,.any,.any,.any,.any,.any,.any,.any,.any,.any]
def f66_r8:List LOp:=[
 ⟨some 4,.assign (.const (.int .i64 (-1))),none⟩]
def f66_c:LC:=(.seq (.reg f66_r0 [] none) (.seq (.seq (.reg f66_r1 [] none) (.block 0 (.loop f66_l7))) (.seq (.reg f66_r8 [] none) .ret)))
theorem f66_lc:Tryz.f66.body.map lc=some f66_c.st:=by kernel_rfl
theorem f66_res:Tryz.f66.results.toList=[.tmp 4]:=by kernel_rfl
theorem f66_nt:Tryz.f66.ntmps=19:=by kernel_rfl
theorem f66_nm : (Tryz.f66.name == "runtime.NumGoroutine") = false := by kernel_rfl
def f69_r0:List LOp:=[
 ⟨some 2,.assign (.const (.bool false)),none⟩]
def f69_r1:List LOp:=[
 ⟨some 5,.move (.tmp 0),none⟩,
 ⟨some 6,.call ⟨.builtin .len,#[.tmp 5],#[9]⟩,none⟩,
 ⟨some 7,.binOp .lss 3 (.tmp 6) (.const (.int .i64 1)) 3,none⟩,
 ⟨some 8,.move (.tmp 7),none⟩,
 ⟨some 9,.move (.tmp 0),some (3,false)⟩,
 ⟨some 10,.call ⟨.builtin .len,#[.tmp 9],#[9]⟩,some (3,false)⟩,
 ⟨some 11,.binOp .gtr 3 (.tmp 10) (.const (.int .i64 30)) 3,some (3,false)⟩,
 ⟨some 12,.pick (.tmp 8) (.const (.bool true)) (.tmp 11),none⟩,
 ⟨some 13,.move (.tmp 12),none⟩,
 ⟨some 14,.move (.tmp 0),some (8,false)⟩,
 ⟨some 15,.index 9 (.tmp 14) (.const (.int .i64 0)),some (8,false)⟩,
 ⟨some 16,.binOp .lss 5 (.tmp 15) (.const (.int .u8 97)) 5,some (8,false)⟩,
 ⟨some 17,.pick (.tmp 13) (.const (.bool true)) (.tmp 16),none⟩,
 ⟨some 18,.move (.tmp 17),none⟩,
 ⟨some 19,.move (.tmp 0),some (13,false)⟩,
 ⟨some 20,.index 9 (.tmp 19) (.const (.int .i64 0)),some (13,false)⟩,
 ⟨some 21,.binOp .gtr 5 (.tmp 20) (.const (.int .u8 122)) 5,some (13,false)⟩,
 ⟨some 22,.pick (.tmp 18) (.const (.bool true)) (.tmp 21),none⟩]
def f69_r2:List LOp:=[
 ⟨some 2,.assign (.const (.bool false)),none⟩]
def f69_r3:List LOp:=[
 ⟨some 3,.assign (.const (.int .i64 0)),none⟩]
def f69_r4:List LOp:=[
 ⟨some 23,.move (.tmp 3),none⟩,
 ⟨some 24,.move (.tmp 0),none⟩,
 ⟨some 25,.call ⟨.builtin .len,#[.tmp 24],#[9]⟩,none⟩,
 ⟨some 26,.binOp .lss 3 (.tmp 23) (.tmp 25) 3,none⟩]
def f69_r5:List LOp:=[
 ⟨some 29,.move (.tmp 0),none⟩,
 ⟨some 30,.move (.tmp 3),none⟩,
 ⟨some 31,.index 9 (.tmp 29) (.tmp 30),none⟩,
 ⟨some 4,.assign (.tmp 31),none⟩]
def f69_r6:List LOp:=[
 ⟨some 32,.move (.tmp 4),none⟩,
 ⟨some 33,.binOp .geq 5 (.tmp 32) (.const (.int .u8 97)) 5,none⟩,
 ⟨some 34,.move (.tmp 33),none⟩,
 ⟨some 35,.move (.tmp 4),some (2,true)⟩,
 ⟨some 36,.binOp .leq 5 (.tmp 35) (.const (.int .u8 122)) 5,some (2,true)⟩,
 ⟨some 37,.pick (.tmp 34) (.tmp 36) (.const (.bool false)),none⟩,
 ⟨some 38,.move (.tmp 37),none⟩,
 ⟨some 39,.move (.tmp 4),some (6,false)⟩,
 ⟨some 40,.binOp .geq 5 (.tmp 39) (.const (.int .u8 48)) 5,some (6,false)⟩,
 ⟨some 41,.move (.tmp 40),some (6,false)⟩,
 ⟨some 42,.move (.tmp 4),some (9,true)⟩,
 ⟨some 43,.binOp .leq 5 (.tmp 42) (.const (.int .u8 57)) 5,some (9,true)⟩,
 ⟨some 44,.pick (.tmp 41) (.tmp 43) (.const (.bool false)),some (6,false)⟩,
 ⟨some 45,.pick (.tmp 38) (.const (.bool true)) (.tmp 44),none⟩,
 ⟨some 46,.move (.tmp 45),none⟩,
 ⟨some 47,.move (.tmp 4),some (14,false)⟩,
 ⟨some 48,.binOp .eql 5 (.tmp 47) (.const (.int .u8 95)) 5,some (14,false)⟩,
 ⟨some 49,.pick (.tmp 46) (.const (.bool true)) (.tmp 48),none⟩,
 ⟨some 50,.unOp .not 4 (.tmp 49),none⟩]
def f69_r7:List LOp:=[
 ⟨some 2,.assign (.const (.bool false)),none⟩]
def f69_r8:List LOp:=[
 ⟨some 27,.move (.tmp 3),none⟩,
 ⟨some 28,.binOp .add 3 (.tmp 27) (.const (.int .i64 1)) 3,none⟩,
 ⟨some 3,.assign (.tmp 28),none⟩]
def f69_l9:LC:=(.seq (.seq (.reg f69_r4 [] none) (.cond (.tmp 26) .skip (.exit 0))) (.seq (.block 1 (.seq (.reg f69_r5 [] none) (.seq (.reg f69_r6 [] none) (.cond (.tmp 50) (.seq (.reg f69_r7 [] none) .ret) .skip)))) (.reg f69_r8 [] none)))
def f69_i9 (t0 t3:D):List D:=[t0,.any,.any,t3,.any,.any,.any,.any,.any,.any,.any,.any,.any,.any,.any,.any,.any,.any,.any,.any,.any,.any,.any,.any,.any,.any,.any,.any,.any,.any,.any,.any,.any,.any,.any,.any,.any,.any,.any,.any,.any,.any,.any,.any,.any,.any,.any,.any,.any,.any,.any]
def f69_r10:List LOp:=[
 ⟨some 2,.assign (.const (.bool true)),none⟩]
def f69_c:LC:=(.seq (.reg f69_r0 [] none) (.seq (.seq (.reg f69_r1 [] none) (.cond (.tmp 22) (.seq (.reg f69_r2 [] none) .ret) .skip)) (.seq (.seq (.reg f69_r3 [] none) (.block 0 (.loop f69_l9))) (.seq (.reg f69_r10 [] none) .ret))))
theorem f69_lc:Tryz.f69.body.map lc=some f69_c.st:=by kernel_rfl
theorem f69_res:Tryz.f69.results.toList=[.tmp 2]:=by kernel_rfl
theorem f69_nt:Tryz.f69.ntmps=51:=by kernel_rfl
theorem f69_nm : (Tryz.f69.name == "runtime.NumGoroutine") = false := by kernel_rfl
def f70_r0:List LOp:=[
 ⟨some 4,.assign (.const (.bool false)),none⟩]
def f70_r1:List LOp:=[
 ⟨some 6,.move (.tmp 0),none⟩,
 ⟨some 7,.call ⟨.builtin .len,#[.tmp 6],#[22]⟩,none⟩,
 ⟨some 8,.move (.const (.int .i64 0)),none⟩]
def f70_r2:List LOp:=[
 ⟨some 9,.binOp .lss 3 (.tmp 8) (.tmp 7) 3,none⟩]
def f70_r3:List LOp:=[
 ⟨some 10,.move (.tmp 8),none⟩,
 ⟨some 5,.assign (.tmp 10),none⟩]
def f70_r4:List LOp:=[
 ⟨some 11,.move (.tmp 0),none⟩,
 ⟨some 12,.move (.tmp 5),none⟩,
 ⟨some 13,.indexAddr 22 (.tmp 11) (.tmp 12),none⟩,
 ⟨some 14,.load 9 (.tmp 13),none⟩,
 ⟨some 15,.move (.tmp 1),none⟩,
 ⟨some 16,.binOp .eql 9 (.tmp 14) (.tmp 15) 9,none⟩]
def f70_r5:List LOp:=[
 ⟨some 4,.assign (.const (.bool true)),none⟩]
def f70_r6:List LOp:=[
 ⟨some 17,.binOp .add 3 (.tmp 8) (.const (.int .i64 1)) 3,none⟩,
 ⟨some 8,.move (.tmp 17),none⟩]
def f70_l7:LC:=(.seq (.reg f70_r2 [] none) (.seq (.cond (.tmp 9) .skip (.exit 0)) (.seq (.block 1 (.seq (.reg f70_r3 [] none) (.seq (.reg f70_r4 [] none) (.cond (.tmp 16) (.seq (.reg f70_r5 [] none) .ret) .skip)))) (.reg f70_r6 [] none))))
def f70_i7 (t0 t1 t7 t8:D):List D:=[t0,t1,.any,.any,.any,.any,.any,t7,t8,.any,.any,.any,.any,.any,.any,.any,.any,.any]
def f70_r8:List LOp:=[
 ⟨some 4,.assign (.const (.bool false)),none⟩]
def f70_c:LC:=(.seq (.reg f70_r0 [] none) (.seq (.seq (.reg f70_r1 [] none) (.block 0 (.loop f70_l7))) (.seq (.reg f70_r8 [] none) .ret)))
theorem f70_lc:Tryz.f70.body.map lc=some f70_c.st:=by kernel_rfl
theorem f70_res:Tryz.f70.results.toList=[.tmp 4]:=by kernel_rfl
theorem f70_nt:Tryz.f70.ntmps=18:=by kernel_rfl
theorem f70_nm : (Tryz.f70.name == "runtime.NumGoroutine") = false := by kernel_rfl
def f71_r0:List LOp:=[
 ⟨some 2,.assign (.const (.bool false)),none⟩]
def f71_r1:List LOp:=[
 ⟨some 3,.move (.tmp 0),none⟩,
 ⟨some 4,.call ⟨.value (.func 90),#[.tmp 3],#[22]⟩,none⟩,
 ⟨some 5,.call ⟨.value (.func 89),#[.tmp 4],#[137]⟩,none⟩,
 ⟨some 0,.assign (.tmp 5),none⟩]
def f71_r2:List LOp:=[
 ⟨some 6,.move (.tmp 0),none⟩,
 ⟨some 7,.call ⟨.value (.func 91),#[.tmp 6],#[22]⟩,none⟩,
 ⟨some 8,.move (.tmp 7),none⟩,
 ⟨some 9,.move (.tmp 0),some (2,true)⟩,
 ⟨some 10,.call ⟨.value (.func 73),#[.tmp 9],#[22]⟩,some (2,true)⟩,
 ⟨some 11,.call ⟨.value (.func 92),#[.tmp 10],#[22]⟩,some (2,true)⟩,
 ⟨some 12,.call ⟨.builtin .len,#[.tmp 11],#[22]⟩,some (2,true)⟩,
 ⟨some 13,.move (.tmp 0),some (2,true)⟩,
 ⟨some 14,.call ⟨.builtin .len,#[.tmp 13],#[22]⟩,some (2,true)⟩,
 ⟨some 15,.binOp .eql 3 (.tmp 12) (.tmp 14) 3,some (2,true)⟩,
 ⟨some 16,.pick (.tmp 8) (.tmp 15) (.const (.bool false)),none⟩,
 ⟨some 2,.assign (.tmp 16),none⟩]
def f71_c:LC:=(.seq (.reg f71_r0 [] none) (.seq (.reg f71_r1 [] none) (.seq (.reg f71_r2 [] none) .ret)))
theorem f71_lc:Tryz.f71.body.map lc=some f71_c.st:=by kernel_rfl
theorem f71_res:Tryz.f71.results.toList=[.tmp 2]:=by kernel_rfl
theorem f71_nt:Tryz.f71.ntmps=17:=by kernel_rfl
theorem f71_nm : (Tryz.f71.name == "runtime.NumGoroutine") = false := by kernel_rfl
def f72_r0:List LOp:=[
 ⟨some 2,.box 9 (.tmp 0),none⟩,
 ⟨some 4,.alloc 115,none⟩,
 ⟨some 5,.alloc 3,none⟩,
 ⟨some 6,.alloc 33,none⟩]
def f72_r1:List LOp:=[
 ⟨some 7,.alloc 115,none⟩]
def f72_r2:List LOp:=[
 ⟨some 16,.move (.tmp 1),none⟩,
 ⟨some 17,.call ⟨.value (.func 73),#[.tmp 16],#[22]⟩,none⟩,
 ⟨some 8,.alloc 22,none⟩,
 ⟨none,.store 22 (.tmp 8) (.tmp 17),none⟩]
def f72_r3:List LOp:=[
 ⟨some 9,.alloc 3,none⟩,
 ⟨none,.store 3 (.tmp 9) (.const (.int .i64 0)),none⟩]
def f72_r4:List LOp:=[
 ⟨some 18,.load 9 (.tmp 2),none⟩,
 ⟨some 19,.call ⟨.value (.func 93),#[.tmp 18],#[9]⟩,none⟩]
def f72_r5:List LOp:=[
 ⟨some 10,.assign (.tmp 20),none⟩]
def f72_r6:List LOp:=[
 ⟨some 22,.move (.tmp 10),none⟩,
 ⟨some 23,.call { callee:=.value (.func 94),args:=#[.tmp 22,.const (.string { data:=#[10] })],argTypes:=#[9,9] },none⟩,
 ⟨some 21,.move (.tmp 23),none⟩,
 ⟨some 24,.extract (.tmp 21) 0,none⟩,
 ⟨some 25,.extract (.tmp 21) 1,none⟩,
 ⟨some 11,.assign (.tmp 24),none⟩,
 ⟨some 12,.assign (.tmp 25),none⟩]
def f72_r7:List LOp:=[
 ⟨some 27,.move (.tmp 11),none⟩,
 ⟨some 28,.call { callee:=.value (.func 95),args:=#[.tmp 27,.const (.string { data:=#[32,61,32] })],argTypes:=#[9,9] },none⟩,
 ⟨some 26,.move (.tmp 28),none⟩,
 ⟨some 29,.extract (.tmp 26) 0,none⟩,
 ⟨some 30,.extract (.tmp 26) 1,none⟩,
 ⟨some 31,.extract (.tmp 26) 2,none⟩,
 ⟨some 13,.assign (.tmp 29),none⟩,
 ⟨some 14,.assign (.tmp 30),none⟩,
 ⟨some 15,.assign (.tmp 31),none⟩]
def f72_r8:List LOp:=[
 ⟨some 33,.move (.tmp 12),none⟩,
 ⟨some 34,.unOp .not 4 (.tmp 33),none⟩,
 ⟨some 32,.assign (.tmp 34),none⟩]
def f72_r9:List LOp:=[
 ⟨some 35,.load 9 (.tmp 2),none⟩,
 ⟨some 36,.call ⟨.builtin .len,#[.tmp 35],#[9]⟩,none⟩,
 ⟨none,.store 115 (.tmp 4) (.const (.slice none 0 0)),none⟩,
 ⟨none,.store 3 (.tmp 5) (.tmp 36),none⟩,
 ⟨none,.store 33 (.tmp 6) (.const (.int .i64 2)),none⟩]
def f72_r10:List LOp:=[
 ⟨some 38,.load 115 (.tmp 7),none⟩,
 ⟨some 39,.call ⟨.builtin .len,#[.tmp 38],#[115]⟩,none⟩,
 ⟨some 40,.binOp .geq 3 (.tmp 39) (.const (.int .i64 50)) 3,none⟩,
 ⟨some 37,.assign (.tmp 40),none⟩]
def f72_r11:List LOp:=[
 ⟨some 41,.load 3 (.tmp 9),none⟩,
 ⟨none,.store 115 (.tmp 4) (.const (.slice none 0 0)),none⟩,
 ⟨none,.store 3 (.tmp 5) (.tmp 41),none⟩,
 ⟨none,.store 33 (.tmp 6) (.const (.int .i64 4)),none⟩]
def f72_r12:List LOp:=[
 ⟨some 43,.move (.tmp 15),none⟩,
 ⟨some 44,.unOp .not 4 (.tmp 43),none⟩,
 ⟨some 45,.move (.tmp 44),none⟩,
 ⟨some 46,.move (.tmp 13),some (2,false)⟩,
 ⟨some 47,.buildSlice 22 1 #[(0,.tmp 46)],some (2,false)⟩,
 ⟨some 48,.call ⟨.value (.func 91),#[.tmp 47],#[22]⟩,some (2,false)⟩,
 ⟨some 49,.unOp .not 4 (.tmp 48),some (2,false)⟩,
 ⟨some 50,.pick (.tmp 45) (.const (.bool true)) (.tmp 49),none⟩,
 ⟨some 51,.move (.tmp 50),none⟩,
 ⟨some 52,.load 22 (.tmp 8),some (8,false)⟩,
 ⟨some 53,.move (.tmp 13),some (8,false)⟩,
 ⟨some 54,.call ⟨.value (.func 96),#[.tmp 52,.tmp 53],#[22,9]⟩,some (8,false)⟩,
 ⟨some 55,.pick (.tmp 51) (.const (.bool true)) (.tmp 54),none⟩,
 ⟨some 42,.assign (.tmp 55),none⟩]
def f72_r13:List LOp:=[
 ⟨some 56,.load 3 (.tmp 9),none⟩,
 ⟨none,.store 115 (.tmp 4) (.const (.slice none 0 0)),none⟩,
 ⟨none,.store 3 (.tmp 5) (.tmp 56),none⟩,
 ⟨none,.store 33 (.tmp 6) (.const (.int .i64 2)),none⟩]
def f72_r14:List LOp:=[
 ⟨some 57,.load 22 (.tmp 8),none⟩,
 ⟨some 58,.move (.tmp 13),none⟩,
 ⟨some 59,.buildSlice 22 1 #[(0,.tmp 58)],none⟩,
 ⟨some 60,.call ⟨.builtin .append,#[.tmp 57,.tmp 59],#[22,22]⟩,none⟩,
 ⟨none,.store 22 (.tmp 8) (.tmp 60),none⟩]
def f72_r15:List LOp:=[
 ⟨some 61,.load 115 (.tmp 7),none⟩,
 ⟨some 62,.load 3 (.tmp 9),none⟩,
 ⟨some 63,.move (.tmp 13),none⟩,
 ⟨some 64,.move (.tmp 14),none⟩,
 ⟨some 65,.build 120 #[(0,.tmp 62),(1,.tmp 63),(2,.tmp 64)],none⟩,
 ⟨some 66,.buildSlice 115 1 #[(0,.tmp 65)],none⟩,
 ⟨some 67,.call ⟨.builtin .append,#[.tmp 61,.tmp 66],#[115,115]⟩,none⟩,
 ⟨none,.store 115 (.tmp 7) (.tmp 67),none⟩]
def f72_r16:List LOp:=[
 ⟨some 68,.load 3 (.tmp 9),none⟩,
 ⟨some 69,.move (.tmp 10),none⟩,
 ⟨some 70,.call ⟨.builtin .len,#[.tmp 69],#[9]⟩,none⟩,
 ⟨some 71,.binOp .add 3 (.tmp 68) (.tmp 70) 3,none⟩,
 ⟨none,.store 3 (.tmp 9) (.tmp 71),none⟩]
def f72_a17:LC:=(.reg f72_r5 [] none)
def f72_b17:LC:=(.block 1 (.seq (.reg f72_r6 [] none) (.seq (.reg f72_r7 [] none) (.seq (.block 2 (.seq (.reg f72_r8 [] none) (.cond (.tmp 32) (.seq (.regt f72_r9 [] 0 (.both (.op 0 (.both (.op 1 (.op 2 (.op 3 (.op 4 .done)))) (.op 2 (.op 1 (.op 3 (.op 4 .done)))))) (.op 2 (.op 0 (.op 1 (.op 3 (.op 4 .done))))))) .ret) (.seq (.reg f72_r10 [] none) (.cond (.tmp 37) (.seq (.regt f72_r11 [] 0 (.both (.op 0 (.op 1 (.op 2 (.op 3 .done)))) (.op 1 (.op 0 (.op 2 (.op 3 .done)))))) .ret) (.seq (.reg f72_r12 [] none) (.cond (.tmp 42) (.seq (.regt f72_r13 [] 0 (.both (.op 0 (.op 1 (.op 2 (.op 3 .done)))) (.op 1 (.op 0 (.op 2 (.op 3 .done)))))) .ret) .skip))))))) (.seq (.reg f72_r14 [] none) (.seq (.reg f72_r15 [] none) (.reg f72_r16 [] none)))))))
def f72_r18:List LOp:=[
 ⟨some 72,.load 115 (.tmp 7),none⟩,
 ⟨some 73,.call ⟨.builtin .len,#[.tmp 72],#[115]⟩,none⟩,
 ⟨some 74,.binOp .eql 3 (.tmp 73) (.const (.int .i64 0)) 3,none⟩]
def f72_r19:List LOp:=[
 ⟨none,.store 115 (.tmp 4) (.const (.slice none 0 0)),none⟩,
 ⟨none,.store 3 (.tmp 5) (.const (.int .i64 0)),none⟩,
 ⟨none,.store 33 (.tmp 6) (.const (.int .i64 2)),none⟩]
def f72_r20:List LOp:=[
 ⟨some 75,.load 115 (.tmp 7),none⟩,
 ⟨none,.store 115 (.tmp 4) (.tmp 75),none⟩,
 ⟨none,.store 3 (.tmp 5) (.const (.int .i64 0)),none⟩,
 ⟨none,.store 33 (.tmp 6) (.const (.int .i64 0)),none⟩]
def f72_c:LC:=(.seq (.reg f72_r0 [] none) (.seq (.reg f72_r1 [] none) (.seq (.reg f72_r2 [] none) (.seq (.reg f72_r3 [] none) (.seq (.seq (.reg f72_r4 [] none) (.block 0 (.rfun (.tmp 19) [20] f72_a17 f72_b17))) (.seq (.seq (.reg f72_r18 [] none) (.cond (.tmp 74) (.seq (.reg f72_r19 [] none) .ret) .skip)) (.seq (.reg f72_r20 [] none) .ret)))))))
theorem f72_lc:Tryz.f72.body.map lc=some f72_c.st:=by kernel_rfl
theorem f72_res:Tryz.f72.results.toList=[.cell 4 115,.cell 5 3,.cell 6 33]:=by kernel_rfl
theorem f72_nt:Tryz.f72.ntmps=76:=by kernel_rfl
theorem f72_nm : (Tryz.f72.name == "runtime.NumGoroutine") = false := by kernel_rfl
def f73_r0:List LOp:=[
 ⟨some 2,.assign (.const (.slice none 0 0)),none⟩]
def f73_r1:List LOp:=[
 ⟨some 3,.move (.tmp 0),none⟩,
 ⟨some 4,.binOp .eql 22 (.tmp 3) (.const (.slice none 0 0)) 22,none⟩]
def f73_r2:List LOp:=[
 ⟨some 2,.assign (.const (.slice none 0 0)),none⟩]
def f73_r3:List LOp:=[
 ⟨some 5,.buildSlice 22 0 #[],none⟩,
 ⟨some 6,.move (.tmp 0),none⟩,
 ⟨some 7,.call ⟨.builtin .append,#[.tmp 5,.tmp 6],#[22,22]⟩,none⟩,
 ⟨some 2,.assign (.tmp 7),none⟩]
def f73_c:LC:=(.seq (.reg f73_r0 [] none) (.seq (.seq (.reg f73_r1 [] none) (.cond (.tmp 4) (.seq (.reg f73_r2 [] none) .ret) .skip)) (.seq (.reg f73_r3 [0] none) .ret)))
theorem f73_lc:Tryz.f73.body.map lc=some f73_c.st:=by kernel_rfl
theorem f73_res:Tryz.f73.results.toList=[.tmp 2]:=by kernel_rfl
theorem f73_nt:Tryz.f73.ntmps=8:=by kernel_rfl
theorem f73_nm : (Tryz.f73.name == "runtime.NumGoroutine") = false := by kernel_rfl
def f74_r0:List LOp:=[
 ⟨some 2,.alloc 28,none⟩,
 ⟨some 3,.alloc 3,none⟩,
 ⟨some 4,.alloc 33,none⟩]
def f74_r1:List LOp:=[
 ⟨some 5,.makeFunc (.func 97) #[] #[.tmp 2,.tmp 3,.tmp 4],none⟩,
 ⟨none,.defer ⟨.value (.tmp 5),#[],#[]⟩,none⟩]
def f74_r2:List LOp:=[
 ⟨some 6,.move (.tmp 0),none⟩,
 ⟨some 7,.call ⟨.value (.func 98),#[.tmp 6],#[122]⟩,none⟩,
 ⟨none,.store 28 (.tmp 2) (.tmp 7),none⟩]
def f74_r3:List LOp:=[
 ⟨some 8,.move (.tmp 0),none⟩,
 ⟨some 9,.call ⟨.value (.func 99),#[.tmp 8],#[122]⟩,none⟩]
def f74_r4:List LOp:=[
 ⟨some 10,.move (.tmp 0),none⟩,
 ⟨some 11,.nilCheck (.tmp 10),none⟩,
 ⟨some 12,.fieldAddr 124 (.tmp 11) 1,none⟩,
 ⟨some 13,.load 3 (.tmp 12),none⟩,
 ⟨some 14,.move (.tmp 0),none⟩,
 ⟨some 15,.nilCheck (.tmp 14),none⟩,
 ⟨some 16,.fieldAddr 124 (.tmp 15) 0,none⟩,
 ⟨some 17,.load 9 (.tmp 16),none⟩,
 ⟨some 18,.call ⟨.builtin .len,#[.tmp 17],#[9]⟩,none⟩,
 ⟨some 19,.binOp .lss 3 (.tmp 13) (.tmp 18) 3,none⟩]
def f74_r5:List LOp:=[
 ⟨some 20,.move (.tmp 0),none⟩,
 ⟨some 21,.move (.tmp 0),none⟩,
 ⟨some 22,.nilCheck (.tmp 21),none⟩,
 ⟨some 23,.fieldAddr 124 (.tmp 22) 1,none⟩,
 ⟨some 24,.load 3 (.tmp 23),none⟩,
 ⟨some 25,.call ⟨.value (.func 100),#[.tmp 20,.tmp 24,.const (.int .i64 2)],#[122,3,33]⟩,none⟩]
def f74_r6:List LOp:=[
 ⟨some 26,.load 28 (.tmp 2),none⟩,
 ⟨none,.store 28 (.tmp 2) (.tmp 26),none⟩,
 ⟨none,.store 3 (.tmp 3) (.const (.int .i64 0)),none⟩,
 ⟨none,.store 33 (.tmp 4) (.const (.int .i64 0)),none⟩]
def f74_c:LC:=(.seq (.reg f74_r0 [] none) (.seq (.reg f74_r1 [] none) (.seq (.reg f74_r2 [] none) (.seq (.reg f74_r3 [] none) (.seq (.seq (.reg f74_r4 [] (some 9)) (.cond (.tmp 19) (.reg f74_r5 [] none) .skip)) (.seq (.reg f74_r6 [] none) .ret))))))
theorem f74_lc:Tryz.f74.body.map lc=some f74_c.st:=by kernel_rfl
theorem f74_res:Tryz.f74.results.toList=[.cell 2 28,.cell 3 3,.cell 4 33]:=by kernel_rfl
theorem f74_nt:Tryz.f74.ntmps=27:=by kernel_rfl
theorem f74_nm : (Tryz.f74.name == "runtime.NumGoroutine") = false := by kernel_rfl
def f75_r0:List LOp:=[
 ⟨some 1,.box 25 (.tmp 0),none⟩,
 ⟨some 2,.assign (.const (.bool false)),none⟩]
def f75_r1:List LOp:=[
 ⟨some 8,.fieldAddr 25 (.tmp 1) 0,none⟩,
 ⟨some 9,.load 22 (.tmp 8),none⟩,
 ⟨some 10,.call ⟨.builtin .len,#[.tmp 9],#[22]⟩,none⟩,
 ⟨some 11,.fieldAddr 25 (.tmp 1) 1,none⟩,
 ⟨some 12,.load 23 (.tmp 11),none⟩,
 ⟨some 13,.call ⟨.builtin .len,#[.tmp 12],#[23]⟩,none⟩,
 ⟨some 3,.assign (.tmp 10),none⟩,
 ⟨some 4,.assign (.tmp 13),none⟩]
def f75_r2:List LOp:=[
 ⟨some 14,.move (.tmp 3),none⟩,
 ⟨some 15,.binOp .lss 3 (.tmp 14) (.const (.int .i64 1)) 3,none⟩,
 ⟨some 16,.move (.tmp 15),none⟩,
 ⟨some 17,.move (.tmp 3),some (2,false)⟩,
 ⟨some 18,.binOp .gtr 3 (.tmp 17) (.const (.int .i64 100)) 3,some (2,false)⟩,
 ⟨some 19,.pick (.tmp 16) (.const (.bool true)) (.tmp 18),none⟩,
 ⟨some 20,.move (.tmp 19),none⟩,
 ⟨some 21,.move (.tmp 4),some (6,false)⟩,
 ⟨some 22,.binOp .lss 3 (.tmp 21) (.const (.int .i64 1)) 3,some (6,false)⟩,
 ⟨some 23,.pick (.tmp 20) (.const (.bool true)) (.tmp 22),none⟩,
 ⟨some 24,.move (.tmp 23),none⟩,
 ⟨some 25,.move (.tmp 4),some (10,false)⟩,
 ⟨some 26,.binOp .gtr 3 (.tmp 25) (.const (.int .i64 50)) 3,some (10,false)⟩,
 ⟨some 27,.pick (.tmp 24) (.const (.bool true)) (.tmp 26),none⟩,
 ⟨some 28,.move (.tmp 27),none⟩,
 ⟨some 29,.fieldAddr 25 (.tmp 1) 0,some (14,false)⟩,
 ⟨some 30,.load 22 (.tmp 29),some (14,false)⟩,
 ⟨some 31,.fieldAddr 25 (.tmp 1) 1,some (14,false)⟩,
 ⟨some 32,.load 23 (.tmp 31),some (14,false)⟩,
 ⟨some 33,.call ⟨.value (.func 102),#[.tmp 32],#[23]⟩,some (14,false)⟩,
 ⟨some 34,.buildSlice 161 2 #[(0,.tmp 30),(1,.tmp 33)],some (14,false)⟩,
 ⟨some 35,.call ⟨.value (.func 101),#[.tmp 34],#[161]⟩,some (14,false)⟩,
 ⟨some 36,.call ⟨.value (.func 71),#[.tmp 35],#[22]⟩,some (14,false)⟩,
 ⟨some 37,.unOp .not 4 (.tmp 36),some (14,false)⟩,
 ⟨some 38,.pick (.tmp 28) (.const (.bool true)) (.tmp 37),none⟩]
def f75_r3:List LOp:=[
 ⟨some 2,.assign (.const (.bool false)),none⟩]
def f75_r4:List LOp:=[
 ⟨some 5,.assign (.const (.int .i64 0)),none⟩]
def f75_r5:List LOp:=[
 ⟨some 39,.fieldAddr 25 (.tmp 1) 1,none⟩,
 ⟨some 40,.load 23 (.tmp 39),none⟩,
 ⟨some 41,.call ⟨.builtin .len,#[.tmp 40],#[23]⟩,none⟩,
 ⟨some 42,.move (.const (.int .i64 0)),none⟩]
def f75_r6:List LOp:=[
 ⟨some 43,.binOp .lss 3 (.tmp 42) (.tmp 41) 3,none⟩]
def f75_r7:List LOp:=[
 ⟨some 44,.indexAddr 23 (.tmp 40) (.tmp 42),none⟩,
 ⟨some 45,.load 43 (.tmp 44),none⟩,
 ⟨some 7,.alloc 43,none⟩,
 ⟨none,.store 43 (.tmp 7) (.tmp 45),none⟩]
def f75_r8:List LOp:=[
 ⟨some 46,.load 25 (.tmp 1),none⟩,
 ⟨some 47,.fieldAddr 43 (.tmp 7) 1,none⟩,
 ⟨some 48,.load 28 (.tmp 47),none⟩,
 ⟨some 49,.call ⟨.value (.func 87),#[.tmp 46,.tmp 48],#[25,28]⟩,none⟩,
 ⟨some 50,.unOp .not 4 (.tmp 49),none⟩]
def f75_r9:List LOp:=[
 ⟨some 2,.assign (.const (.bool false)),none⟩]
def f75_r10:List LOp:=[
 ⟨some 51,.move (.tmp 5),none⟩,
 ⟨some 52,.fieldAddr 43 (.tmp 7) 1,none⟩,
 ⟨some 53,.load 28 (.tmp 52),none⟩,
 ⟨some 54,.buildSlice 26 1 #[(0,.tmp 53)],none⟩,
 ⟨some 55,.call ⟨.value (.func 88),#[.tmp 54],#[26]⟩,none⟩,
 ⟨some 56,.binOp .add 3 (.tmp 51) (.tmp 55) 3,none⟩,
 ⟨some 5,.assign (.tmp 56),none⟩]
def f75_r11:List LOp:=[
 ⟨some 57,.binOp .add 3 (.tmp 42) (.const (.int .i64 1)) 3,none⟩,
 ⟨some 42,.move (.tmp 57),none⟩]
def f75_l12:LC:=(.seq (.reg f75_r6 [] none) (.seq (.cond (.tmp 43) .skip (.exit 0)) (.seq (.block 1 (.seq (.reg f75_r7 [] none) (.seq (.seq (.reg f75_r8 [] none) (.cond (.tmp 50) (.seq (.reg f75_r9 [] none) .ret) .skip)) (.reg f75_r10 [] none)))) (.reg f75_r11 [] none))))
def f75_i12 (t1 t5 t40 t41 t42:D):List D:=[.any,t1,.any,.any,.any,t5,.any,.any,.any,.any,.any,.any,.any,.any,.any,.any,.any,.any,.any,.any,.any,.any,.any,.any,.any,.any,.any,.any,.any,.any,.any,.any,.any,.any,.any,.any,.any,.any,.any,.any,t40,t41,t42,.any,.any,.any,.any,.any,.any,.any,.any,.any,.any,.any,.any,.any,.any,.any,.any,.any]
def f75_r13:List LOp:=[
 ⟨some 58,.move (.tmp 5),none⟩,
 ⟨some 59,.binOp .leq 3 (.tmp 58) (.const (.int .i64 2000)) 3,none⟩,
 ⟨some 2,.assign (.tmp 59),none⟩]
def f75_c:LC:=(.seq (.reg f75_r0 [] none) (.seq (.regp f75_r1 [] [] 7) (.seq (.seq (.reg f75_r2 [] (some 20)) (.cond (.tmp 38) (.seq (.reg f75_r3 [] none) .ret) .skip)) (.seq (.reg f75_r4 [] none) (.seq (.seq (.reg f75_r5 [] none) (.block 0 (.loop f75_l12))) (.seq (.reg f75_r13 [] none) .ret))))))
theorem f75_lc:Tryz.f75.body.map lc=some f75_c.st:=by kernel_rfl
theorem f75_res:Tryz.f75.results.toList=[.tmp 2]:=by kernel_rfl
theorem f75_nt:Tryz.f75.ntmps=60:=by kernel_rfl
theorem f75_nm : (Tryz.f75.name == "runtime.NumGoroutine") = false := by kernel_rfl
def f76_r0:List LOp:=[
 ⟨some 1,.box 25 (.tmp 0),none⟩,
 ⟨some 2,.assign (.const (.bool false)),none⟩]
def f76_r1:List LOp:=[
 ⟨some 3,.load 25 (.tmp 1),none⟩,
 ⟨some 4,.call ⟨.value (.func 75),#[.tmp 3],#[25]⟩,none⟩,
 ⟨some 5,.unOp .not 4 (.tmp 4),none⟩,
 ⟨some 2,.assign (.tmp 5),none⟩]
def f76_c:LC:=(.seq (.reg f76_r0 [] none) (.seq (.reg f76_r1 [] none) .ret))
theorem f76_lc:Tryz.f76.body.map lc=some f76_c.st:=by kernel_rfl
theorem f76_res:Tryz.f76.results.toList=[.tmp 2]:=by kernel_rfl
theorem f76_nt:Tryz.f76.ntmps=6:=by kernel_rfl
theorem f76_nm : (Tryz.f76.name == "runtime.NumGoroutine") = false := by kernel_rfl
def f77_r0:List LOp:=[
 ⟨some 1,.box 28 (.tmp 0),none⟩,
 ⟨some 2,.alloc 28,none⟩]
def f77_r1:List LOp:=[
 ⟨some 6,.fieldAddr 28 (.tmp 1) 2,none⟩,
 ⟨some 7,.load 26 (.tmp 6),none⟩,
 ⟨some 3,.assign (.tmp 7),none⟩]
def f77_r2:List LOp:=[
 ⟨some 8,.fieldAddr 28 (.tmp 1) 2,none⟩,
 ⟨none,.store 26 (.tmp 8) (.const (.slice none 0 0)),none⟩]
def f77_r3:List LOp:=[
 ⟨some 9,.move (.tmp 3),none⟩,
 ⟨some 10,.call ⟨.builtin .len,#[.tmp 9],#[26]⟩,none⟩,
 ⟨some 11,.move (.const (.int .i64 0)),none⟩]
def f77_r4:List LOp:=[
 ⟨some 12,.binOp .lss 3 (.tmp 11) (.tmp 10) 3,none⟩]
def f77_r5:List LOp:=[
 ⟨some 13,.indexAddr 26 (.tmp 9) (.tmp 11),none⟩,
 ⟨some 14,.load 28 (.tmp 13),none⟩,
 ⟨some 5,.alloc 28,none⟩,
 ⟨none,.store 28 (.tmp 5) (.tmp 14),none⟩]
def f77_r6:List LOp:=[
 ⟨some 15,.fieldAddr 28 (.tmp 1) 2,none⟩,
 ⟨some 16,.load 26 (.tmp 15),none⟩,
 ⟨some 17,.load 28 (.tmp 5),none⟩,
 ⟨some 18,.call ⟨.value (.func 77),#[.tmp 17],#[28]⟩,none⟩,
 ⟨some 19,.buildSlice 26 1 #[(0,.tmp 18)],none⟩,
 ⟨some 20,.call ⟨.builtin .append,#[.tmp 16,.tmp 19],#[26,26]⟩,none⟩,
 ⟨some 21,.fieldAddr 28 (.tmp 1) 2,none⟩,
 ⟨none,.store 26 (.tmp 21) (.tmp 20),none⟩]
def f77_r7:List LOp:=[
 ⟨some 22,.binOp .add 3 (.tmp 11) (.const (.int .i64 1)) 3,none⟩,
 ⟨some 11,.move (.tmp 22),none⟩]
def f77_l8:LC:=(.seq (.reg f77_r4 [] none) (.seq (.cond (.tmp 12) .skip (.exit 0)) (.seq (.block 1 (.seq (.reg f77_r5 [] none) (.reg f77_r6 [] (some 5)))) (.reg f77_r7 [] none))))
def f77_i8 (t1 t2 t9 t10 t11:D):List D:=[.any,t1,t2,.any,.any,.any,.any,.any,.any,t9,t10,t11,.any,.any,.any,.any,.any,.any,.any,.any,.any,.any,.any,.any]
def f77_r9:List LOp:=[
 ⟨some 23,.load 28 (.tmp 1),none⟩,
 ⟨none,.store 28 (.tmp 2) (.tmp 23),none⟩]
def f77_c:LC:=(.seq (.reg f77_r0 [0] none) (.seq (.reg f77_r1 [] none) (.seq (.reg f77_r2 [] none) (.seq (.seq (.reg f77_r3 [] none) (.block 0 (.loop f77_l8))) (.seq (.reg f77_r9 [] none) .ret)))))
theorem f77_lc:Tryz.f77.body.map lc=some f77_c.st:=by kernel_rfl
theorem f77_res:Tryz.f77.results.toList=[.cell 2 28]:=by kernel_rfl
theorem f77_nt:Tryz.f77.ntmps=24:=by kernel_rfl
theorem f77_nm : (Tryz.f77.name == "runtime.NumGoroutine") = false := by kernel_rfl
def f78_r0:List LOp:=[
 ⟨some 4,.assign (.const (.slice none 0 0)),none⟩]
def f78_r1:List LOp:=[
 ⟨some 7,.buildSlice 83 0 #[],none⟩,
 ⟨some 8,.move (.tmp 0),none⟩,
 ⟨some 9,.call ⟨.builtin .append,#[.tmp 7,.tmp 8],#[83,83]⟩,none⟩,
 ⟨some 5,.assign (.tmp 9),none⟩]
def f78_r2:List LOp:=[
 ⟨some 10,.move (.tmp 1),none⟩,
 ⟨some 11,.call ⟨.builtin .len,#[.tmp 10],#[83]⟩,none⟩,
 ⟨some 12,.move (.const (.int .i64 0)),none⟩]
def f78_r3:List LOp:=[
 ⟨some 13,.binOp .lss 3 (.tmp 12) (.tmp 11) 3,none⟩]
def f78_r4:List LOp:=[
 ⟨some 14,.move (.tmp 12),none⟩,
 ⟨some 6,.assign (.tmp 14),none⟩]
def f78_r5:List LOp:=[
 ⟨some 15,.move (.tmp 5),none⟩,
 ⟨some 16,.move (.tmp 6),none⟩,
 ⟨some 17,.move (.tmp 5),none⟩,
 ⟨some 18,.move (.tmp 6),none⟩,
 ⟨some 19,.indexAddr 83 (.tmp 17) (.tmp 18),none⟩,
 ⟨some 20,.load 4 (.tmp 19),none⟩,
 ⟨some 21,.move (.tmp 20),none⟩,
 ⟨some 22,.move (.tmp 1),some (6,false)⟩,
 ⟨some 23,.move (.tmp 6),some (6,false)⟩,
 ⟨some 24,.indexAddr 83 (.tmp 22) (.tmp 23),some (6,false)⟩,
 ⟨some 25,.load 4 (.tmp 24),some (6,false)⟩,
 ⟨some 26,.pick (.tmp 21) (.const (.bool true)) (.tmp 25),none⟩,
 ⟨some 27,.indexAddr 83 (.tmp 15) (.tmp 16),none⟩,
 ⟨none,.store 4 (.tmp 27) (.tmp 26),none⟩]
def f78_r6:List LOp:=[
 ⟨some 28,.binOp .add 3 (.tmp 12) (.const (.int .i64 1)) 3,none⟩,
 ⟨some 12,.move (.tmp 28),none⟩]
def f78_l7:LC:=(.seq (.reg f78_r3 [] none) (.seq (.cond (.tmp 13) .skip (.exit 0)) (.seq (.block 1 (.seq (.reg f78_r4 [] none) (.reg f78_r5 [] none))) (.reg f78_r6 [] none))))
def f78_i7 (t1 t5 t11 t12:D):List D:=[.any,t1,.any,.any,.any,t5,.any,.any,.any,.any,.any,t11,t12,.any,.any,.any,.any,.any,.any,.any,.any,.any,.any,.any,.any,.any,.any,.any,.any,.any]
def f78_r8:List LOp:=[
 ⟨some 29,.move (.tmp 5),none⟩,
 ⟨some 4,.assign (.tmp 29),none⟩]
def f78_c:LC:=(.seq (.reg f78_r0 [] none) (.seq (.reg f78_r1 [0] none) (.seq (.seq (.reg f78_r2 [] none) (.block 0 (.loop f78_l7))) (.seq (.reg f78_r8 [] none) .ret))))
theorem f78_lc:Tryz.f78.body.map lc=some f78_c.st:=by kernel_rfl
theorem f78_res:Tryz.f78.results.toList=[.tmp 4]:=by kernel_rfl
theorem f78_nt:Tryz.f78.ntmps=30:=by kernel_rfl
theorem f78_nm : (Tryz.f78.name == "runtime.NumGoroutine") = false := by kernel_rfl
def f80_r0:List LOp:=[
 ⟨some 5,.move (.tmp 0),none⟩,
 ⟨some 6,.nilCheck (.tmp 5),none⟩,
 ⟨some 7,.fieldAddr 88 (.tmp 6) 0,none⟩,
 ⟨some 8,.fieldAddr 25 (.tmp 7) 0,none⟩,
 ⟨some 9,.load 22 (.tmp 8),none⟩,
 ⟨some 10,.call ⟨.builtin .len,#[.tmp 9],#[22]⟩,none⟩,
 ⟨some 11,.move (.tmp 0),none⟩,
 ⟨some 12,.nilCheck (.tmp 11),none⟩,
 ⟨some 13,.fieldAddr 88 (.tmp 12) 0,none⟩,
 ⟨some 14,.fieldAddr 25 (.tmp 13) 1,none⟩,
 ⟨some 15,.load 23 (.tmp 14),none⟩,
 ⟨some 2,.alloc 3,none⟩,
 ⟨some 3,.alloc 23,none⟩,
 ⟨none,.store 3 (.tmp 2) (.tmp 10),none⟩,
 ⟨none,.store 23 (.tmp 3) (.tmp 15),none⟩]
def f80_r1:List LOp:=[
 ⟨some 16,.move (.tmp 0),none⟩,
 ⟨some 17,.nilCheck (.tmp 16),none⟩,
 ⟨some 18,.fieldAddr 88 (.tmp 17) 2,none⟩,
 ⟨some 4,.alloc 96,none⟩,
 ⟨none,.store 96 (.tmp 4) (.tmp 18),none⟩]
def f80_r2:List LOp:=[
 ⟨some 19,.load 96 (.tmp 4),none⟩,
 ⟨some 20,.load 96 (.tmp 4),none⟩,
 ⟨some 21,.load 23 (.tmp 3),none⟩,
 ⟨some 22,.call ⟨.builtin .len,#[.tmp 21],#[23]⟩,none⟩,
 ⟨some 23,.makeSlice 83 (.tmp 22) (.tmp 22),none⟩,
 ⟨some 24,.load 23 (.tmp 3),none⟩,
 ⟨some 25,.call ⟨.builtin .len,#[.tmp 24],#[23]⟩,none⟩,
 ⟨some 26,.makeSlice 83 (.tmp 25) (.tmp 25),none⟩,
 ⟨some 27,.nilCheck (.tmp 19),none⟩,
 ⟨some 28,.fieldAddr 86 (.tmp 27) 0,none⟩,
 ⟨none,.store 83 (.tmp 28) (.tmp 23),none⟩,
 ⟨some 29,.nilCheck (.tmp 20),none⟩,
 ⟨some 30,.fieldAddr 86 (.tmp 29) 1,none⟩,
 ⟨none,.store 83 (.tmp 30) (.tmp 26),none⟩]
def f80_r3:List LOp:=[
 ⟨some 31,.load 23 (.tmp 3),none⟩,
 ⟨some 32,.call ⟨.builtin .len,#[.tmp 31],#[23]⟩,none⟩,
 ⟨some 33,.move (.const (.int .i64 0)),none⟩]
def f80_r4:List LOp:=[
 ⟨some 34,.binOp .lss 3 (.tmp 33) (.tmp 32) 3,none⟩]
def f80_r5:List LOp:=[
 ⟨some 35,.load 96 (.tmp 4),none⟩,
 ⟨some 36,.load 96 (.tmp 4),none⟩,
 ⟨some 37,.nilCheck (.tmp 36),none⟩,
 ⟨some 38,.fieldAddr 86 (.tmp 37) 2,none⟩,
 ⟨some 39,.load 84 (.tmp 38),none⟩,
 ⟨some 40,.load 3 (.tmp 2),none⟩,
 ⟨some 41,.makeSlice 99 (.tmp 40) (.tmp 40),none⟩,
 ⟨some 42,.buildSlice 84 1 #[(0,.tmp 41)],none⟩,
 ⟨some 43,.call ⟨.builtin .append,#[.tmp 39,.tmp 42],#[84,84]⟩,none⟩,
 ⟨some 44,.nilCheck (.tmp 35),none⟩,
 ⟨some 45,.fieldAddr 86 (.tmp 44) 2,none⟩,
 ⟨none,.store 84 (.tmp 45) (.tmp 43),none⟩]
def f80_r6:List LOp:=[
 ⟨some 46,.load 96 (.tmp 4),none⟩,
 ⟨some 47,.load 96 (.tmp 4),none⟩,
 ⟨some 48,.nilCheck (.tmp 47),none⟩,
 ⟨some 49,.fieldAddr 86 (.tmp 48) 3,none⟩,
 ⟨some 50,.load 84 (.tmp 49),none⟩,
 ⟨some 51,.load 3 (.tmp 2),none⟩,
 ⟨some 52,.makeSlice 99 (.tmp 51) (.tmp 51),none⟩,
 ⟨some 53,.buildSlice 84 1 #[(0,.tmp 52)],none⟩,
 ⟨some 54,.call ⟨.builtin .append,#[.tmp 50,.tmp 53],#[84,84]⟩,none⟩,
 ⟨some 55,.nilCheck (.tmp 46),none⟩,
 ⟨some 56,.fieldAddr 86 (.tmp 55) 3,none⟩,
 ⟨none,.store 84 (.tmp 56) (.tmp 54),none⟩]
def f80_r7:List LOp:=[
 ⟨some 57,.binOp .add 3 (.tmp 33) (.const (.int .i64 1)) 3,none⟩,
 ⟨some 33,.move (.tmp 57),none⟩]
def f80_l8:LC:=(.seq (.reg f80_r4 [] none) (.seq (.cond (.tmp 34) .skip (.exit 0)) (.seq (.block 1 (.seq (.regq f80_r5 [6] 0 (.free [[],[],[1],[2],[3],[],[5,5],[6],[4,7],[0,0,1,2,3,4,5,6,7,8],[9,0,1,2,3,4,5,6,7,8],[10,8,8,0,1,2,3,4,5,6,7,8]])) (.regq f80_r6 [6] 0 (.free [[],[],[1],[2],[3],[],[5,5],[6],[4,7],[0,0,1,2,3,4,5,6,7,8],[9,0,1,2,3,4,5,6,7,8],[10,8,8,0,1,2,3,4,5,6,7,8]])))) (.reg f80_r7 [] none))))
def f80_i8 (t2 t3 t4 t32 t33:D):List D:=[.any,.any,t2,t3,t4,.any,.any,.any,.any,.any,.any,.any,.any,.any,.any,.any,.any,.any,.any,.any,.any,.any,.any,.any,.any,.any,.any,.any,.any,.any,.any,.any,t32,t33,.any,.any,.any,.any,.any,.any,.any,.any,.any,.any,.any,.any,.any,.any,.any,.any,.any,.any,.any,.any,.any,.any,.any,.any,.any,.any,.any,.any,.any,.any]
def f80_r9:List LOp:=[
 ⟨some 58,.makeFunc (.func 106) #[] #[.tmp 3,.tmp 4],none⟩,
 ⟨some 59,.call ⟨.value (.func 105),#[.tmp 58],#[31]⟩,none⟩]
def f80_r10:List LOp:=[
 ⟨some 60,.makeFunc (.func 107) #[] #[.tmp 3,.tmp 4,.tmp 2],none⟩,
 ⟨some 61,.call ⟨.value (.func 105),#[.tmp 60],#[31]⟩,none⟩]
def f80_r11:List LOp:=[
 ⟨some 62,.makeFunc (.func 108) #[] #[.tmp 3,.tmp 4,.tmp 2],none⟩,
 ⟨some 63,.call ⟨.value (.func 105),#[.tmp 62],#[31]⟩,none⟩]
def f80_c:LC:=(.seq (.rega f80_r0 [] 14) (.seq (.reg f80_r1 [] none) (.seq (.regq f80_r2 [4,7] 0 (.free [[],[],[],[2],[3,3],[],[5],[6,6],[0,0,2,3,4],[8,0,2,3,4],[9,4,0,2,3,4],[1,0,1,2,3,4,5,6,7,8,9,10],[11,0,1,2,3,4,5,6,7,8,9,10],[12,7,10,0,1,2,3,4,5,6,7,8,9,10]])) (.seq (.seq (.reg f80_r3 [] none) (.block 0 (.loop f80_l8))) (.seq (.reg f80_r9 [] none) (.seq (.reg f80_r10 [] none) (.reg f80_r11 [] none)))))))
theorem f80_lc:Tryz.f80.body.map lc=some f80_c.st:=by kernel_rfl
theorem f80_res:Tryz.f80.results.toList=[]:=by kernel_rfl
theorem f80_nt:Tryz.f80.ntmps=64:=by kernel_rfl
theorem f80_nm : (Tryz.f80.name == "runtime.NumGoroutine") = false := by kernel_rfl
def f81_r0:List LOp:=[
 ⟨some 4,.assign (.const (.bool false)),none⟩]
def f81_r1:List LOp:=[
 ⟨some 5,.assign (.const (.bool false)),none⟩]
def f81_r2:List LOp:=[
 ⟨some 8,.move (.tmp 1),none⟩,
 ⟨some 9,.call ⟨.builtin .len,#[.tmp 8],#[99]⟩,none⟩,
 ⟨some 10,.move (.const (.int .i64 0)),none⟩]
def f81_r3:List LOp:=[
 ⟨some 11,.binOp .lss 3 (.tmp 10) (.tmp 9) 3,none⟩]
def f81_r4:List LOp:=[
 ⟨some 12,.move (.tmp 10),none⟩,
 ⟨some 13,.indexAddr 99 (.tmp 8) (.tmp 10),none⟩,
 ⟨some 14,.load 4 (.tmp 13),none⟩,
 ⟨some 6,.assign (.tmp 12),none⟩,
 ⟨some 7,.assign (.tmp 14),none⟩]
def f81_r5:List LOp:=[
 ⟨some 15,.move (.tmp 5),none⟩,
 ⟨some 16,.move (.tmp 15),none⟩,
 ⟨some 17,.move (.tmp 7),some (1,false)⟩,
 ⟨some 18,.move (.tmp 17),some (1,false)⟩,
 ⟨some 19,.move (.tmp 0),some (3,true)⟩,
 ⟨some 20,.move (.tmp 6),some (3,true)⟩,
 ⟨some 21,.indexAddr 99 (.tmp 19) (.tmp 20),some (3,true)⟩,
 ⟨some 22,.load 4 (.tmp 21),some (3,true)⟩,
 ⟨some 23,.unOp .not 4 (.tmp 22),some (3,true)⟩,
 ⟨some 24,.pick (.tmp 18) (.tmp 23) (.const (.bool false)),some (1,false)⟩,
 ⟨some 25,.pick (.tmp 16) (.const (.bool true)) (.tmp 24),none⟩,
 ⟨some 5,.assign (.tmp 25),none⟩]
def f81_r6:List LOp:=[
 ⟨some 26,.move (.tmp 0),none⟩,
 ⟨some 27,.move (.tmp 6),none⟩,
 ⟨some 28,.move (.tmp 0),none⟩,
 ⟨some 29,.move (.tmp 6),none⟩,
 ⟨some 30,.indexAddr 99 (.tmp 28) (.tmp 29),none⟩,
 ⟨some 31,.load 4 (.tmp 30),none⟩,
 ⟨some 32,.move (.tmp 31),none⟩,
 ⟨some 33,.move (.tmp 7),some (6,false)⟩,
 ⟨some 34,.pick (.tmp 32) (.const (.bool true)) (.tmp 33),none⟩,
 ⟨some 35,.indexAddr 99 (.tmp 26) (.tmp 27),none⟩,
 ⟨none,.store 4 (.tmp 35) (.tmp 34),none⟩]
def f81_r7:List LOp:=[
 ⟨some 36,.binOp .add 3 (.tmp 10) (.const (.int .i64 1)) 3,none⟩,
 ⟨some 10,.move (.tmp 36),none⟩]
def f81_l8:LC:=(.seq (.reg f81_r3 [] none) (.seq (.cond (.tmp 11) .skip (.exit 0)) (.seq (.block 1 (.seq (.reg f81_r4 [] none) (.seq (.reg f81_r5 [] none) (.reg f81_r6 [] none)))) (.reg f81_r7 [] none))))
def f81_i8 (t0 t5 t8 t9 t10:D):List D:=[t0,.any,.any,.any,.any,t5,.any,.any,t8,t9,t10,.any,.any,.any,.any,.any,.any,.any,.any,.any,.any,.any,.any,.any,.any,.any,.any,.any,.any,.any,.any,.any,.any,.any,.any,.any,.any,.any]
def f81_r9:List LOp:=[
 ⟨some 37,.move (.tmp 5),none⟩,
 ⟨some 4,.assign (.tmp 37),none⟩]
def f81_c:LC:=(.seq (.reg f81_r0 [] none) (.seq (.reg f81_r1 [] none) (.seq (.seq (.reg f81_r2 [] none) (.block 0 (.loop f81_l8))) (.seq (.reg f81_r9 [] none) .ret))))
theorem f81_lc:Tryz.f81.body.map lc=some f81_c.st:=by kernel_rfl
theorem f81_res:Tryz.f81.results.toList=[.tmp 4]:=by kernel_rfl
theorem f81_nt:Tryz.f81.ntmps=38:=by kernel_rfl
theorem f81_nm : (Tryz.f81.name == "runtime.NumGoroutine") = false := by kernel_rfl
def f82_r0:List LOp:=[
 ⟨some 4,.assign (.const (.int .i64 0)),none⟩]
def f82_r1:List LOp:=[
 ⟨some 6,.move (.tmp 0),none⟩,
 ⟨some 7,.call ⟨.builtin .len,#[.tmp 6],#[36]⟩,none⟩,
 ⟨some 8,.move (.const (.int .i64 0)),none⟩]
def f82_r2:List LOp:=[
 ⟨some 9,.binOp .lss 3 (.tmp 8) (.tmp 7) 3,none⟩]
def f82_r3:List LOp:=[
 ⟨some 10,.move (.tmp 8),none⟩,
 ⟨some 5,.assign (.tmp 10),none⟩]
def f82_r4:List LOp:=[
 ⟨some 11,.move (.tmp 1),none⟩,
 ⟨some 12,.move (.tmp 0),none⟩,
 ⟨some 13,.move (.tmp 5),none⟩,
 ⟨some 14,.indexAddr 36 (.tmp 12) (.tmp 13),none⟩,
 ⟨some 15,.load 3 (.tmp 14),none⟩,
 ⟨some 16,.binOp .eql 3 (.tmp 11) (.tmp 15) 3,none⟩]
def f82_r5:List LOp:=[
 ⟨some 17,.move (.tmp 5),none⟩,
 ⟨some 4,.assign (.tmp 17),none⟩]
def f82_r6:List LOp:=[
 ⟨some 18,.binOp .add 3 (.tmp 8) (.const (.int .i64 1)) 3,none⟩,
 ⟨some 8,.move (.tmp 18),none⟩]
def f82_l7:LC:=(.seq (.reg f82_r2 [] none) (.seq (.cond (.tmp 9) .skip (.exit 0)) (.seq (.block 1 (.seq (.reg f82_r3 [] none) (.seq (.reg f82_r4 [] none) (.cond (.tmp 16) (.seq (.reg f82_r5 [] none) .ret) .skip)))) (.reg f82_r6 [] none))))
def f82_i7 (t0 t1 t7 t8:D):List D:=[t0,t1,.any,.any,.any,.any,.any,t7,t8,.any,.any,.any,.any,.any,.any,.any,.any,.any,.any]
def f82_r8:List LOp:=[
 ⟨some 4,.assign (.const (.int .i64 (-1))),none⟩]
def f82_c:LC:=(.seq (.reg f82_r0 [] none) (.seq (.seq (.reg f82_r1 [] none) (.block 0 (.loop f82_l7))) (.seq (.reg f82_r8 [] none) .ret)))
theorem f82_lc:Tryz.f82.body.map lc=some f82_c.st:=by kernel_rfl
theorem f82_res:Tryz.f82.results.toList=[.tmp 4]:=by kernel_rfl
theorem f82_nt:Tryz.f82.ntmps=19:=by kernel_rfl
theorem f82_nm : (Tryz.f82.name == "runtime.NumGoroutine") = false := by kernel_rfl
def f85_r0:List LOp:=[
 ⟨some 4,.assign (.const (.int .i64 0)),none⟩]
def f85_r1:List LOp:=[
 ⟨some 6,.move (.tmp 0),none⟩,
 ⟨some 7,.call ⟨.builtin .len,#[.tmp 6],#[56]⟩,none⟩,
 ⟨some 8,.move (.const (.int .i64 0)),none⟩]
def f85_r2:List LOp:=[
 ⟨some 9,.binOp .lss 3 (.tmp 8) (.tmp 7) 3,none⟩]
def f85_r3:List LOp:=[
 ⟨some 10,.move (.tmp 8),none⟩,
 ⟨some 5,.assign (.tmp 10),none⟩]
def f85_r4:List LOp:=[
 ⟨some 11,.move (.tmp 1),none⟩,
 ⟨some 12,.move (.tmp 0),none⟩,
 ⟨some 13,.move (.tmp 5),none⟩,
 ⟨some 14,.indexAddr 56 (.tmp 12) (.tmp 13),none⟩,
 ⟨some 15,.load 25 (.tmp 14),none⟩,
 ⟨some 16,.call ⟨.value (.tmp 11),#[.tmp 15],#[25]⟩,none⟩]
def f85_r5:List LOp:=[
 ⟨some 17,.move (.tmp 5),none⟩,
 ⟨some 4,.assign (.tmp 17),none⟩]
def f85_r6:List LOp:=[
 ⟨some 18,.binOp .add 3 (.tmp 8) (.const (.int .i64 1)) 3,none⟩,
 ⟨some 8,.move (.tmp 18),none⟩]
def f85_l7:LC:=(.seq (.reg f85_r2 [] none) (.seq (.cond (.tmp 9) .skip (.exit 0)) (.seq (.block 1 (.seq (.reg f85_r3 [] none) (.seq (.reg f85_r4 [] none) (.cond (.tmp 16) (.seq (.reg f85_r5 [] none) .ret) .skip)))) (.reg f85_r6 [] none))))
def f85_i7 (t0 t1 t7 t8:D):List D:=[t0,t1,.any,.any,.any,.any,.any,t7,t8,.any,.any,.any,.any,.any,.any,.any,.any,.any,.any]
def f85_r8:List LOp:=[
 ⟨some 4,.assign (.const (.int .i64 (-1))),none⟩]
def f85_c:LC:=(.seq (.reg f85_r0 [] none) (.seq (.seq (.reg f85_r1 [] none) (.block 0 (.loop f85_l7))) (.seq (.reg f85_r8 [] none) .ret)))
theorem f85_lc:Tryz.f85.body.map lc=some f85_c.st:=by kernel_rfl
theorem f85_res:Tryz.f85.results.toList=[.tmp 4]:=by kernel_rfl
theorem f85_nt:Tryz.f85.ntmps=19:=by kernel_rfl
theorem f85_nm : (Tryz.f85.name == "runtime.NumGoroutine") = false := by kernel_rfl
def f86_r0:List LOp:=[
 ⟨some 2,.box 28 (.tmp 0),none⟩,
 ⟨some 3,.assign (.const (.bool false)),none⟩]
def f86_r1:List LOp:=[
 ⟨some 4,.load 25 (.tmp 1),none⟩,
 ⟨some 5,.load 28 (.tmp 2),none⟩,
 ⟨some 6,.call ⟨.value (.func 87),#[.tmp 4,.tmp 5],#[25,28]⟩,none⟩,
 ⟨some 7,.unOp .not 4 (.tmp 6),none⟩,
 ⟨some 8,.move (.tmp 7),none⟩,
 ⟨some 9,.load 28 (.tmp 2),some (4,false)⟩,
 ⟨some 10,.buildSlice 26 1 #[(0,.tmp 9)],some (4,false)⟩,
 ⟨some 11,.call ⟨.value (.func 88),#[.tmp 10],#[26]⟩,some (4,false)⟩,
 ⟨some 12,.binOp .gtr 3 (.tmp 11) (.const (.int .i64 2000)) 3,some (4,false)⟩,
 ⟨some 13,.pick (.tmp 8) (.const (.bool true)) (.tmp 12),none⟩,
 ⟨some 3,.assign (.tmp 13),none⟩]
def f86_c:LC:=(.seq (.reg f86_r0 [] none) (.seq (.reg f86_r1 [] none) .ret))
theorem f86_lc:Tryz.f86.body.map lc=some f86_c.st:=by kernel_rfl
theorem f86_res:Tryz.f86.results.toList=[.tmp 3]:=by kernel_rfl
theorem f86_nt:Tryz.f86.ntmps=14:=by kernel_rfl
theorem f86_nm : (Tryz.f86.name == "runtime.NumGoroutine") = false := by kernel_rfl
def f87_r0:List LOp:=[
 ⟨some 2,.box 25 (.tmp 0),none⟩,
 ⟨some 3,.box 28 (.tmp 1),none⟩,
 ⟨some 4,.assign (.const (.bool false)),none⟩]
def f87_r1:List LOp:=[
 ⟨some 5,.assign (.const (.int .i64 0)),none⟩,
 ⟨some 6,.assign (.const (.int .i64 1)),none⟩]
def f87_r2:List LOp:=[
 ⟨some 7,.fieldAddr 28 (.tmp 3) 0,none⟩,
 ⟨some 8,.load 5 (.tmp 7),none⟩]
def f87_r3:List LOp:=[
 ⟨some 10,.binOp .eql 5 (.tmp 8) (.const (.int .u8 1)) 5,none⟩,
 ⟨some 9,.assign (.tmp 10),none⟩]
def f87_r4:List LOp:=[
 ⟨some 11,.binOp .eql 5 (.tmp 8) (.const (.int .u8 2)) 5,none⟩,
 ⟨some 9,.assign (.tmp 11),none⟩]
def f87_r5:List LOp:=[
 ⟨some 13,.binOp .eql 5 (.tmp 8) (.const (.int .u8 3)) 5,none⟩,
 ⟨some 12,.assign (.tmp 13),none⟩]
def f87_r6:List LOp:=[
 ⟨some 14,.fieldAddr 25 (.tmp 2) 0,none⟩,
 ⟨some 15,.load 22 (.tmp 14),none⟩,
 ⟨some 16,.call ⟨.builtin .len,#[.tmp 15],#[22]⟩,none⟩,
 ⟨some 6,.assign (.tmp 16),none⟩]
def f87_r7:List LOp:=[
 ⟨some 18,.binOp .eql 5 (.tmp 8) (.const (.int .u8 6)) 5,none⟩,
 ⟨some 17,.assign (.tmp 18),none⟩]
def f87_r8:List LOp:=[
 ⟨some 19,.fieldAddr 25 (.tmp 2) 1,none⟩,
 ⟨some 20,.load 23 (.tmp 19),none⟩,
 ⟨some 21,.call ⟨.builtin .len,#[.tmp 20],#[23]⟩,none⟩,
 ⟨some 6,.assign (.tmp 21),none⟩]
def f87_r9:List LOp:=[
 ⟨some 23,.binOp .eql 5 (.tmp 8) (.const (.int .u8 4)) 5,none⟩,
 ⟨some 22,.assign (.tmp 23),none⟩]
def f87_r10:List LOp:=[
 ⟨some 24,.binOp .eql 5 (.tmp 8) (.const (.int .u8 5)) 5,none⟩,
 ⟨some 22,.assign (.tmp 24),none⟩]
def f87_r11:List LOp:=[
 ⟨some 5,.assign (.const (.int .i64 2)),none⟩]
def f87_r12:List LOp:=[
 ⟨some 4,.assign (.const (.bool false)),none⟩]
def f87_r13:List LOp:=[
 ⟨some 25,.fieldAddr 28 (.tmp 3) 1,none⟩,
 ⟨some 26,.load 3 (.tmp 25),none⟩,
 ⟨some 27,.binOp .geq 3 (.tmp 26) (.const (.int .i64 0)) 3,none⟩,
 ⟨some 28,.move (.tmp 27),none⟩,
 ⟨some 29,.fieldAddr 28 (.tmp 3) 1,some (3,true)⟩,
 ⟨some 30,.load 3 (.tmp 29),some (3,true)⟩,
 ⟨some 31,.move (.tmp 6),some (3,true)⟩,
 ⟨some 32,.binOp .lss 3 (.tmp 30) (.tmp 31) 3,some (3,true)⟩,
 ⟨some 33,.pick (.tmp 28) (.tmp 32) (.const (.bool false)),none⟩,
 ⟨some 34,.move (.tmp 33),none⟩,
 ⟨some 35,.fieldAddr 28 (.tmp 3) 2,some (9,true)⟩,
 ⟨some 36,.load 26 (.tmp 35),some (9,true)⟩,
 ⟨some 37,.call ⟨.builtin .len,#[.tmp 36],#[26]⟩,some (9,true)⟩,
 ⟨some 38,.move (.tmp 5),some (9,true)⟩,
 ⟨some 39,.binOp .eql 3 (.tmp 37) (.tmp 38) 3,some (9,true)⟩,
 ⟨some 40,.pick (.tmp 34) (.tmp 39) (.const (.bool false)),none⟩,
 ⟨some 41,.move (.tmp 40),none⟩,
 ⟨some 42,.fieldAddr 28 (.tmp 3) 2,some (16,true)⟩,
 ⟨some 43,.load 26 (.tmp 42),some (16,true)⟩,
 ⟨some 44,.makeFunc (.func 111) #[] #[.tmp 2],some (16,true)⟩,
 ⟨some 45,.call ⟨.value (.func 54),#[.tmp 43,.tmp 44],#[26,30]⟩,some (16,true)⟩,
 ⟨some 46,.unOp .not 4 (.tmp 45),some (16,true)⟩,
 ⟨some 47,.pick (.tmp 41) (.tmp 46) (.const (.bool false)),none⟩,
 ⟨some 4,.assign (.tmp 47),none⟩]
def f87_c:LC:=(.seq (.reg f87_r0 [] none) (.seq (.reg f87_r1 [] none) (.seq (.seq (.reg f87_r2 [] none) (.block 0 (.seq (.seq (.reg f87_r3 [] none) (.cond (.tmp 9) .skip (.reg f87_r4 [] none))) (.cond (.tmp 9) .skip (.seq (.reg f87_r5 [] none) (.cond (.tmp 12) (.reg f87_r6 [] none) (.seq (.reg f87_r7 [] none) (.cond (.tmp 17) (.reg f87_r8 [] none) (.seq (.seq (.reg f87_r9 [] none) (.cond (.tmp 22) .skip (.reg f87_r10 [] none))) (.cond (.tmp 22) (.reg f87_r11 [] none) (.seq (.reg f87_r12 [] none) .ret))))))))))) (.seq (.reg f87_r13 [] none) .ret))))
theorem f87_lc:Tryz.f87.body.map lc=some f87_c.st:=by kernel_rfl
theorem f87_res:Tryz.f87.results.toList=[.tmp 4]:=by kernel_rfl
theorem f87_nt:Tryz.f87.ntmps=48:=by kernel_rfl
theorem f87_nm : (Tryz.f87.name == "runtime.NumGoroutine") = false := by kernel_rfl
def f88_r0:List LOp:=[
 ⟨some 2,.assign (.const (.int .i64 0)),none⟩]
def f88_r1:List LOp:=[
 ⟨some 6,.move (.tmp 0),none⟩,
 ⟨some 7,.call ⟨.builtin .len,#[.tmp 6],#[26]⟩,none⟩,
 ⟨some 3,.assign (.tmp 7),none⟩]
def f88_r2:List LOp:=[
 ⟨some 8,.move (.tmp 0),none⟩,
 ⟨some 9,.call ⟨.builtin .len,#[.tmp 8],#[26]⟩,none⟩,
 ⟨some 10,.move (.const (.int .i64 0)),none⟩]
def f88_r3:List LOp:=[
 ⟨some 11,.binOp .lss 3 (.tmp 10) (.tmp 9) 3,none⟩]
def f88_r4:List LOp:=[
 ⟨some 12,.indexAddr 26 (.tmp 8) (.tmp 10),none⟩,
 ⟨some 13,.load 28 (.tmp 12),none⟩,
 ⟨some 5,.alloc 28,none⟩,
 ⟨none,.store 28 (.tmp 5) (.tmp 13),none⟩]
def f88_r5:List LOp:=[
 ⟨some 14,.move (.tmp 3),none⟩,
 ⟨some 15,.fieldAddr 28 (.tmp 5) 2,none⟩,
 ⟨some 16,.load 26 (.tmp 15),none⟩,
 ⟨some 17,.call ⟨.value (.func 88),#[.tmp 16],#[26]⟩,none⟩,
 ⟨some 18,.binOp .add 3 (.tmp 14) (.tmp 17) 3,none⟩,
 ⟨some 3,.assign (.tmp 18),none⟩]
def f88_r6:List LOp:=[
 ⟨some 19,.binOp .add 3 (.tmp 10) (.const (.int .i64 1)) 3,none⟩,
 ⟨some 10,.move (.tmp 19),none⟩]
def f88_l7:LC:=(.seq (.reg f88_r3 [] none) (.seq (.cond (.tmp 11) .skip (.exit 0)) (.seq (.block 1 (.seq (.reg f88_r4 [] none) (.reg f88_r5 [] none))) (.reg f88_r6 [] none))))
def f88_i7 (t3 t8 t9 t10:D):List D:=[.any,.any,.any,t3,.any,.any,.any,.any,t8,t9,t10,.any,.any,.any,.any,.any,.any,.any,.any,.any,.any]
def f88_r8:List LOp:=[
 ⟨some 20,.move (.tmp 3),none⟩,
 ⟨some 2,.assign (.tmp 20),none⟩]
def f88_c:LC:=(.seq (.reg f88_r0 [] none) (.seq (.reg f88_r1 [] none) (.seq (.seq (.reg f88_r2 [] none) (.block 0 (.loop f88_l7))) (.seq (.reg f88_r8 [] none) .ret))))
theorem f88_lc:Tryz.f88.body.map lc=some f88_c.st:=by kernel_rfl
theorem f88_res:Tryz.f88.results.toList=[.tmp 2]:=by kernel_rfl
theorem f88_nt:Tryz.f88.ntmps=21:=by kernel_rfl
theorem f88_nm : (Tryz.f88.name == "runtime.NumGoroutine") = false := by kernel_rfl
def f89_r0:List LOp:=[
 ⟨some 2,.assign (.const (.slice none 0 0)),none⟩]
def f89_r1:List LOp:=[
 ⟨some 4,.move (.tmp 0),none⟩,
 ⟨some 5,.call ⟨.value (.func 112),#[.tmp 4],#[137]⟩,none⟩,
 ⟨some 3,.assign (.tmp 5),none⟩]
def f89_r2:List LOp:=[
 ⟨some 6,.move (.tmp 3),none⟩,
 ⟨some 7,.call ⟨.value (.func 113),#[.tmp 6],#[22]⟩,none⟩]
def f89_r3:List LOp:=[
 ⟨some 8,.move (.tmp 3),none⟩,
 ⟨some 2,.assign (.tmp 8),none⟩]
def f89_c:LC:=(.seq (.reg f89_r0 [] none) (.seq (.reg f89_r1 [] none) (.seq (.reg f89_r2 [] none) (.seq (.reg f89_r3 [] none) .ret))))
theorem f89_lc:Tryz.f89.body.map lc=some f89_c.st:=by kernel_rfl
theorem f89_res:Tryz.f89.results.toList=[.tmp 2]:=by kernel_rfl
theorem f89_nt:Tryz.f89.ntmps=9:=by kernel_rfl
theorem f89_nm : (Tryz.f89.name == "runtime.NumGoroutine") = false := by kernel_rfl
def f90_r0:List LOp:=[
 ⟨some 1,.box 22 (.tmp 0),none⟩,
 ⟨some 2,.assign (.const .nilFunc),none⟩]
def f90_r1:List LOp:=[
 ⟨some 3,.makeFunc (.func 114) #[] #[.tmp 1],none⟩,
 ⟨some 2,.assign (.tmp 3),none⟩]
def f90_c:LC:=(.seq (.reg f90_r0 [] none) (.seq (.reg f90_r1 [] none) .ret))
theorem f90_lc:Tryz.f90.body.map lc=some f90_c.st:=by kernel_rfl
theorem f90_res:Tryz.f90.results.toList=[.tmp 2]:=by kernel_rfl
theorem f90_nt:Tryz.f90.ntmps=4:=by kernel_rfl
theorem f90_nm : (Tryz.f90.name == "runtime.NumGoroutine") = false := by kernel_rfl
def f91_r0:List LOp:=[
 ⟨some 2,.assign (.const (.bool false)),none⟩]
def f91_r1:List LOp:=[
 ⟨some 3,.move (.tmp 0),none⟩,
 ⟨some 4,.call ⟨.value (.func 115),#[.tmp 3,.func 116],#[22,113]⟩,none⟩,
 ⟨some 5,.unOp .not 4 (.tmp 4),none⟩,
 ⟨some 2,.assign (.tmp 5),none⟩]
def f91_c:LC:=(.seq (.reg f91_r0 [] none) (.seq (.reg f91_r1 [] none) .ret))
theorem f91_lc:Tryz.f91.body.map lc=some f91_c.st:=by kernel_rfl
theorem f91_res:Tryz.f91.results.toList=[.tmp 2]:=by kernel_rfl
theorem f91_nt:Tryz.f91.ntmps=6:=by kernel_rfl
theorem f91_nm : (Tryz.f91.name == "runtime.NumGoroutine") = false := by kernel_rfl
def f93_r0:List LOp:=[
 ⟨some 1,.box 9 (.tmp 0),none⟩,
 ⟨some 2,.assign (.const .nilFunc),none⟩]
def f93_r1:List LOp:=[
 ⟨some 3,.makeFunc (.func 118) #[] #[.tmp 1],none⟩,
 ⟨some 2,.assign (.tmp 3),none⟩]
def f93_c:LC:=(.seq (.reg f93_r0 [0] none) (.seq (.reg f93_r1 [] none) .ret))
theorem f93_lc:Tryz.f93.body.map lc=some f93_c.st:=by kernel_rfl
theorem f93_res:Tryz.f93.results.toList=[.tmp 2]:=by kernel_rfl
theorem f93_nt:Tryz.f93.ntmps=4:=by kernel_rfl
theorem f93_nm : (Tryz.f93.name == "runtime.NumGoroutine") = false := by kernel_rfl
def f94_r0:List LOp:=[
 ⟨some 4,.assign (.const (.string { data:=#[] })),none⟩,
 ⟨some 5,.assign (.const (.bool false)),none⟩]
def f94_r1:List LOp:=[
 ⟨some 6,.move (.tmp 0),none⟩,
 ⟨some 7,.move (.tmp 1),none⟩,
 ⟨some 8,.call ⟨.value (.func 120),#[.tmp 6,.tmp 7],#[9,9]⟩,none⟩,
 ⟨some 9,.extract (.tmp 8) 0,none⟩,
 ⟨some 10,.extract (.tmp 8) 1,none⟩,
 ⟨some 4,.assign (.tmp 9),none⟩,
 ⟨some 5,.assign (.tmp 10),none⟩]
def f94_c:LC:=(.seq (.reg f94_r0 [] none) (.seq (.reg f94_r1 [] none) .ret))
theorem f94_lc:Tryz.f94.body.map lc=some f94_c.st:=by kernel_rfl
theorem f94_res:Tryz.f94.results.toList=[.tmp 4,.tmp 5]:=by kernel_rfl
theorem f94_nt:Tryz.f94.ntmps=11:=by kernel_rfl
theorem f94_nm : (Tryz.f94.name == "runtime.NumGoroutine") = false := by kernel_rfl
def f96_r0:List LOp:=[
 ⟨some 4,.assign (.const (.bool false)),none⟩]
def f96_r1:List LOp:=[
 ⟨some 5,.move (.tmp 0),none⟩,
 ⟨some 6,.move (.tmp 1),none⟩,
 ⟨some 7,.call ⟨.value (.func 122),#[.tmp 5,.tmp 6],#[22,9]⟩,none⟩,
 ⟨some 8,.binOp .geq 3 (.tmp 7) (.const (.int .i64 0)) 3,none⟩,
 ⟨some 4,.assign (.tmp 8),none⟩]
def f96_c:LC:=(.seq (.reg f96_r0 [] none) (.seq (.reg f96_r1 [] none) .ret))
theorem f96_lc:Tryz.f96.body.map lc=some f96_c.st:=by kernel_rfl
theorem f96_res:Tryz.f96.results.toList=[.tmp 4]:=by kernel_rfl
theorem f96_nt:Tryz.f96.ntmps=9:=by kernel_rfl
theorem f96_nm : (Tryz.f96.name == "runtime.NumGoroutine") = false := by kernel_rfl
def f97_r0:List LOp:=[
 ⟨some 6,.call ⟨.builtin .recover,#[],#[]⟩,none⟩]
def f97_r1:List LOp:=[
 ⟨some 8,.binOp .eql 20 (.tmp 6) (.const .nilIface) 20,none⟩]
def f97_r2:List LOp:=[
 ⟨some 3,.assign (.tmp 6),none⟩]
def f97_r3:List LOp:=[
 ⟨some 9,.typeAssert (.tmp 6) 20 146 true,none⟩,
 ⟨some 10,.extract (.tmp 9) 1,none⟩,
 ⟨some 11,.extract (.tmp 9) 0,none⟩]
def f97_r4:List LOp:=[
 ⟨some 4,.alloc 146,none⟩,
 ⟨none,.store 146 (.tmp 4) (.tmp 11),none⟩]
def f97_r5:List LOp:=[
 ⟨some 12,.build 28 #[],none⟩,
 ⟨some 13,.fieldAddr 146 (.tmp 4) 0,none⟩,
 ⟨some 14,.load 3 (.tmp 13),none⟩,
 ⟨some 15,.fieldAddr 146 (.tmp 4) 1,none⟩,
 ⟨some 16,.load 33 (.tmp 15),none⟩,
 ⟨none,.store 28 (.tmp 0) (.tmp 12),none⟩,
 ⟨none,.store 3 (.tmp 1) (.tmp 14),none⟩,
 ⟨none,.store 33 (.tmp 2) (.tmp 16),none⟩]
def f97_r6:List LOp:=[
 ⟨some 5,.assign (.tmp 6),none⟩]
def f97_r7:List LOp:=[
 ⟨some 7,.move (.tmp 5),none⟩,
 ⟨none,.panic (.tmp 7),none⟩]
def f97_c:LC:=(.seq (.reg f97_r0 [] none) (.block 0 (.seq (.reg f97_r1 [] none) (.cond (.tmp 8) (.reg f97_r2 [] none) (.seq (.reg f97_r3 [] none) (.cond (.tmp 10) (.seq (.reg f97_r4 [] none) (.regq f97_r5 [] 0 (.free [[],[],[1],[],[3],[0,0],[2,5,0,1,2,5],[4,6,0,1,2,3,4,5,6]]))) (.seq (.reg f97_r6 [] none) (.reg f97_r7 [] none))))))))
theorem f97_lc:Tryz.f97.body.map lc=some f97_c.st:=by kernel_rfl
theorem f97_res:Tryz.f97.results.toList=[]:=by kernel_rfl
theorem f97_nt:Tryz.f97.ntmps=17:=by kernel_rfl
theorem f97_nm : (Tryz.f97.name == "runtime.NumGoroutine") = false := by kernel_rfl
def f98_r0:List LOp:=[
 ⟨some 2,.alloc 28,none⟩]
def f98_r1:List LOp:=[
 ⟨some 4,.move (.tmp 0),none⟩,
 ⟨some 5,.call ⟨.value (.func 123),#[.tmp 4],#[122]⟩,none⟩,
 ⟨some 6,.buildSlice 26 1 #[(0,.tmp 5)],none⟩,
 ⟨some 3,.assign (.tmp 6),none⟩]
def f98_r2:List LOp:=[
 ⟨some 7,.move (.tmp 0),none⟩,
 ⟨some 8,.call ⟨.value (.func 124),#[.tmp 7,.const (.int .u8 124)],#[122,5]⟩,none⟩]
def f98_r3:List LOp:=[
 ⟨some 9,.move (.tmp 0),none⟩,
 ⟨some 10,.nilCheck (.tmp 9),none⟩,
 ⟨some 11,.fieldAddr 124 (.tmp 10) 1,none⟩,
 ⟨some 12,.load 3 (.tmp 11),none⟩,
 ⟨some 13,.binOp .add 3 (.tmp 12) (.const (.int .i64 1)) 3,none⟩,
 ⟨some 14,.nilCheck (.tmp 9),none⟩,
 ⟨some 15,.fieldAddr 124 (.tmp 14) 1,none⟩,
 ⟨none,.store 3 (.tmp 15) (.tmp 13),none⟩]
def f98_r4:List LOp:=[
 ⟨some 16,.move (.tmp 3),none⟩,
 ⟨some 17,.move (.tmp 0),none⟩,
 ⟨some 18,.call ⟨.value (.func 123),#[.tmp 17],#[122]⟩,none⟩,
 ⟨some 19,.buildSlice 26 1 #[(0,.tmp 18)],none⟩,
 ⟨some 20,.call ⟨.builtin .append,#[.tmp 16,.tmp 19],#[26,26]⟩,none⟩,
 ⟨some 3,.assign (.tmp 20),none⟩]
def f98_l5:LC:=(.seq (.seq (.reg f98_r2 [] none) (.cond (.tmp 8) .skip (.exit 0))) (.block 1 (.seq (.reg f98_r3 [] none) (.reg f98_r4 [] none))))
def f98_i5 (t0 t2 t3:D):List D:=[t0,.any,t2,t3,.any,.any,.any,.any,.any,.any,.any,.any,.any,.any,.any,.any,.any,.any,.any,.any,.any,.any,.any]
def f98_r6:List LOp:=[
 ⟨some 21,.move (.tmp 3),none⟩,
 ⟨some 22,.call ⟨.value (.func 125),#[.const (.int .u8 5),.tmp 21],#[5,26]⟩,none⟩,
 ⟨none,.store 28 (.tmp 2) (.tmp 22),none⟩]
def f98_c:LC:=(.seq (.reg f98_r0 [] none) (.seq (.reg f98_r1 [2] none) (.seq (.block 0 (.loop f98_l5)) (.seq (.reg f98_r6 [] none) .ret))))
theorem f98_lc:Tryz.f98.body.map lc=some f98_c.st:=by kernel_rfl
theorem f98_res:Tryz.f98.results.toList=[.cell 2 28]:=by kernel_rfl
theorem f98_nt:Tryz.f98.ntmps=23:=by kernel_rfl
theorem f98_nm : (Tryz.f98.name == "runtime.NumGoroutine") = false := by kernel_rfl
def f99_r0:List LOp:=[
 ⟨some 2,.move (.tmp 0),none⟩,
 ⟨some 3,.nilCheck (.tmp 2),none⟩,
 ⟨some 4,.fieldAddr 124 (.tmp 3) 1,none⟩,
 ⟨some 5,.load 3 (.tmp 4),none⟩,
 ⟨some 6,.move (.tmp 0),none⟩,
 ⟨some 7,.nilCheck (.tmp 6),none⟩,
 ⟨some 8,.fieldAddr 124 (.tmp 7) 0,none⟩,
 ⟨some 9,.load 9 (.tmp 8),none⟩,
 ⟨some 10,.call ⟨.builtin .len,#[.tmp 9],#[9]⟩,none⟩,
 ⟨some 11,.binOp .lss 3 (.tmp 5) (.tmp 10) 3,none⟩,
 ⟨some 12,.move (.tmp 11),none⟩,
 ⟨some 13,.move (.tmp 0),some (10,true)⟩,
 ⟨some 14,.nilCheck (.tmp 13),some (10,true)⟩,
 ⟨some 15,.fieldAddr 124 (.tmp 14) 0,some (10,true)⟩,
 ⟨some 16,.load 9 (.tmp 15),some (10,true)⟩,
 ⟨some 17,.move (.tmp 0),some (10,true)⟩,
 ⟨some 18,.nilCheck (.tmp 17),some (10,true)⟩,
 ⟨some 19,.fieldAddr 124 (.tmp 18) 1,some (10,true)⟩,
 ⟨some 20,.load 3 (.tmp 19),some (10,true)⟩,
 ⟨some 21,.index 9 (.tmp 16) (.tmp 20),some (10,true)⟩,
 ⟨some 22,.binOp .eql 5 (.tmp 21) (.const (.int .u8 32)) 5,some (10,true)⟩,
 ⟨some 23,.pick (.tmp 12) (.tmp 22) (.const (.bool false)),none⟩]
def f99_r1:List LOp:=[
 ⟨some 24,.move (.tmp 0),none⟩,
 ⟨some 25,.nilCheck (.tmp 24),none⟩,
 ⟨some 26,.fieldAddr 124 (.tmp 25) 1,none⟩,
 ⟨some 27,.load 3 (.tmp 26),none⟩,
 ⟨some 28,.binOp .add 3 (.tmp 27) (.const (.int .i64 1)) 3,none⟩,
 ⟨some 29,.nilCheck (.tmp 24),none⟩,
 ⟨some 30,.fieldAddr 124 (.tmp 29) 1,none⟩,
 ⟨none,.store 3 (.tmp 30) (.tmp 28),none⟩]
def f99_l2:LC:=(.seq (.seq (.reg f99_r0 [] (some 22)) (.cond (.tmp 23) .skip (.exit 0))) (.block 1 (.reg f99_r1 [] none)))
def f99_i2 (t0:D):List D:=[t0,.any,.any,.any,.any,.any,.any,.any,.any,.any,.any,.any,.any,.any,.any,.any,.any,.any,.any,.any,.any,.any,.any,.any,.any,.any,.any,.any,.any,.any,.any]
def f99_c:LC:=(.block 0 (.loop f99_l2))
theorem f99_lc:Tryz.f99.body.map lc=some f99_c.st:=by kernel_rfl
theorem f99_res:Tryz.f99.results.toList=[]:=by kernel_rfl
theorem f99_nt:Tryz.f99.ntmps=31:=by kernel_rfl
theorem f99_nm : (Tryz.f99.name == "runtime.NumGoroutine") = false := by kernel_rfl
def f100_r0:List LOp:=[
 ⟨some 6,.move (.tmp 1),none⟩,
 ⟨some 7,.move (.tmp 2),none⟩,
 ⟨some 8,.build 146 #[(0,.tmp 6),(1,.tmp 7)],none⟩,
 ⟨some 9,.makeInterface 146 (.tmp 8),none⟩,
 ⟨none,.panic (.tmp 9),none⟩]
def f100_c:LC:=(.reg f100_r0 [] none)
theorem f100_lc:Tryz.f100.body.map lc=some f100_c.st:=by kernel_rfl
theorem f100_res:Tryz.f100.results.toList=[]:=by kernel_rfl
theorem f100_nt:Tryz.f100.ntmps=10:=by kernel_rfl
theorem f100_nm : (Tryz.f100.name == "runtime.NumGoroutine") = false := by kernel_rfl
def f101_r0:List LOp:=[
 ⟨some 2,.assign (.const (.slice none 0 0)),none⟩]
def f101_r1:List LOp:=[
 ⟨some 3,.assign (.const (.int .i64 0)),none⟩]
def f101_r2:List LOp:=[
 ⟨some 9,.move (.tmp 0),none⟩,
 ⟨some 10,.call ⟨.builtin .len,#[.tmp 9],#[161]⟩,none⟩,
 ⟨some 11,.move (.const (.int .i64 0)),none⟩]
def f101_r3:List LOp:=[
 ⟨some 12,.binOp .lss 3 (.tmp 11) (.tmp 10) 3,none⟩]
def f101_r4:List LOp:=[
 ⟨some 13,.indexAddr 161 (.tmp 9) (.tmp 11),none⟩,
 ⟨some 14,.load 22 (.tmp 13),none⟩,
 ⟨some 5,.assign (.tmp 14),none⟩]
def f101_r5:List LOp:=[
 ⟨some 15,.move (.tmp 3),none⟩,
 ⟨some 16,.move (.tmp 5),none⟩,
 ⟨some 17,.call ⟨.builtin .len,#[.tmp 16],#[22]⟩,none⟩,
 ⟨some 18,.binOp .add 3 (.tmp 15) (.tmp 17) 3,none⟩,
 ⟨some 3,.assign (.tmp 18),none⟩]
def f101_r6:List LOp:=[
 ⟨some 19,.move (.tmp 3),none⟩,
 ⟨some 20,.binOp .lss 3 (.tmp 19) (.const (.int .i64 0)) 3,none⟩]
def f101_r7:List LOp:=[
 ⟨some 21,.makeInterface 9 (.const (.string { data:=#[108,101,110,32,111,117,116,32,111,102,32,114,97,110,103,101] })),none⟩,
 ⟨none,.panic (.tmp 21),none⟩]
def f101_r8:List LOp:=[
 ⟨some 22,.binOp .add 3 (.tmp 11) (.const (.int .i64 1)) 3,none⟩,
 ⟨some 11,.move (.tmp 22),none⟩]
def f101_l9:LC:=(.seq (.reg f101_r3 [] none) (.seq (.cond (.tmp 12) .skip (.exit 0)) (.seq (.block 1 (.seq (.reg f101_r4 [] none) (.seq (.reg f101_r5 [] none) (.seq (.reg f101_r6 [] none) (.cond (.tmp 20) (.reg f101_r7 [] none) .skip))))) (.reg f101_r8 [] none))))
def f101_i9 (t0 t3 t9 t10 t11:D):List D:=[t0,.any,.any,t3,.any,.any,.any,.any,.any,t9,t10,t11,.any,.any,.any,.any,.any,.any,.any,.any,.any,.any,.any,.any,.any,.any,.any,.any,.any,.any,.any,.any,.any,.any,.any,.any]
def f101_r10:List LOp:=[
 ⟨some 23,.move (.tmp 3),none⟩,
 ⟨some 24,.call ⟨.value (.func 126),#[.const (.slice none 0 0),.tmp 23],#[22,3]⟩,none⟩,
 ⟨some 6,.assign (.tmp 24),none⟩]
def f101_r11:List LOp:=[
 ⟨some 25,.move (.tmp 0),none⟩,
 ⟨some 26,.call ⟨.builtin .len,#[.tmp 25],#[161]⟩,none⟩,
 ⟨some 27,.move (.const (.int .i64 0)),none⟩]
def f101_r12:List LOp:=[
 ⟨some 28,.binOp .lss 3 (.tmp 27) (.tmp 26) 3,none⟩]
def f101_r13:List LOp:=[
 ⟨some 29,.indexAddr 161 (.tmp 25) (.tmp 27),none⟩,
 ⟨some 30,.load 22 (.tmp 29),none⟩,
 ⟨some 8,.assign (.tmp 30),none⟩]
def f101_r14:List LOp:=[
 ⟨some 31,.move (.tmp 6),none⟩,
 ⟨some 32,.move (.tmp 8),none⟩,
 ⟨some 33,.call ⟨.builtin .append,#[.tmp 31,.tmp 32],#[22,22]⟩,none⟩,
 ⟨some 6,.assign (.tmp 33),none⟩]
def f101_r15:List LOp:=[
 ⟨some 34,.binOp .add 3 (.tmp 27) (.const (.int .i64 1)) 3,none⟩,
 ⟨some 27,.move (.tmp 34),none⟩]
def f101_l16:LC:=(.seq (.reg f101_r12 [] none) (.seq (.cond (.tmp 28) .skip (.exit 2)) (.seq (.block 3 (.seq (.reg f101_r13 [] none) (.reg f101_r14 [] none))) (.reg f101_r15 [] none))))
def f101_i16 (t6 t25 t26 t27:D):List D:=[.any,.any,.any,.any,.any,.any,t6,.any,.any,.any,.any,.any,.any,.any,.any,.any,.any,.any,.any,.any,.any,.any,.any,.any,.any,t25,t26,t27,.any,.any,.any,.any,.any,.any,.any,.any]
def f101_r17:List LOp:=[
 ⟨some 35,.move (.tmp 6),none⟩,
 ⟨some 2,.assign (.tmp 35),none⟩]
def f101_c:LC:=(.seq (.reg f101_r0 [] none) (.seq (.reg f101_r1 [] none) (.seq (.seq (.reg f101_r2 [] none) (.block 0 (.loop f101_l9))) (.seq (.reg f101_r10 [] none) (.seq (.seq (.reg f101_r11 [] none) (.block 2 (.loop f101_l16))) (.seq (.reg f101_r17 [] none) .ret))))))
theorem f101_lc:Tryz.f101.body.map lc=some f101_c.st:=by kernel_rfl
theorem f101_res:Tryz.f101.results.toList=[.tmp 2]:=by kernel_rfl
theorem f101_nt:Tryz.f101.ntmps=36:=by kernel_rfl
theorem f101_nm : (Tryz.f101.name == "runtime.NumGoroutine") = false := by kernel_rfl
def f102_r0:List LOp:=[
 ⟨some 2,.assign (.const (.slice none 0 0)),none⟩]
def f102_r1:List LOp:=[
 ⟨some 3,.assign (.const (.slice none 0 0)),none⟩]
def f102_r2:List LOp:=[
 ⟨some 6,.move (.tmp 0),none⟩,
 ⟨some 7,.call ⟨.builtin .len,#[.tmp 6],#[23]⟩,none⟩,
 ⟨some 8,.move (.const (.int .i64 0)),none⟩]
def f102_r3:List LOp:=[
 ⟨some 9,.binOp .lss 3 (.tmp 8) (.tmp 7) 3,none⟩]
def f102_r4:List LOp:=[
 ⟨some 10,.indexAddr 23 (.tmp 6) (.tmp 8),none⟩,
 ⟨some 11,.load 43 (.tmp 10),none⟩,
 ⟨some 5,.alloc 43,none⟩,
 ⟨none,.store 43 (.tmp 5) (.tmp 11),none⟩]
def f102_r5:List LOp:=[
 ⟨some 12,.move (.tmp 3),none⟩,
 ⟨some 13,.fieldAddr 43 (.tmp 5) 0,none⟩,
 ⟨some 14,.load 9 (.tmp 13),none⟩,
 ⟨some 15,.buildSlice 22 1 #[(0,.tmp 14)],none⟩,
 ⟨some 16,.call ⟨.builtin .append,#[.tmp 12,.tmp 15],#[22,22]⟩,none⟩,
 ⟨some 3,.assign (.tmp 16),none⟩]
def f102_r6:List LOp:=[
 ⟨some 17,.binOp .add 3 (.tmp 8) (.const (.int .i64 1)) 3,none⟩,
 ⟨some 8,.move (.tmp 17),none⟩]
def f102_l7:LC:=(.seq (.reg f102_r3 [] none) (.seq (.cond (.tmp 9) .skip (.exit 0)) (.seq (.block 1 (.seq (.reg f102_r4 [] none) (.reg f102_r5 [] none))) (.reg f102_r6 [] none))))
def f102_i7 (t3 t6 t7 t8:D):List D:=[.any,.any,.any,t3,.any,.any,t6,t7,t8,.any,.any,.any,.any,.any,.any,.any,.any,.any,.any]
def f102_r8:List LOp:=[
 ⟨some 18,.move (.tmp 3),none⟩,
 ⟨some 2,.assign (.tmp 18),none⟩]
def f102_c:LC:=(.seq (.reg f102_r0 [] none) (.seq (.reg f102_r1 [] none) (.seq (.seq (.reg f102_r2 [] none) (.block 0 (.loop f102_l7))) (.seq (.reg f102_r8 [] none) .ret))))
theorem f102_lc:Tryz.f102.body.map lc=some f102_c.st:=by kernel_rfl
theorem f102_res:Tryz.f102.results.toList=[.tmp 2]:=by kernel_rfl
theorem f102_nt:Tryz.f102.ntmps=19:=by kernel_rfl
theorem f102_nm : (Tryz.f102.name == "runtime.NumGoroutine") = false := by kernel_rfl
def f105_r0:List LOp:=[
 ⟨some 2,.move (.tmp 0),none⟩,
 ⟨some 3,.call ⟨.value (.tmp 2),#[],#[]⟩,none⟩]
def f105_l1:LC:=(.seq (.seq (.reg f105_r0 [] none) (.cond (.tmp 3) .skip (.exit 0))) (.block 1 .skip))
def f105_i1 (t0:D):List D:=[t0,.any,.any,.any]
def f105_c:LC:=(.block 0 (.loop f105_l1))
theorem f105_lc:Tryz.f105.body.map lc=some f105_c.st:=by kernel_rfl
theorem f105_res:Tryz.f105.results.toList=[]:=by kernel_rfl
theorem f105_nt:Tryz.f105.ntmps=4:=by kernel_rfl
theorem f105_nm : (Tryz.f105.name == "runtime.NumGoroutine") = false := by kernel_rfl
def f106_r0:List LOp:=[
 ⟨some 2,.assign (.const (.bool false)),none⟩]
def f106_r1:List LOp:=[
 ⟨some 3,.assign (.const (.bool false)),none⟩]
def f106_r2:List LOp:=[
 ⟨some 8,.load 23 (.tmp 0),none⟩,
 ⟨some 9,.call ⟨.builtin .len,#[.tmp 8],#[23]⟩,none⟩,
 ⟨some 10,.move (.const (.int .i64 0)),none⟩]
def f106_r3:List LOp:=[
 ⟨some 11,.binOp .lss 3 (.tmp 10) (.tmp 9) 3,none⟩]
def f106_r4:List LOp:=[
 ⟨some 12,.move (.tmp 10),none⟩,
 ⟨some 13,.indexAddr 23 (.tmp 8) (.tmp 10),none⟩,
 ⟨some 14,.load 43 (.tmp 13),none⟩,
 ⟨some 5,.alloc 43,none⟩,
 ⟨some 4,.assign (.tmp 12),none⟩,
 ⟨none,.store 43 (.tmp 5) (.tmp 14),none⟩]
def f106_r5:List LOp:=[
 ⟨some 15,.load 96 (.tmp 1),none⟩,
 ⟨some 16,.fieldAddr 43 (.tmp 5) 1,none⟩,
 ⟨some 17,.load 28 (.tmp 16),none⟩,
 ⟨some 18,.call ⟨.value (.func 56),#[.tmp 15,.tmp 17],#[96,28]⟩,none⟩,
 ⟨some 19,.load 96 (.tmp 1),none⟩,
 ⟨some 20,.fieldAddr 43 (.tmp 5) 1,none⟩,
 ⟨some 21,.load 28 (.tmp 20),none⟩,
 ⟨some 22,.call ⟨.value (.func 58),#[.tmp 19,.tmp 21],#[96,28]⟩,none⟩,
 ⟨some 6,.assign (.tmp 18),none⟩,
 ⟨some 7,.assign (.tmp 22),none⟩]
def f106_r6:List LOp:=[
 ⟨some 23,.move (.tmp 3),none⟩,
 ⟨some 24,.move (.tmp 23),none⟩,
 ⟨some 25,.move (.tmp 6),some (1,false)⟩,
 ⟨some 26,.load 96 (.tmp 1),some (1,false)⟩,
 ⟨some 27,.nilCheck (.tmp 26),some (1,false)⟩,
 ⟨some 28,.fieldAddr 86 (.tmp 27) 0,some (1,false)⟩,
 ⟨some 29,.load 83 (.tmp 28),some (1,false)⟩,
 ⟨some 30,.move (.tmp 4),some (1,false)⟩,
 ⟨some 31,.indexAddr 83 (.tmp 29) (.tmp 30),some (1,false)⟩,
 ⟨some 32,.load 4 (.tmp 31),some (1,false)⟩,
 ⟨some 33,.binOp .neq 4 (.tmp 25) (.tmp 32) 4,some (1,false)⟩,
 ⟨some 34,.pick (.tmp 24) (.const (.bool true)) (.tmp 33),none⟩,
 ⟨some 35,.move (.tmp 34),none⟩,
 ⟨some 36,.move (.tmp 7),some (12,false)⟩,
 ⟨some 37,.load 96 (.tmp 1),some (12,false)⟩,
 ⟨some 38,.nilCheck (.tmp 37),some (12,false)⟩,
 ⟨some 39,.fieldAddr 86 (.tmp 38) 1,some (12,false)⟩,
 ⟨some 40,.load 83 (.tmp 39),some (12,false)⟩,
 ⟨some 41,.move (.tmp 4),some (12,false)⟩,
 ⟨some 42,.indexAddr 83 (.tmp 40) (.tmp 41),some (12,false)⟩,
 ⟨some 43,.load 4 (.tmp 42),some (12,false)⟩,
 ⟨some 44,.binOp .neq 4 (.tmp 36) (.tmp 43) 4,some (12,false)⟩,
 ⟨some 45,.pick (.tmp 35) (.const (.bool true)) (.tmp 44),none⟩,
 ⟨some 3,.assign (.tmp 45),none⟩]
def f106_r7:List LOp:=[
 ⟨some 46,.load 96 (.tmp 1),none⟩,
 ⟨some 47,.nilCheck (.tmp 46),none⟩,
 ⟨some 48,.fieldAddr 86 (.tmp 47) 0,none⟩,
 ⟨some 49,.load 83 (.tmp 48),none⟩,
 ⟨some 50,.move (.tmp 4),none⟩,
 ⟨some 51,.load 96 (.tmp 1),none⟩,
 ⟨some 52,.nilCheck (.tmp 51),none⟩,
 ⟨some 53,.fieldAddr 86 (.tmp 52) 1,none⟩,
 ⟨some 54,.load 83 (.tmp 53),none⟩,
 ⟨some 55,.move (.tmp 4),none⟩,
 ⟨some 56,.move (.tmp 6),none⟩,
 ⟨some 57,.move (.tmp 7),none⟩,
 ⟨some 58,.indexAddr 83 (.tmp 49) (.tmp 50),none⟩,
 ⟨none,.store 4 (.tmp 58) (.tmp 56),none⟩,
 ⟨some 59,.indexAddr 83 (.tmp 54) (.tmp 55),none⟩,
 ⟨none,.store 4 (.tmp 59) (.tmp 57),none⟩]
def f106_r8:List LOp:=[
 ⟨some 60,.binOp .add 3 (.tmp 10) (.const (.int .i64 1)) 3,none⟩,
 ⟨some 10,.move (.tmp 60),none⟩]
def f106_l9:LC:=(.seq (.reg f106_r3 [] none) (.seq (.cond (.tmp 11) .skip (.exit 0)) (.seq (.block 1 (.seq (.reg f106_r4 [] none) (.seq (.regp f106_r5 [] [] 7) (.seq (.reg f106_r6 [] none) (.regp f106_r7 [] [4,9,10,11] 12))))) (.reg f106_r8 [] none))))
def f106_i9 (t1 t3 t8 t9 t10:D):List D:=[.any,t1,.any,t3,.any,.any,.any,.any,t8,t9,t10,.any,.any,.any,.any,.any,.any,.any,.any,.any,.any,.any,.any,.any,.any,.any,.any,.any,.any,.any,.any,.any,.any,.any,.any,.any,.any,.any,.any,.any,.any,.any,.any,.any,.any,.any,.any,.any,.any,.any,.any,.any,.any,.any,.any,.any,.any,.any,.any,.any,.any,.any]
def f106_r10:List LOp:=[
 ⟨some 61,.move (.tmp 3),none⟩,
 ⟨some 2,.assign (.tmp 61),none⟩]
def f106_c:LC:=(.seq (.reg f106_r0 [] none) (.seq (.reg f106_r1 [] none) (.seq (.seq (.reg f106_r2 [] none) (.block 0 (.loop f106_l9))) (.seq (.reg f106_r10 [] none) .ret))))
theorem f106_lc:Tryz.f106.body.map lc=some f106_c.st:=by kernel_rfl
theorem f106_res:Tryz.f106.results.toList=[.tmp 2]:=by kernel_rfl
theorem f106_nt:Tryz.f106.ntmps=62:=by kernel_rfl
theorem f106_nm : (Tryz.f106.name == "runtime.NumGoroutine") = false := by kernel_rfl
def f107_r0:List LOp:=[
 ⟨some 3,.assign (.const (.bool false)),none⟩]
def f107_r1:List LOp:=[
 ⟨some 4,.assign (.const (.bool false)),none⟩]
def f107_r2:List LOp:=[
 ⟨some 7,.load 23 (.tmp 0),none⟩,
 ⟨some 8,.call ⟨.builtin .len,#[.tmp 7],#[23]⟩,none⟩,
 ⟨some 9,.move (.const (.int .i64 0)),none⟩]
def f107_r3:List LOp:=[
 ⟨some 10,.binOp .lss 3 (.tmp 9) (.tmp 8) 3,none⟩]
def f107_r4:List LOp:=[
 ⟨some 11,.move (.tmp 9),none⟩,
 ⟨some 12,.indexAddr 23 (.tmp 7) (.tmp 9),none⟩,
 ⟨some 13,.load 43 (.tmp 12),none⟩,
 ⟨some 6,.alloc 43,none⟩,
 ⟨some 5,.assign (.tmp 11),none⟩,
 ⟨none,.store 43 (.tmp 6) (.tmp 13),none⟩]
def f107_r5:List LOp:=[
 ⟨some 14,.load 96 (.tmp 1),none⟩,
 ⟨some 15,.nilCheck (.tmp 14),none⟩,
 ⟨some 16,.fieldAddr 86 (.tmp 15) 2,none⟩,
 ⟨some 17,.load 84 (.tmp 16),none⟩,
 ⟨some 18,.move (.tmp 5),none⟩,
 ⟨some 19,.indexAddr 84 (.tmp 17) (.tmp 18),none⟩,
 ⟨some 20,.load 99 (.tmp 19),none⟩,
 ⟨some 21,.load 96 (.tmp 1),none⟩,
 ⟨some 22,.fieldAddr 43 (.tmp 6) 1,none⟩,
 ⟨some 23,.load 28 (.tmp 22),none⟩,
 ⟨some 24,.load 3 (.tmp 2),none⟩,
 ⟨some 25,.call ⟨.value (.func 50),#[.tmp 21,.tmp 23,.tmp 24],#[96,28,3]⟩,none⟩,
 ⟨some 26,.call ⟨.value (.func 81),#[.tmp 20,.tmp 25],#[99,99]⟩,none⟩,
 ⟨some 27,.move (.tmp 26),none⟩,
 ⟨some 28,.move (.tmp 4),some (13,false)⟩,
 ⟨some 29,.pick (.tmp 27) (.const (.bool true)) (.tmp 28),none⟩,
 ⟨some 4,.assign (.tmp 29),none⟩]
def f107_r6:List LOp:=[
 ⟨some 30,.binOp .add 3 (.tmp 9) (.const (.int .i64 1)) 3,none⟩,
 ⟨some 9,.move (.tmp 30),none⟩]
def f107_l7:LC:=(.seq (.reg f107_r3 [] none) (.seq (.cond (.tmp 10) .skip (.exit 0)) (.seq (.block 1 (.seq (.reg f107_r4 [] none) (.reg f107_r5 [] (some 12)))) (.reg f107_r6 [] none))))
def f107_i7 (t1 t2 t4 t7 t8 t9:D):List D:=[.any,t1,t2,.any,t4,.any,.any,t7,t8,t9,.any,.any,.any,.any,.any,.any,.any,.any,.any,.any,.any,.any,.any,.any,.any,.any,.any,.any,.any,.any,.any,.any]
def f107_r8:List LOp:=[
 ⟨some 31,.move (.tmp 4),none⟩,
 ⟨some 3,.assign (.tmp 31),none⟩]
def f107_c:LC:=(.seq (.reg f107_r0 [] none) (.seq (.reg f107_r1 [] none) (.seq (.seq (.reg f107_r2 [] none) (.block 0 (.loop f107_l7))) (.seq (.reg f107_r8 [] none) .ret))))
theorem f107_lc:Tryz.f107.body.map lc=some f107_c.st:=by kernel_rfl
theorem f107_res:Tryz.f107.results.toList=[.tmp 3]:=by kernel_rfl
theorem f107_nt:Tryz.f107.ntmps=32:=by kernel_rfl
theorem f107_nm : (Tryz.f107.name == "runtime.NumGoroutine") = false := by kernel_rfl
def f108_r0:List LOp:=[
 ⟨some 3,.assign (.const (.bool false)),none⟩]
def f108_r1:List LOp:=[
 ⟨some 4,.assign (.const (.bool false)),none⟩]
def f108_r2:List LOp:=[
 ⟨some 7,.load 23 (.tmp 0),none⟩,
 ⟨some 8,.call ⟨.builtin .len,#[.tmp 7],#[23]⟩,none⟩,
 ⟨some 9,.move (.const (.int .i64 0)),none⟩]
def f108_r3:List LOp:=[
 ⟨some 10,.binOp .lss 3 (.tmp 9) (.tmp 8) 3,none⟩]
def f108_r4:List LOp:=[
 ⟨some 11,.move (.tmp 9),none⟩,
 ⟨some 12,.indexAddr 23 (.tmp 7) (.tmp 9),none⟩,
 ⟨some 13,.load 43 (.tmp 12),none⟩,
 ⟨some 6,.alloc 43,none⟩,
 ⟨some 5,.assign (.tmp 11),none⟩,
 ⟨none,.store 43 (.tmp 6) (.tmp 13),none⟩]
def f108_r5:List LOp:=[
 ⟨some 14,.load 96 (.tmp 1),none⟩,
 ⟨some 15,.nilCheck (.tmp 14),none⟩,
 ⟨some 16,.fieldAddr 86 (.tmp 15) 3,none⟩,
 ⟨some 17,.load 84 (.tmp 16),none⟩,
 ⟨some 18,.move (.tmp 5),none⟩,
 ⟨some 19,.indexAddr 84 (.tmp 17) (.tmp 18),none⟩,
 ⟨some 20,.load 99 (.tmp 19),none⟩,
 ⟨some 21,.load 96 (.tmp 1),none⟩,
 ⟨some 22,.fieldAddr 43 (.tmp 6) 1,none⟩,
 ⟨some 23,.load 28 (.tmp 22),none⟩,
 ⟨some 24,.load 3 (.tmp 2),none⟩,
 ⟨some 25,.call ⟨.value (.func 51),#[.tmp 21,.tmp 23,.tmp 24],#[96,28,3]⟩,none⟩,
 ⟨some 26,.call ⟨.value (.func 81),#[.tmp 20,.tmp 25],#[99,99]⟩,none⟩,
 ⟨some 27,.move (.tmp 26),none⟩,
 ⟨some 28,.move (.tmp 4),some (13,false)⟩,
 ⟨some 29,.pick (.tmp 27) (.const (.bool true)) (.tmp 28),none⟩,
 ⟨some 4,.assign (.tmp 29),none⟩]
def f108_r6:List LOp:=[
 ⟨some 30,.binOp .add 3 (.tmp 9) (.const (.int .i64 1)) 3,none⟩,
 ⟨some 9,.move (.tmp 30),none⟩]
def f108_l7:LC:=(.seq (.reg f108_r3 [] none) (.seq (.cond (.tmp 10) .skip (.exit 0)) (.seq (.block 1 (.seq (.reg f108_r4 [] none) (.reg f108_r5 [] (some 12)))) (.reg f108_r6 [] none))))
def f108_i7 (t1 t2 t4 t7 t8 t9:D):List D:=[.any,t1,t2,.any,t4,.any,.any,t7,t8,t9,.any,.any,.any,.any,.any,.any,.any,.any,.any,.any,.any,.any,.any,.any,.any,.any,.any,.any,.any,.any,.any,.any]
def f108_r8:List LOp:=[
 ⟨some 31,.move (.tmp 4),none⟩,
 ⟨some 3,.assign (.tmp 31),none⟩]
def f108_c:LC:=(.seq (.reg f108_r0 [] none) (.seq (.reg f108_r1 [] none) (.seq (.seq (.reg f108_r2 [] none) (.block 0 (.loop f108_l7))) (.seq (.reg f108_r8 [] none) .ret))))
theorem f108_lc:Tryz.f108.body.map lc=some f108_c.st:=by kernel_rfl
theorem f108_res:Tryz.f108.results.toList=[.tmp 3]:=by kernel_rfl
theorem f108_nt:Tryz.f108.ntmps=32:=by kernel_rfl
theorem f108_nm : (Tryz.f108.name == "runtime.NumGoroutine") = false := by kernel_rfl
def f111_r0:List LOp:=[
 ⟨some 2,.box 28 (.tmp 0),none⟩,
 ⟨some 3,.assign (.const (.bool false)),none⟩]
def f111_r1:List LOp:=[
 ⟨some 4,.load 25 (.tmp 1),none⟩,
 ⟨some 5,.load 28 (.tmp 2),none⟩,
 ⟨some 6,.call ⟨.value (.func 87),#[.tmp 4,.tmp 5],#[25,28]⟩,none⟩,
 ⟨some 7,.unOp .not 4 (.tmp 6),none⟩,
 ⟨some 3,.assign (.tmp 7),none⟩]
def f111_c:LC:=(.seq (.reg f111_r0 [] none) (.seq (.reg f111_r1 [] none) .ret))
theorem f111_lc:Tryz.f111.body.map lc=some f111_c.st:=by kernel_rfl
theorem f111_res:Tryz.f111.results.toList=[.tmp 3]:=by kernel_rfl
theorem f111_nt:Tryz.f111.ntmps=8:=by kernel_rfl
theorem f111_nm : (Tryz.f111.name == "runtime.NumGoroutine") = false := by kernel_rfl
def f112_r0:List LOp:=[
 ⟨some 2,.assign (.const (.slice none 0 0)),none⟩]
def f112_r1:List LOp:=[
 ⟨some 3,.move (.tmp 0),none⟩,
 ⟨some 4,.call ⟨.value (.func 131),#[.const (.slice none 0 0),.tmp 3],#[22,137]⟩,none⟩,
 ⟨some 2,.assign (.tmp 4),none⟩]
def f112_c:LC:=(.seq (.reg f112_r0 [] none) (.seq (.reg f112_r1 [] none) .ret))
theorem f112_lc:Tryz.f112.body.map lc=some f112_c.st:=by kernel_rfl
theorem f112_res:Tryz.f112.results.toList=[.tmp 2]:=by kernel_rfl
theorem f112_nt:Tryz.f112.ntmps=5:=by kernel_rfl
theorem f112_nm : (Tryz.f112.name == "runtime.NumGoroutine") = false := by kernel_rfl
def f114_r0:List LOp:=[
 ⟨some 5,.load 22 (.tmp 1),none⟩,
 ⟨some 6,.call ⟨.builtin .len,#[.tmp 5],#[22]⟩,none⟩,
 ⟨some 7,.move (.const (.int .i64 0)),none⟩]
def f114_r1:List LOp:=[
 ⟨some 8,.binOp .lss 3 (.tmp 7) (.tmp 6) 3,none⟩]
def f114_r2:List LOp:=[
 ⟨some 9,.indexAddr 22 (.tmp 5) (.tmp 7),none⟩,
 ⟨some 10,.load 9 (.tmp 9),none⟩,
 ⟨some 4,.assign (.tmp 10),none⟩]
def f114_r3:List LOp:=[
 ⟨some 11,.move (.tmp 0),none⟩,
 ⟨some 12,.move (.tmp 4),none⟩,
 ⟨some 13,.call ⟨.value (.tmp 11),#[.tmp 12],#[9]⟩,none⟩,
 ⟨some 14,.unOp .not 4 (.tmp 13),none⟩]
def f114_r4:List LOp:=[
 ⟨some 15,.binOp .add 3 (.tmp 7) (.const (.int .i64 1)) 3,none⟩,
 ⟨some 7,.move (.tmp 15),none⟩]
def f114_l5:LC:=(.seq (.reg f114_r1 [] none) (.seq (.cond (.tmp 8) .skip (.exit 0)) (.seq (.block 1 (.seq (.reg f114_r2 [] none) (.seq (.reg f114_r3 [] none) (.cond (.tmp 14) .ret .skip)))) (.reg f114_r4 [] none))))
def f114_i5 (t0 t5 t6 t7:D):List D:=[t0,.any,.any,.any,.any,t5,t6,t7,.any,.any,.any,.any,.any,.any,.any,.any]
def f114_c:LC:=(.seq (.reg f114_r0 [] none) (.block 0 (.loop f114_l5)))
theorem f114_lc:Tryz.f114.body.map lc=some f114_c.st:=by kernel_rfl
theorem f114_res:Tryz.f114.results.toList=[]:=by kernel_rfl
theorem f114_nt:Tryz.f114.ntmps=16:=by kernel_rfl
theorem f114_nm : (Tryz.f114.name == "runtime.NumGoroutine") = false := by kernel_rfl
def f115_r0:List LOp:=[
 ⟨some 4,.assign (.const (.bool false)),none⟩]
def f115_r1:List LOp:=[
 ⟨some 5,.move (.tmp 0),none⟩,
 ⟨some 6,.move (.tmp 1),none⟩,
 ⟨some 7,.call ⟨.value (.func 134),#[.tmp 5,.tmp 6],#[22,113]⟩,none⟩,
 ⟨some 8,.binOp .geq 3 (.tmp 7) (.const (.int .i64 0)) 3,none⟩,
 ⟨some 4,.assign (.tmp 8),none⟩]
def f115_c:LC:=(.seq (.reg f115_r0 [] none) (.seq (.reg f115_r1 [] none) .ret))
theorem f115_lc:Tryz.f115.body.map lc=some f115_c.st:=by kernel_rfl
theorem f115_res:Tryz.f115.results.toList=[.tmp 4]:=by kernel_rfl
theorem f115_nt:Tryz.f115.ntmps=9:=by kernel_rfl
theorem f115_nm : (Tryz.f115.name == "runtime.NumGoroutine") = false := by kernel_rfl
def f116_r0:List LOp:=[
 ⟨some 2,.assign (.const (.bool false)),none⟩]
def f116_r1:List LOp:=[
 ⟨some 3,.move (.tmp 0),none⟩,
 ⟨some 4,.call ⟨.value (.func 117),#[.tmp 3],#[9]⟩,none⟩,
 ⟨some 5,.unOp .not 4 (.tmp 4),none⟩,
 ⟨some 2,.assign (.tmp 5),none⟩]
def f116_c:LC:=(.seq (.reg f116_r0 [] none) (.seq (.reg f116_r1 [] none) .ret))
theorem f116_lc:Tryz.f116.body.map lc=some f116_c.st:=by kernel_rfl
theorem f116_res:Tryz.f116.results.toList=[.tmp 2]:=by kernel_rfl
theorem f116_nt:Tryz.f116.ntmps=6:=by kernel_rfl
theorem f116_nm : (Tryz.f116.name == "runtime.NumGoroutine") = false := by kernel_rfl
def f117_r0:List LOp:=[
 ⟨some 2,.assign (.const (.bool false)),none⟩]
def f117_r1:List LOp:=[
 ⟨some 6,.move (.tmp 0),none⟩,
 ⟨some 7,.range 9 (.tmp 6),none⟩]
def f117_r2:List LOp:=[
 ⟨some 8,.next (.tmp 7) true,none⟩,
 ⟨some 9,.extract (.tmp 8) 0,none⟩]
def f117_r3:List LOp:=[
 ⟨some 10,.extract (.tmp 8) 1,none⟩,
 ⟨some 11,.extract (.tmp 8) 2,none⟩,
 ⟨some 3,.assign (.tmp 10),none⟩,
 ⟨some 4,.assign (.tmp 11),none⟩]
def f117_r4:List LOp:=[
 ⟨some 12,.move (.tmp 4),none⟩,
 ⟨some 13,.binOp .geq 21 (.tmp 12) (.const (.int .i32 97)) 21,none⟩,
 ⟨some 14,.move (.tmp 13),none⟩,
 ⟨some 15,.move (.tmp 4),some (2,true)⟩,
 ⟨some 16,.binOp .leq 21 (.tmp 15) (.const (.int .i32 122)) 21,some (2,true)⟩,
 ⟨some 17,.pick (.tmp 14) (.tmp 16) (.const (.bool false)),none⟩,
 ⟨some 5,.assign (.tmp 17),none⟩]
def f117_r5:List LOp:=[
 ⟨some 18,.move (.tmp 5),none⟩,
 ⟨some 19,.unOp .not 4 (.tmp 18),none⟩,
 ⟨some 20,.move (.tmp 19),none⟩,
 ⟨some 21,.move (.tmp 3),some (2,true)⟩,
 ⟨some 22,.binOp .eql 3 (.tmp 21) (.const (.int .i64 0)) 3,some (2,true)⟩,
 ⟨some 23,.move (.tmp 22),some (2,true)⟩,
 ⟨some 24,.move (.tmp 4),some (5,false)⟩,
 ⟨some 25,.binOp .neq 21 (.tmp 24) (.const (.int .i32 95)) 21,some (5,false)⟩,
 ⟨some 26,.move (.tmp 25),some (5,false)⟩,
 ⟨some 27,.move (.tmp 4),some (8,true)⟩,
 ⟨some 28,.binOp .lss 21 (.tmp 27) (.const (.int .i32 48)) 21,some (8,true)⟩,
 ⟨some 29,.move (.tmp 28),some (8,true)⟩,
 ⟨some 30,.move (.tmp 4),some (11,false)⟩,
 ⟨some 31,.binOp .gtr 21 (.tmp 30) (.const (.int .i32 57)) 21,some (11,false)⟩,
 ⟨some 32,.pick (.tmp 29) (.const (.bool true)) (.tmp 31),some (8,true)⟩,
 ⟨some 33,.pick (.tmp 26) (.tmp 32) (.const (.bool false)),some (5,false)⟩,
 ⟨some 34,.pick (.tmp 23) (.const (.bool true)) (.tmp 33),some (2,true)⟩,
 ⟨some 35,.pick (.tmp 20) (.tmp 34) (.const (.bool false)),none⟩]
def f117_r6:List LOp:=[
 ⟨some 2,.assign (.const (.bool false)),none⟩]
def f117_l7:LC:=(.seq (.reg f117_r2 [] none) (.seq (.cond (.tmp 9) .skip (.exit 0)) (.block 1 (.seq (.reg f117_r3 [] none) (.seq (.reg f117_r4 [] none) (.seq (.reg f117_r5 [] none) (.cond (.tmp 35) (.seq (.reg f117_r6 [] none) .ret) .skip)))))))
def f117_i7 (t0 t7:D):List D:=[t0,.any,.any,.any,.any,.any,.any,t7,.any,.any,.any,.any,.any,.any,.any,.any,.any,.any,.any,.any,.any,.any,.any,.any,.any,.any,.any,.any,.any,.any,.any,.any,.any,.any,.any,.any,.any,.any,.any,.any,.any,.any,.any,.any]
def f117_r8:List LOp:=[
 ⟨some 36,.move (.tmp 0),none⟩,
 ⟨some 37,.call ⟨.builtin .len,#[.tmp 36],#[9]⟩,none⟩,
 ⟨some 38,.binOp .geq 3 (.tmp 37) (.const (.int .i64 1)) 3,none⟩,
 ⟨some 39,.move (.tmp 38),none⟩,
 ⟨some 40,.move (.tmp 0),some (3,true)⟩,
 ⟨some 41,.call ⟨.builtin .len,#[.tmp 40],#[9]⟩,some (3,true)⟩,
 ⟨some 42,.binOp .leq 3 (.tmp 41) (.const (.int .i64 30)) 3,some (3,true)⟩,
 ⟨some 43,.pick (.tmp 39) (.tmp 42) (.const (.bool false)),none⟩,
 ⟨some 2,.assign (.tmp 43),none⟩]
def f117_c:LC:=(.seq (.reg f117_r0 [] none) (.seq (.seq (.reg f117_r1 [] none) (.block 0 (.loop f117_l7))) (.seq (.reg f117_r8 [] none) .ret)))
theorem f117_lc:Tryz.f117.body.map lc=some f117_c.st:=by kernel_rfl
theorem f117_res:Tryz.f117.results.toList=[.tmp 2]:=by kernel_rfl
theorem f117_nt:Tryz.f117.ntmps=44:=by kernel_rfl
theorem f117_nm : (Tryz.f117.name == "runtime.NumGoroutine") = false := by kernel_rfl
def f118_r0:List LOp:=[
 ⟨some 5,.load 9 (.tmp 1),none⟩,
 ⟨some 6,.call ⟨.builtin .len,#[.tmp 5],#[9]⟩,none⟩,
 ⟨some 7,.binOp .gtr 3 (.tmp 6) (.const (.int .i64 0)) 3,none⟩]
def f118_r1:List LOp:=[
 ⟨some 3,.assign (.const (.string { data:=#[] })),none⟩]
def f118_r2:List LOp:=[
 ⟨some 8,.load 9 (.tmp 1),none⟩,
 ⟨some 9,.call ⟨.value (.func 119),#[.tmp 8,.const (.int .u8 10)],#[9,5]⟩,none⟩,
 ⟨some 4,.assign (.tmp 9),none⟩]
def f118_r3:List LOp:=[
 ⟨some 10,.move (.tmp 4),none⟩,
 ⟨some 11,.binOp .geq 3 (.tmp 10) (.const (.int .i64 0)) 3,none⟩]
def f118_r4:List LOp:=[
 ⟨some 12,.load 9 (.tmp 1),none⟩,
 ⟨some 13,.move (.tmp 4),none⟩,
 ⟨some 14,.binOp .add 3 (.tmp 13) (.const (.int .i64 1)) 3,none⟩,
 ⟨some 15,.slice 9 (.tmp 12) none (some (.tmp 14)) none,none⟩,
 ⟨some 16,.load 9 (.tmp 1),none⟩,
 ⟨some 17,.move (.tmp 4),none⟩,
 ⟨some 18,.binOp .add 3 (.tmp 17) (.const (.int .i64 1)) 3,none⟩,
 ⟨some 19,.slice 9 (.tmp 16) (some (.tmp 18)) none none,none⟩,
 ⟨some 3,.assign (.tmp 15),none⟩,
 ⟨none,.store 9 (.tmp 1) (.tmp 19),none⟩]
def f118_r5:List LOp:=[
 ⟨some 20,.load 9 (.tmp 1),none⟩,
 ⟨some 3,.assign (.tmp 20),none⟩,
 ⟨none,.store 9 (.tmp 1) (.const (.string { data:=#[] })),none⟩]
def f118_r6:List LOp:=[
 ⟨some 21,.move (.tmp 0),none⟩,
 ⟨some 22,.move (.tmp 3),none⟩,
 ⟨some 23,.call ⟨.value (.tmp 21),#[.tmp 22],#[9]⟩,none⟩,
 ⟨some 24,.unOp .not 4 (.tmp 23),none⟩]
def f118_l7:LC:=(.seq (.seq (.reg f118_r0 [] none) (.cond (.tmp 7) .skip (.exit 0))) (.block 1 (.seq (.reg f118_r1 [] none) (.seq (.seq (.reg f118_r2 [] none) (.seq (.reg f118_r3 [] none) (.cond (.tmp 11) (.regp f118_r4 [] [1,2,5,6] 9) (.reg f118_r5 [] none)))) (.seq (.reg f118_r6 [] none) (.cond (.tmp 24) .ret .skip))))))
def f118_i7 (t0 t1:D):List D:=[t0,t1,.any,.any,.any,.any,.any,.any,.any,.any,.any,.any,.any,.any,.any,.any,.any,.any,.any,.any,.any,.any,.any,.any,.any]
def f118_c:LC:=(.block 0 (.loop f118_l7))
theorem f118_lc:Tryz.f118.body.map lc=some f118_c.st:=by kernel_rfl
theorem f118_res:Tryz.f118.results.toList=[]:=by kernel_rfl
theorem f118_nt:Tryz.f118.ntmps=25:=by kernel_rfl
theorem f118_nm : (Tryz.f118.name == "runtime.NumGoroutine") = false := by kernel_rfl
def f119_r0:List LOp:=[
 ⟨some 4,.assign (.const (.int .i64 0)),none⟩]
def f119_r1:List LOp:=[
 ⟨some 5,.move (.tmp 0),none⟩,
 ⟨some 6,.move (.tmp 1),none⟩,
 ⟨some 7,.call ⟨.value (.func 135),#[.tmp 5,.tmp 6],#[9,5]⟩,none⟩,
 ⟨some 4,.assign (.tmp 7),none⟩]
def f119_c:LC:=(.seq (.reg f119_r0 [] none) (.seq (.reg f119_r1 [] none) .ret))
theorem f119_lc:Tryz.f119.body.map lc=some f119_c.st:=by kernel_rfl
theorem f119_res:Tryz.f119.results.toList=[.tmp 4]:=by kernel_rfl
theorem f119_nt:Tryz.f119.ntmps=8:=by kernel_rfl
theorem f119_nm : (Tryz.f119.name == "runtime.NumGoroutine") = false := by kernel_rfl
def f120_r0:List LOp:=[
 ⟨some 4,.assign (.const (.string { data:=#[] })),none⟩,
 ⟨some 5,.assign (.const (.bool false)),none⟩]
def f120_r1:List LOp:=[
 ⟨some 6,.move (.tmp 0),none⟩,
 ⟨some 7,.move (.tmp 1),none⟩,
 ⟨some 8,.call ⟨.value (.func 136),#[.tmp 6,.tmp 7],#[9,9]⟩,none⟩,
 ⟨some 9,.unOp .not 4 (.tmp 8),none⟩]
def f120_r2:List LOp:=[
 ⟨some 10,.move (.tmp 0),none⟩,
 ⟨some 4,.assign (.tmp 10),none⟩,
 ⟨some 5,.assign (.const (.bool false)),none⟩]
def f120_r3:List LOp:=[
 ⟨some 11,.move (.tmp 0),none⟩,
 ⟨some 12,.move (.tmp 0),none⟩,
 ⟨some 13,.call ⟨.builtin .len,#[.tmp 12],#[9]⟩,none⟩,
 ⟨some 14,.move (.tmp 1),none⟩,
 ⟨some 15,.call ⟨.builtin .len,#[.tmp 14],#[9]⟩,none⟩,
 ⟨some 16,.binOp .sub 3 (.tmp 13) (.tmp 15) 3,none⟩,
 ⟨some 17,.slice 9 (.tmp 11) none (some (.tmp 16)) none,none⟩,
 ⟨some 4,.assign (.tmp 17),none⟩,
 ⟨some 5,.assign (.const (.bool true)),none⟩]
def f120_c:LC:=(.seq (.reg f120_r0 [] none) (.seq (.seq (.reg f120_r1 [] none) (.cond (.tmp 9) (.seq (.reg f120_r2 [] none) .ret) .skip)) (.seq (.reg f120_r3 [] none) .ret)))
theorem f120_lc:Tryz.f120.body.map lc=some f120_c.st:=by kernel_rfl
theorem f120_res:Tryz.f120.results.toList=[.tmp 4,.tmp 5]:=by kernel_rfl
theorem f120_nt:Tryz.f120.ntmps=18:=by kernel_rfl
theorem f120_nm : (Tryz.f120.name == "runtime.NumGoroutine") = false := by kernel_rfl
def f122_r0:List LOp:=[
 ⟨some 4,.assign (.const (.int .i64 0)),none⟩]
def f122_r1:List LOp:=[
 ⟨some 6,.move (.tmp 0),none⟩,
 ⟨some 7,.call ⟨.builtin .len,#[.tmp 6],#[22]⟩,none⟩,
 ⟨some 8,.move (.const (.int .i64 0)),none⟩]
def f122_r2:List LOp:=[
 ⟨some 9,.binOp .lss 3 (.tmp 8) (.tmp 7) 3,none⟩]
def f122_r3:List LOp:=[
 ⟨some 10,.move (.tmp 8),none⟩,
 ⟨some 5,.assign (.tmp 10),none⟩]
def f122_r4:List LOp:=[
 ⟨some 11,.move (.tmp 1),none⟩,
 ⟨some 12,.move (.tmp 0),none⟩,
 ⟨some 13,.move (.tmp 5),none⟩,
 ⟨some 14,.indexAddr 22 (.tmp 12) (.tmp 13),none⟩,
 ⟨some 15,.load 9 (.tmp 14),none⟩,
 ⟨some 16,.binOp .eql 9 (.tmp 11) (.tmp 15) 9,none⟩]
def f122_r5:List LOp:=[
 ⟨some 17,.move (.tmp 5),none⟩,
 ⟨some 4,.assign (.tmp 17),none⟩]
def f122_r6:List LOp:=[
 ⟨some 18,.binOp .add 3 (.tmp 8) (.const (.int .i64 1)) 3,none⟩,
 ⟨some 8,.move (.tmp 18),none⟩]
def f122_l7:LC:=(.seq (.reg f122_r2 [] none) (.seq (.cond (.tmp 9) .skip (.exit 0)) (.seq (.block 1 (.seq (.reg f122_r3 [] none) (.seq (.reg f122_r4 [] none) (.cond (.tmp 16) (.seq (.reg f122_r5 [] none) .ret) .skip)))) (.reg f122_r6 [] none))))
def f122_i7 (t0 t1 t7 t8:D):List D:=[t0,t1,.any,.any,.any,.any,.any,t7,t8,.any,.any,.any,.any,.any,.any,.any,.any,.any,.any]
def f122_r8:List LOp:=[
 ⟨some 4,.assign (.const (.int .i64 (-1))),none⟩]
def f122_c:LC:=(.seq (.reg f122_r0 [] none) (.seq (.seq (.reg f122_r1 [] none) (.block 0 (.loop f122_l7))) (.seq (.reg f122_r8 [] none) .ret)))
theorem f122_lc:Tryz.f122.body.map lc=some f122_c.st:=by kernel_rfl
theorem f122_res:Tryz.f122.results.toList=[.tmp 4]:=by kernel_rfl
theorem f122_nt:Tryz.f122.ntmps=19:=by kernel_rfl
theorem f122_nm : (Tryz.f122.name == "runtime.NumGoroutine") = false := by kernel_rfl
def f123_r0:List LOp:=[
 ⟨some 2,.alloc 28,none⟩]
def f123_r1:List LOp:=[
 ⟨some 4,.move (.tmp 0),none⟩,
 ⟨some 5,.call ⟨.value (.func 138),#[.tmp 4],#[122]⟩,none⟩,
 ⟨some 6,.buildSlice 26 1 #[(0,.tmp 5)],none⟩,
 ⟨some 3,.assign (.tmp 6),none⟩]
def f123_r2:List LOp:=[
 ⟨some 7,.move (.tmp 0),none⟩,
 ⟨some 8,.call ⟨.value (.func 124),#[.tmp 7,.const (.int .u8 91)],#[122,5]⟩,none⟩,
 ⟨some 9,.move (.tmp 8),none⟩,
 ⟨some 10,.move (.tmp 0),some (2,false)⟩,
 ⟨some 11,.call ⟨.value (.func 124),#[.tmp 10,.const (.int .u8 40)],#[122,5]⟩,some (2,false)⟩,
 ⟨some 12,.pick (.tmp 9) (.const (.bool true)) (.tmp 11),none⟩,
 ⟨some 13,.move (.tmp 12),none⟩,
 ⟨some 14,.move (.tmp 0),some (6,false)⟩,
 ⟨some 15,.call ⟨.value (.func 139),#[.tmp 14],#[122]⟩,some (6,false)⟩,
 ⟨some 16,.pick (.tmp 13) (.const (.bool true)) (.tmp 15),none⟩]
def f123_r3:List LOp:=[
 ⟨some 17,.move (.tmp 3),none⟩,
 ⟨some 18,.move (.tmp 0),none⟩,
 ⟨some 19,.call ⟨.value (.func 138),#[.tmp 18],#[122]⟩,none⟩,
 ⟨some 20,.buildSlice 26 1 #[(0,.tmp 19)],none⟩,
 ⟨some 21,.call ⟨.builtin .append,#[.tmp 17,.tmp 20],#[26,26]⟩,none⟩,
 ⟨some 3,.assign (.tmp 21),none⟩]
def f123_l4:LC:=(.seq (.seq (.reg f123_r2 [] none) (.cond (.tmp 16) .skip (.exit 0))) (.block 1 (.reg f123_r3 [] none)))
def f123_i4 (t0 t2 t3:D):List D:=[t0,.any,t2,t3,.any,.any,.any,.any,.any,.any,.any,.any,.any,.any,.any,.any,.any,.any,.any,.any,.any,.any,.any,.any]
def f123_r5:List LOp:=[
 ⟨some 22,.move (.tmp 3),none⟩,
 ⟨some 23,.call ⟨.value (.func 125),#[.const (.int .u8 4),.tmp 22],#[5,26]⟩,none⟩,
 ⟨none,.store 28 (.tmp 2) (.tmp 23),none⟩]
def f123_c:LC:=(.seq (.reg f123_r0 [] none) (.seq (.reg f123_r1 [2] none) (.seq (.block 0 (.loop f123_l4)) (.seq (.reg f123_r5 [] none) .ret))))
theorem f123_lc:Tryz.f123.body.map lc=some f123_c.st:=by kernel_rfl
theorem f123_res:Tryz.f123.results.toList=[.cell 2 28]:=by kernel_rfl
theorem f123_nt:Tryz.f123.ntmps=24:=by kernel_rfl
theorem f123_nm : (Tryz.f123.name == "runtime.NumGoroutine") = false := by kernel_rfl
def f124_r0:List LOp:=[
 ⟨some 4,.assign (.const (.bool false)),none⟩]
def f124_r1:List LOp:=[
 ⟨some 5,.move (.tmp 0),none⟩,
 ⟨some 6,.call ⟨.value (.func 99),#[.tmp 5],#[122]⟩,none⟩]
def f124_r2:List LOp:=[
 ⟨some 7,.move (.tmp 0),none⟩,
 ⟨some 8,.nilCheck (.tmp 7),none⟩,
 ⟨some 9,.fieldAddr 124 (.tmp 8) 1,none⟩,
 ⟨some 10,.load 3 (.tmp 9),none⟩,
 ⟨some 11,.move (.tmp 0),none⟩,
 ⟨some 12,.nilCheck (.tmp 11),none⟩,
 ⟨some 13,.fieldAddr 124 (.tmp 12) 0,none⟩,
 ⟨some 14,.load 9 (.tmp 13),none⟩,
 ⟨some 15,.call ⟨.builtin .len,#[.tmp 14],#[9]⟩,none⟩,
 ⟨some 16,.binOp .lss 3 (.tmp 10) (.tmp 15) 3,none⟩,
 ⟨some 17,.move (.tmp 16),none⟩,
 ⟨some 18,.move (.tmp 0),some (10,true)⟩,
 ⟨some 19,.nilCheck (.tmp 18),some (10,true)⟩,
 ⟨some 20,.fieldAddr 124 (.tmp 19) 0,some (10,true)⟩,
 ⟨some 21,.load 9 (.tmp 20),some (10,true)⟩,
 ⟨some 22,.move (.tmp 0),some (10,true)⟩,
 ⟨some 23,.nilCheck (.tmp 22),some (10,true)⟩,
 ⟨some 24,.fieldAddr 124 (.tmp 23) 1,some (10,true)⟩,
 ⟨some 25,.load 3 (.tmp 24),some (10,true)⟩,
 ⟨some 26,.index 9 (.tmp 21) (.tmp 25),some (10,true)⟩,
 ⟨some 27,.move (.tmp 1),some (10,true)⟩,
 ⟨some 28,.binOp .eql 5 (.tmp 26) (.tmp 27) 5,some (10,true)⟩,
 ⟨some 29,.pick (.tmp 17) (.tmp 28) (.const (.bool false)),none⟩,
 ⟨some 4,.assign (.tmp 29),none⟩]
def f124_c:LC:=(.seq (.reg f124_r0 [] none) (.seq (.reg f124_r1 [] none) (.seq (.reg f124_r2 [] (some 23)) .ret)))
theorem f124_lc:Tryz.f124.body.map lc=some f124_c.st:=by kernel_rfl
theorem f124_res:Tryz.f124.results.toList=[.tmp 4]:=by kernel_rfl
theorem f124_nt:Tryz.f124.ntmps=30:=by kernel_rfl
theorem f124_nm : (Tryz.f124.name == "runtime.NumGoroutine") = false := by kernel_rfl
def f125_r0:List LOp:=[
 ⟨some 2,.box 5 (.tmp 0),none⟩,
 ⟨some 4,.alloc 28,none⟩]
def f125_r1:List LOp:=[
 ⟨some 8,.move (.tmp 1),none⟩,
 ⟨some 9,.move (.tmp 1),none⟩,
 ⟨some 10,.call ⟨.builtin .len,#[.tmp 9],#[26]⟩,none⟩,
 ⟨some 11,.binOp .sub 3 (.tmp 10) (.const (.int .i64 1)) 3,none⟩,
 ⟨some 12,.indexAddr 26 (.tmp 8) (.tmp 11),none⟩,
 ⟨some 13,.load 28 (.tmp 12),none⟩,
 ⟨some 5,.alloc 28,none⟩,
 ⟨none,.store 28 (.tmp 5) (.tmp 13),none⟩]
def f125_r2:List LOp:=[
 ⟨some 14,.move (.tmp 1),none⟩,
 ⟨some 15,.move (.tmp 1),none⟩,
 ⟨some 16,.call ⟨.builtin .len,#[.tmp 15],#[26]⟩,none⟩,
 ⟨some 17,.binOp .sub 3 (.tmp 16) (.const (.int .i64 1)) 3,none⟩,
 ⟨some 18,.slice 26 (.tmp 14) none (some (.tmp 17)) none,none⟩,
 ⟨some 19,.call ⟨.value (.func 140),#[.tmp 18],#[26]⟩,none⟩]
def f125_r3:List LOp:=[
 ⟨some 7,.alloc 28,none⟩,
 ⟨none,.store 28 (.tmp 7) (.tmp 21),none⟩]
def f125_r4:List LOp:=[
 ⟨some 22,.load 5 (.tmp 2),none⟩,
 ⟨some 23,.load 28 (.tmp 7),none⟩,
 ⟨some 24,.load 28 (.tmp 5),none⟩,
 ⟨some 25,.buildSlice 26 2 #[(0,.tmp 23),(1,.tmp 24)],none⟩,
 ⟨some 26,.build 28 #[(0,.tmp 22),(2,.tmp 25)],none⟩,
 ⟨none,.store 28 (.tmp 5) (.tmp 26),none⟩]
def f125_a5:LC:=(.reg f125_r3 [] none)
def f125_b5:LC:=(.block 1 (.reg f125_r4 [] none))
def f125_r6:List LOp:=[
 ⟨some 27,.load 28 (.tmp 5),none⟩,
 ⟨none,.store 28 (.tmp 4) (.tmp 27),none⟩]
def f125_c:LC:=(.seq (.reg f125_r0 [] none) (.seq (.reg f125_r1 [] none) (.seq (.seq (.reg f125_r2 [] none) (.block 0 (.rfun (.tmp 19) [20,21] f125_a5 f125_b5))) (.seq (.reg f125_r6 [] none) .ret))))
theorem f125_lc:Tryz.f125.body.map lc=some f125_c.st:=by kernel_rfl
theorem f125_res:Tryz.f125.results.toList=[.cell 4 28]:=by kernel_rfl
theorem f125_nt:Tryz.f125.ntmps=28:=by kernel_rfl
theorem f125_nm : (Tryz.f125.name == "runtime.NumGoroutine") = false := by kernel_rfl
def f131_r0:List LOp:=[
 ⟨some 2,.box 22 (.tmp 0),none⟩,
 ⟨some 4,.assign (.const (.slice none 0 0)),none⟩]
def f131_r1:List LOp:=[
 ⟨some 6,.move (.tmp 1),none⟩]
def f131_r2:List LOp:=[
 ⟨some 5,.assign (.tmp 7),none⟩]
def f131_r3:List LOp:=[
 ⟨some 8,.load 22 (.tmp 2),none⟩,
 ⟨some 9,.move (.tmp 5),none⟩,
 ⟨some 10,.buildSlice 22 1 #[(0,.tmp 9)],none⟩,
 ⟨some 11,.call ⟨.builtin .append,#[.tmp 8,.tmp 10],#[22,22]⟩,none⟩,
 ⟨none,.store 22 (.tmp 2) (.tmp 11),none⟩]
def f131_a4:LC:=(.reg f131_r2 [] none)
def f131_b4:LC:=(.block 1 (.reg f131_r3 [] none))
def f131_r5:List LOp:=[
 ⟨some 12,.load 22 (.tmp 2),none⟩,
 ⟨some 4,.assign (.tmp 12),none⟩]
def f131_c:LC:=(.seq (.reg f131_r0 [0] none) (.seq (.seq (.reg f131_r1 [] none) (.block 0 (.rfun (.tmp 6) [7] f131_a4 f131_b4))) (.seq (.reg f131_r5 [] none) .ret)))
theorem f131_lc:Tryz.f131.body.map lc=some f131_c.st:=by kernel_rfl
theorem f131_res:Tryz.f131.results.toList=[.tmp 4]:=by kernel_rfl
theorem f131_nt:Tryz.f131.ntmps=13:=by kernel_rfl
theorem f131_nm : (Tryz.f131.name == "runtime.NumGoroutine") = false := by kernel_rfl
def f134_r0:List LOp:=[
 ⟨some 4,.assign (.const (.int .i64 0)),none⟩]
def f134_r1:List LOp:=[
 ⟨some 6,.move (.tmp 0),none⟩,
 ⟨some 7,.call ⟨.builtin .len,#[.tmp 6],#[22]⟩,none⟩,
 ⟨some 8,.move (.const (.int .i64 0)),none⟩]
def f134_r2:List LOp:=[
 ⟨some 9,.binOp .lss 3 (.tmp 8) (.tmp 7) 3,none⟩]
def f134_r3:List LOp:=[
 ⟨some 10,.move (.tmp 8),none⟩,
 ⟨some 5,.assign (.tmp 10),none⟩]
def f134_r4:List LOp:=[
 ⟨some 11,.move (.tmp 1),none⟩,
 ⟨some 12,.move (.tmp 0),none⟩,
 ⟨some 13,.move (.tmp 5),none⟩,
 ⟨some 14,.indexAddr 22 (.tmp 12) (.tmp 13),none⟩,
 ⟨some 15,.load 9 (.tmp 14),none⟩,
 ⟨some 16,.call ⟨.value (.tmp 11),#[.tmp 15],#[9]⟩,none⟩]
def f134_r5:List LOp:=[
 ⟨some 17,.move (.tmp 5),none⟩,
 ⟨some 4,.assign (.tmp 17),none⟩]
def f134_r6:List LOp:=[
 ⟨some 18,.binOp .add 3 (.tmp 8) (.const (.int .i64 1)) 3,none⟩,
 ⟨some 8,.move (.tmp 18),none⟩]
def f134_l7:LC:=(.seq (.reg f134_r2 [] none) (.seq (.cond (.tmp 9) .skip (.exit 0)) (.seq (.block 1 (.seq (.reg f134_r3 [] none) (.seq (.reg f134_r4 [] none) (.cond (.tmp 16) (.seq (.reg f134_r5 [] none) .ret) .skip)))) (.reg f134_r6 [] none))))
def f134_i7 (t0 t1 t7 t8:D):List D:=[t0,t1,.any,.any,.any,.any,.any,t7,t8,.any,.any,.any,.any,.any,.any,.any,.any,.any,.any]
def f134_r8:List LOp:=[
 ⟨some 4,.assign (.const (.int .i64 (-1))),none⟩]
def f134_c:LC:=(.seq (.reg f134_r0 [] none) (.seq (.seq (.reg f134_r1 [] none) (.block 0 (.loop f134_l7))) (.seq (.reg f134_r8 [] none) .ret)))
theorem f134_lc:Tryz.f134.body.map lc=some f134_c.st:=by kernel_rfl
theorem f134_res:Tryz.f134.results.toList=[.tmp 4]:=by kernel_rfl
theorem f134_nt:Tryz.f134.ntmps=19:=by kernel_rfl
theorem f134_nm : (Tryz.f134.name == "runtime.NumGoroutine") = false := by kernel_rfl
def f136_r0:List LOp:=[
 ⟨some 4,.assign (.const (.bool false)),none⟩]
def f136_r1:List LOp:=[
 ⟨some 5,.move (.tmp 0),none⟩,
 ⟨some 6,.call ⟨.builtin .len,#[.tmp 5],#[9]⟩,none⟩,
 ⟨some 7,.move (.tmp 1),none⟩,
 ⟨some 8,.call ⟨.builtin .len,#[.tmp 7],#[9]⟩,none⟩,
 ⟨some 9,.binOp .geq 3 (.tmp 6) (.tmp 8) 3,none⟩,
 ⟨some 10,.move (.tmp 9),none⟩,
 ⟨some 11,.move (.tmp 0),some (5,true)⟩,
 ⟨some 12,.move (.tmp 0),some (5,true)⟩,
 ⟨some 13,.call ⟨.builtin .len,#[.tmp 12],#[9]⟩,some (5,true)⟩,
 ⟨some 14,.move (.tmp 1),some (5,true)⟩,
 ⟨some 15,.call ⟨.builtin .len,#[.tmp 14],#[9]⟩,some (5,true)⟩,
 ⟨some 16,.binOp .sub 3 (.tmp 13) (.tmp 15) 3,some (5,true)⟩,
 ⟨some 17,.slice 9 (.tmp 11) (some (.tmp 16)) none none,some (5,true)⟩,
 ⟨some 18,.move (.tmp 1),some (5,true)⟩,
 ⟨some 19,.binOp .eql 9 (.tmp 17) (.tmp 18) 9,some (5,true)⟩,
 ⟨some 20,.pick (.tmp 10) (.tmp 19) (.const (.bool false)),none⟩,
 ⟨some 4,.assign (.tmp 20),none⟩]
def f136_c:LC:=(.seq (.reg f136_r0 [] none) (.seq (.reg f136_r1 [] none) .ret))
theorem f136_lc:Tryz.f136.body.map lc=some f136_c.st:=by kernel_rfl
theorem f136_res:Tryz.f136.results.toList=[.tmp 4]:=by kernel_rfl
theorem f136_nt:Tryz.f136.ntmps=21:=by kernel_rfl
theorem f136_nm : (Tryz.f136.name == "runtime.NumGoroutine") = false := by kernel_rfl
def f138_r0:List LOp:=[
 ⟨some 2,.alloc 28,none⟩]
def f138_r1:List LOp:=[
 ⟨some 5,.move (.tmp 0),none⟩,
 ⟨some 6,.call ⟨.value (.func 124),#[.tmp 5,.const (.int .u8 91)],#[122,5]⟩,none⟩,
 ⟨some 4,.assign (.tmp 6),none⟩]
def f138_r2:List LOp:=[
 ⟨some 7,.move (.tmp 0),none⟩,
 ⟨some 8,.nilCheck (.tmp 7),none⟩,
 ⟨some 9,.fieldAddr 124 (.tmp 8) 1,none⟩,
 ⟨some 10,.load 3 (.tmp 9),none⟩,
 ⟨some 11,.binOp .add 3 (.tmp 10) (.const (.int .i64 1)) 3,none⟩,
 ⟨some 12,.nilCheck (.tmp 7),none⟩,
 ⟨some 13,.fieldAddr 124 (.tmp 12) 1,none⟩,
 ⟨none,.store 3 (.tmp 13) (.tmp 11),none⟩]
def f138_r3:List LOp:=[
 ⟨some 14,.move (.tmp 0),none⟩,
 ⟨some 15,.call ⟨.value (.func 160),#[.tmp 14,.const (.int .u8 93)],#[122,5]⟩,none⟩]
def f138_r4:List LOp:=[
 ⟨some 16,.build 28 #[(0,.const (.int .u8 1))],none⟩,
 ⟨none,.store 28 (.tmp 2) (.tmp 16),none⟩]
def f138_r5:List LOp:=[
 ⟨some 18,.move (.tmp 0),none⟩,
 ⟨some 19,.call ⟨.value (.func 124),#[.tmp 18,.const (.int .u8 40)],#[122,5]⟩,none⟩,
 ⟨some 17,.assign (.tmp 19),none⟩]
def f138_r6:List LOp:=[
 ⟨some 20,.move (.tmp 0),none⟩,
 ⟨some 21,.nilCheck (.tmp 20),none⟩,
 ⟨some 22,.fieldAddr 124 (.tmp 21) 1,none⟩,
 ⟨some 23,.load 3 (.tmp 22),none⟩,
 ⟨some 24,.binOp .add 3 (.tmp 23) (.const (.int .i64 1)) 3,none⟩,
 ⟨some 25,.nilCheck (.tmp 20),none⟩,
 ⟨some 26,.fieldAddr 124 (.tmp 25) 1,none⟩,
 ⟨none,.store 3 (.tmp 26) (.tmp 24),none⟩]
def f138_r7:List LOp:=[
 ⟨some 27,.move (.tmp 0),none⟩,
 ⟨some 28,.call ⟨.value (.func 124),#[.tmp 27,.const (.int .u8 41)],#[122,5]⟩,none⟩]
def f138_r8:List LOp:=[
 ⟨some 29,.move (.tmp 0),none⟩,
 ⟨some 30,.nilCheck (.tmp 29),none⟩,
 ⟨some 31,.fieldAddr 124 (.tmp 30) 1,none⟩,
 ⟨some 32,.load 3 (.tmp 31),none⟩,
 ⟨some 33,.binOp .add 3 (.tmp 32) (.const (.int .i64 1)) 3,none⟩,
 ⟨some 34,.nilCheck (.tmp 29),none⟩,
 ⟨some 35,.fieldAddr 124 (.tmp 34) 1,none⟩,
 ⟨none,.store 3 (.tmp 35) (.tmp 33),none⟩]
def f138_r9:List LOp:=[
 ⟨some 36,.build 28 #[(0,.const (.int .u8 2))],none⟩,
 ⟨none,.store 28 (.tmp 2) (.tmp 36),none⟩]
def f138_r10:List LOp:=[
 ⟨some 37,.move (.tmp 0),none⟩,
 ⟨some 38,.call ⟨.value (.func 98),#[.tmp 37],#[122]⟩,none⟩,
 ⟨some 3,.alloc 28,none⟩,
 ⟨none,.store 28 (.tmp 3) (.tmp 38),none⟩]
def f138_r11:List LOp:=[
 ⟨some 39,.move (.tmp 0),none⟩,
 ⟨some 40,.call ⟨.value (.func 160),#[.tmp 39,.const (.int .u8 41)],#[122,5]⟩,none⟩]
def f138_r12:List LOp:=[
 ⟨some 41,.load 28 (.tmp 3),none⟩,
 ⟨none,.store 28 (.tmp 2) (.tmp 41),none⟩]
def f138_r13:List LOp:=[
 ⟨some 42,.move (.tmp 0),none⟩,
 ⟨some 43,.call ⟨.value (.func 161),#[.tmp 42],#[122]⟩,none⟩,
 ⟨none,.store 28 (.tmp 2) (.tmp 43),none⟩]
def f138_c:LC:=(.seq (.reg f138_r0 [] none) (.seq (.block 0 (.seq (.reg f138_r1 [] none) (.cond (.tmp 4) (.seq (.reg f138_r2 [] none) (.seq (.reg f138_r3 [] none) (.seq (.reg f138_r4 [] none) .ret))) (.seq (.reg f138_r5 [] none) (.cond (.tmp 17) (.seq (.reg f138_r6 [] none) (.seq (.seq (.reg f138_r7 [] none) (.cond (.tmp 28) (.seq (.reg f138_r8 [] none) (.seq (.reg f138_r9 [] none) .ret)) .skip)) (.seq (.reg f138_r10 [] none) (.seq (.reg f138_r11 [] none) (.seq (.reg f138_r12 [] none) .ret))))) .skip))))) (.seq (.reg f138_r13 [] none) .ret)))
theorem f138_lc:Tryz.f138.body.map lc=some f138_c.st:=by kernel_rfl
theorem f138_res:Tryz.f138.results.toList=[.cell 2 28]:=by kernel_rfl
theorem f138_nt:Tryz.f138.ntmps=44:=by kernel_rfl
theorem f138_nm : (Tryz.f138.name == "runtime.NumGoroutine") = false := by kernel_rfl
def f139_r0:List LOp:=[
 ⟨some 2,.assign (.const (.bool false)),none⟩]
def f139_r1:List LOp:=[
 ⟨some 3,.move (.tmp 0),none⟩,
 ⟨some 4,.call ⟨.value (.func 99),#[.tmp 3],#[122]⟩,none⟩]
def f139_r2:List LOp:=[
 ⟨some 5,.move (.tmp 0),none⟩,
 ⟨some 6,.nilCheck (.tmp 5),none⟩,
 ⟨some 7,.fieldAddr 124 (.tmp 6) 1,none⟩,
 ⟨some 8,.load 3 (.tmp 7),none⟩,
 ⟨some 9,.move (.tmp 0),none⟩,
 ⟨some 10,.nilCheck (.tmp 9),none⟩,
 ⟨some 11,.fieldAddr 124 (.tmp 10) 0,none⟩,
 ⟨some 12,.load 9 (.tmp 11),none⟩,
 ⟨some 13,.call ⟨.builtin .len,#[.tmp 12],#[9]⟩,none⟩,
 ⟨some 14,.binOp .lss 3 (.tmp 8) (.tmp 13) 3,none⟩,
 ⟨some 15,.move (.tmp 14),none⟩,
 ⟨some 16,.move (.tmp 0),some (10,true)⟩,
 ⟨some 17,.nilCheck (.tmp 16),some (10,true)⟩,
 ⟨some 18,.fieldAddr 124 (.tmp 17) 0,some (10,true)⟩,
 ⟨some 19,.load 9 (.tmp 18),some (10,true)⟩,
 ⟨some 20,.move (.tmp 0),some (10,true)⟩,
 ⟨some 21,.nilCheck (.tmp 20),some (10,true)⟩,
 ⟨some 22,.fieldAddr 124 (.tmp 21) 1,some (10,true)⟩,
 ⟨some 23,.load 3 (.tmp 22),some (10,true)⟩,
 ⟨some 24,.index 9 (.tmp 19) (.tmp 23),some (10,true)⟩,
 ⟨some 25,.binOp .geq 5 (.tmp 24) (.const (.int .u8 97)) 5,some (10,true)⟩,
 ⟨some 26,.pick (.tmp 15) (.tmp 25) (.const (.bool false)),none⟩,
 ⟨some 27,.move (.tmp 26),none⟩,
 ⟨some 28,.move (.tmp 0),some (22,true)⟩,
 ⟨some 29,.nilCheck (.tmp 28),some (22,true)⟩,
 ⟨some 30,.fieldAddr 124 (.tmp 29) 0,some (22,true)⟩,
 ⟨some 31,.load 9 (.tmp 30),some (22,true)⟩,
 ⟨some 32,.move (.tmp 0),some (22,true)⟩,
 ⟨some 33,.nilCheck (.tmp 32),some (22,true)⟩,
 ⟨some 34,.fieldAddr 124 (.tmp 33) 1,some (22,true)⟩,
 ⟨some 35,.load 3 (.tmp 34),some (22,true)⟩,
 ⟨some 36,.index 9 (.tmp 31) (.tmp 35),some (22,true)⟩,
 ⟨some 37,.binOp .leq 5 (.tmp 36) (.const (.int .u8 122)) 5,some (22,true)⟩,
 ⟨some 38,.pick (.tmp 27) (.tmp 37) (.const (.bool false)),none⟩,
 ⟨some 2,.assign (.tmp 38),none⟩]
def f139_c:LC:=(.seq (.reg f139_r0 [] none) (.seq (.reg f139_r1 [] none) (.seq (.reg f139_r2 [] (some 34)) .ret)))
theorem f139_lc:Tryz.f139.body.map lc=some f139_c.st:=by kernel_rfl
theorem f139_res:Tryz.f139.results.toList=[.tmp 2]:=by kernel_rfl
theorem f139_nt:Tryz.f139.ntmps=39:=by kernel_rfl
theorem f139_nm : (Tryz.f139.name == "runtime.NumGoroutine") = false := by kernel_rfl
def f140_r0:List LOp:=[
 ⟨some 1,.box 26 (.tmp 0),none⟩,
 ⟨some 2,.assign (.const .nilFunc),none⟩]
def f140_r1:List LOp:=[
 ⟨some 3,.makeFunc (.func 162) #[] #[.tmp 1],none⟩,
 ⟨some 2,.assign (.tmp 3),none⟩]
def f140_c:LC:=(.seq (.reg f140_r0 [] none) (.seq (.reg f140_r1 [] none) .ret))
theorem f140_lc:Tryz.f140.body.map lc=some f140_c.st:=by kernel_rfl
theorem f140_res:Tryz.f140.results.toList=[.tmp 2]:=by kernel_rfl
theorem f140_nt:Tryz.f140.ntmps=4:=by kernel_rfl
theorem f140_nm : (Tryz.f140.name == "runtime.NumGoroutine") = false := by kernel_rfl
def f160_r0:List LOp:=[
 ⟨some 4,.move (.tmp 0),none⟩,
 ⟨some 5,.move (.tmp 1),none⟩,
 ⟨some 6,.call ⟨.value (.func 124),#[.tmp 4,.tmp 5],#[122,5]⟩,none⟩,
 ⟨some 7,.unOp .not 4 (.tmp 6),none⟩]
def f160_r1:List LOp:=[
 ⟨some 8,.move (.tmp 0),none⟩,
 ⟨some 9,.move (.tmp 0),none⟩,
 ⟨some 10,.nilCheck (.tmp 9),none⟩,
 ⟨some 11,.fieldAddr 124 (.tmp 10) 1,none⟩,
 ⟨some 12,.load 3 (.tmp 11),none⟩,
 ⟨some 13,.call ⟨.value (.func 100),#[.tmp 8,.tmp 12,.const (.int .i64 2)],#[122,3,33]⟩,none⟩]
def f160_r2:List LOp:=[
 ⟨some 14,.move (.tmp 0),none⟩,
 ⟨some 15,.nilCheck (.tmp 14),none⟩,
 ⟨some 16,.fieldAddr 124 (.tmp 15) 1,none⟩,
 ⟨some 17,.load 3 (.tmp 16),none⟩,
 ⟨some 18,.binOp .add 3 (.tmp 17) (.const (.int .i64 1)) 3,none⟩,
 ⟨some 19,.nilCheck (.tmp 14),none⟩,
 ⟨some 20,.fieldAddr 124 (.tmp 19) 1,none⟩,
 ⟨none,.store 3 (.tmp 20) (.tmp 18),none⟩]
def f160_c:LC:=(.seq (.seq (.reg f160_r0 [] none) (.cond (.tmp 7) (.reg f160_r1 [] none) .skip)) (.reg f160_r2 [] none))
theorem f160_lc:Tryz.f160.body.map lc=some f160_c.st:=by kernel_rfl
theorem f160_res:Tryz.f160.results.toList=[]:=by kernel_rfl
theorem f160_nt:Tryz.f160.ntmps=21:=by kernel_rfl
theorem f160_nm : (Tryz.f160.name == "runtime.NumGoroutine") = false := by kernel_rfl
def f161_r0:List LOp:=[
 ⟨some 2,.alloc 28,none⟩]
def f161_r1:List LOp:=[
 ⟨some 7,.move (.tmp 0),none⟩,
 ⟨some 8,.call ⟨.value (.func 139),#[.tmp 7],#[122]⟩,none⟩,
 ⟨some 9,.unOp .not 4 (.tmp 8),none⟩]
def f161_r2:List LOp:=[
 ⟨some 10,.move (.tmp 0),none⟩,
 ⟨some 11,.move (.tmp 0),none⟩,
 ⟨some 12,.nilCheck (.tmp 11),none⟩,
 ⟨some 13,.fieldAddr 124 (.tmp 12) 1,none⟩,
 ⟨some 14,.load 3 (.tmp 13),none⟩,
 ⟨some 15,.call ⟨.value (.func 100),#[.tmp 10,.tmp 14,.const (.int .i64 2)],#[122,3,33]⟩,none⟩]
def f161_r3:List LOp:=[
 ⟨some 16,.move (.tmp 0),none⟩,
 ⟨some 17,.nilCheck (.tmp 16),none⟩,
 ⟨some 18,.fieldAddr 124 (.tmp 17) 1,none⟩,
 ⟨some 19,.load 3 (.tmp 18),none⟩,
 ⟨some 3,.assign (.tmp 19),none⟩]
def f161_r4:List LOp:=[
 ⟨some 20,.move (.tmp 0),none⟩,
 ⟨some 21,.nilCheck (.tmp 20),none⟩,
 ⟨some 22,.fieldAddr 124 (.tmp 21) 1,none⟩,
 ⟨some 23,.load 3 (.tmp 22),none⟩,
 ⟨some 24,.move (.tmp 0),none⟩,
 ⟨some 25,.nilCheck (.tmp 24),none⟩,
 ⟨some 26,.fieldAddr 124 (.tmp 25) 0,none⟩,
 ⟨some 27,.load 9 (.tmp 26),none⟩,
 ⟨some 28,.call ⟨.builtin .len,#[.tmp 27],#[9]⟩,none⟩,
 ⟨some 29,.binOp .lss 3 (.tmp 23) (.tmp 28) 3,none⟩,
 ⟨some 30,.move (.tmp 29),none⟩,
 ⟨some 31,.move (.tmp 0),some (10,true)⟩,
 ⟨some 32,.nilCheck (.tmp 31),some (10,true)⟩,
 ⟨some 33,.fieldAddr 124 (.tmp 32) 0,some (10,true)⟩,
 ⟨some 34,.load 9 (.tmp 33),some (10,true)⟩,
 ⟨some 35,.move (.tmp 0),some (10,true)⟩,
 ⟨some 36,.nilCheck (.tmp 35),some (10,true)⟩,
 ⟨some 37,.fieldAddr 124 (.tmp 36) 1,some (10,true)⟩,
 ⟨some 38,.load 3 (.tmp 37),some (10,true)⟩,
 ⟨some 39,.index 9 (.tmp 34) (.tmp 38),some (10,true)⟩,
 ⟨some 40,.call ⟨.value (.func 178),#[.tmp 39],#[5]⟩,some (10,true)⟩,
 ⟨some 41,.pick (.tmp 30) (.tmp 40) (.const (.bool false)),none⟩]
def f161_r5:List LOp:=[
 ⟨some 42,.move (.tmp 0),none⟩,
 ⟨some 43,.nilCheck (.tmp 42),none⟩,
 ⟨some 44,.fieldAddr 124 (.tmp 43) 1,none⟩,
 ⟨some 45,.load 3 (.tmp 44),none⟩,
 ⟨some 46,.binOp .add 3 (.tmp 45) (.const (.int .i64 1)) 3,none⟩,
 ⟨some 47,.nilCheck (.tmp 42),none⟩,
 ⟨some 48,.fieldAddr 124 (.tmp 47) 1,none⟩,
 ⟨none,.store 3 (.tmp 48) (.tmp 46),none⟩]
def f161_l6:LC:=(.seq (.seq (.reg f161_r4 [] (some 22)) (.cond (.tmp 41) .skip (.exit 0))) (.block 1 (.reg f161_r5 [] none)))
def f161_i6 (t0 t2 t3:D):List D:=[t0,.any,t2,t3,.any,.any,.any,.any,.any,.any,.any,.any,.any,.any,.any,.any,.any,.any,.any,.any,.any,.any,.any,.any,.any,.any,.any,.any,.any,.any,.any,.any,.any,.any,.any,.any,.any,.any,.any,.any,.any,.any,.any,.any,.any,.any,.any,.any,.any,.any,.any,.any,.any,.any,.any,.any,.any,.any,.any,.any,.any,.any,.any,.any,.any,.any,.any,.any,.any,.any,.any,.any,.any,.any,.any,.any,.any,.any,.any,.any,.any,.any]
def f161_r7:List LOp:=[
 ⟨some 49,.move (.tmp 0),none⟩,
 ⟨some 50,.nilCheck (.tmp 49),none⟩,
 ⟨some 51,.fieldAddr 124 (.tmp 50) 0,none⟩,
 ⟨some 52,.load 9 (.tmp 51),none⟩,
 ⟨some 53,.move (.tmp 3),none⟩,
 ⟨some 54,.move (.tmp 0),none⟩,
 ⟨some 55,.nilCheck (.tmp 54),none⟩,
 ⟨some 56,.fieldAddr 124 (.tmp 55) 1,none⟩,
 ⟨some 57,.load 3 (.tmp 56),none⟩,
 ⟨some 58,.slice 9 (.tmp 52) (some (.tmp 53)) (some (.tmp 57)) none,none⟩,
 ⟨some 4,.assign (.tmp 58),none⟩]
def f161_r8:List LOp:=[
 ⟨some 59,.move (.tmp 0),none⟩,
 ⟨some 60,.nilCheck (.tmp 59),none⟩,
 ⟨some 61,.fieldAddr 124 (.tmp 60) 2,none⟩,
 ⟨some 62,.load 22 (.tmp 61),none⟩,
 ⟨some 63,.move (.tmp 4),none⟩,
 ⟨some 64,.call ⟨.value (.func 122),#[.tmp 62,.tmp 63],#[22,9]⟩,none⟩,
 ⟨some 5,.assign (.tmp 64),none⟩]
def f161_r9:List LOp:=[
 ⟨some 65,.move (.tmp 5),none⟩,
 ⟨some 66,.binOp .geq 3 (.tmp 65) (.const (.int .i64 0)) 3,none⟩]
def f161_r10:List LOp:=[
 ⟨some 67,.move (.tmp 5),none⟩,
 ⟨some 68,.build 28 #[(0,.const (.int .u8 3)),(1,.tmp 67)],none⟩,
 ⟨none,.store 28 (.tmp 2) (.tmp 68),none⟩]
def f161_r11:List LOp:=[
 ⟨some 69,.move (.tmp 0),none⟩,
 ⟨some 70,.nilCheck (.tmp 69),none⟩,
 ⟨some 71,.fieldAddr 124 (.tmp 70) 3,none⟩,
 ⟨some 72,.load 22 (.tmp 71),none⟩,
 ⟨some 73,.move (.tmp 4),none⟩,
 ⟨some 74,.call ⟨.value (.func 122),#[.tmp 72,.tmp 73],#[22,9]⟩,none⟩,
 ⟨some 6,.assign (.tmp 74),none⟩]
def f161_r12:List LOp:=[
 ⟨some 75,.move (.tmp 6),none⟩,
 ⟨some 76,.binOp .lss 3 (.tmp 75) (.const (.int .i64 0)) 3,none⟩]
def f161_r13:List LOp:=[
 ⟨some 77,.move (.tmp 0),none⟩,
 ⟨some 78,.move (.tmp 3),none⟩,
 ⟨some 79,.call ⟨.value (.func 100),#[.tmp 77,.tmp 78,.const (.int .i64 5)],#[122,3,33]⟩,none⟩]
def f161_r14:List LOp:=[
 ⟨some 80,.move (.tmp 6),none⟩,
 ⟨some 81,.build 28 #[(0,.const (.int .u8 6)),(1,.tmp 80)],none⟩,
 ⟨none,.store 28 (.tmp 2) (.tmp 81),none⟩]
def f161_c:LC:=(.seq (.reg f161_r0 [] none) (.seq (.seq (.reg f161_r1 [] none) (.cond (.tmp 9) (.reg f161_r2 [] none) .skip)) (.seq (.reg f161_r3 [] none) (.seq (.block 0 (.loop f161_l6)) (.seq (.reg f161_r7 [] (some 9)) (.seq (.seq (.reg f161_r8 [] none) (.seq (.reg f161_r9 [] none) (.cond (.tmp 66) (.seq (.reg f161_r10 [] none) .ret) .skip))) (.seq (.reg f161_r11 [] none) (.seq (.seq (.reg f161_r12 [] none) (.cond (.tmp 76) (.reg f161_r13 [] none) .skip)) (.seq (.reg f161_r14 [] none) .ret)))))))))
theorem f161_lc:Tryz.f161.body.map lc=some f161_c.st:=by kernel_rfl
theorem f161_res:Tryz.f161.results.toList=[.cell 2 28]:=by kernel_rfl
theorem f161_nt:Tryz.f161.ntmps=82:=by kernel_rfl
theorem f161_nm : (Tryz.f161.name == "runtime.NumGoroutine") = false := by kernel_rfl
def f162_r0:List LOp:=[
 ⟨some 4,.load 26 (.tmp 1),none⟩,
 ⟨some 5,.call ⟨.builtin .len,#[.tmp 4],#[26]⟩,none⟩,
 ⟨some 6,.binOp .sub 3 (.tmp 5) (.const (.int .i64 1)) 3,none⟩,
 ⟨some 3,.assign (.tmp 6),none⟩]
def f162_r1:List LOp:=[
 ⟨some 7,.move (.tmp 3),none⟩,
 ⟨some 8,.binOp .geq 3 (.tmp 7) (.const (.int .i64 0)) 3,none⟩]
def f162_r2:List LOp:=[
 ⟨some 11,.move (.tmp 0),none⟩,
 ⟨some 12,.move (.tmp 3),none⟩,
 ⟨some 13,.load 26 (.tmp 1),none⟩,
 ⟨some 14,.move (.tmp 3),none⟩,
 ⟨some 15,.indexAddr 26 (.tmp 13) (.tmp 14),none⟩,
 ⟨some 16,.load 28 (.tmp 15),none⟩,
 ⟨some 17,.call ⟨.value (.tmp 11),#[.tmp 12,.tmp 16],#[3,28]⟩,none⟩,
 ⟨some 18,.unOp .not 4 (.tmp 17),none⟩]
def f162_r3:List LOp:=[
 ⟨some 9,.move (.tmp 3),none⟩,
 ⟨some 10,.binOp .sub 3 (.tmp 9) (.const (.int .i64 1)) 3,none⟩,
 ⟨some 3,.assign (.tmp 10),none⟩]
def f162_l4:LC:=(.seq (.seq (.reg f162_r1 [] none) (.cond (.tmp 8) .skip (.exit 0))) (.seq (.block 1 (.seq (.reg f162_r2 [] none) (.cond (.tmp 18) .ret .skip))) (.reg f162_r3 [] none)))
def f162_i4 (t0 t1 t3:D):List D:=[t0,t1,.any,t3,.any,.any,.any,.any,.any,.any,.any,.any,.any,.any,.any,.any,.any,.any,.any]
def f162_c:LC:=(.seq (.reg f162_r0 [] none) (.block 0 (.loop f162_l4)))
theorem f162_lc:Tryz.f162.body.map lc=some f162_c.st:=by kernel_rfl
theorem f162_res:Tryz.f162.results.toList=[]:=by kernel_rfl
theorem f162_nt:Tryz.f162.ntmps=19:=by kernel_rfl
theorem f162_nm : (Tryz.f162.name == "runtime.NumGoroutine") = false := by kernel_rfl
def f178_r0:List LOp:=[
 ⟨some 2,.assign (.const (.bool false)),none⟩]
def f178_r1:List LOp:=[
 ⟨some 3,.move (.tmp 0),none⟩,
 ⟨some 4,.binOp .geq 5 (.tmp 3) (.const (.int .u8 97)) 5,none⟩,
 ⟨some 5,.move (.tmp 4),none⟩,
 ⟨some 6,.move (.tmp 0),some (2,true)⟩,
 ⟨some 7,.binOp .leq 5 (.tmp 6) (.const (.int .u8 122)) 5,some (2,true)⟩,
 ⟨some 8,.pick (.tmp 5) (.tmp 7) (.const (.bool false)),none⟩,
 ⟨some 9,.move (.tmp 8),none⟩,
 ⟨some 10,.move (.tmp 0),some (6,false)⟩,
 ⟨some 11,.binOp .geq 5 (.tmp 10) (.const (.int .u8 48)) 5,some (6,false)⟩,
 ⟨some 12,.move (.tmp 11),some (6,false)⟩,
 ⟨some 13,.move (.tmp 0),some (9,true)⟩,
 ⟨some 14,.binOp .leq 5 (.tmp 13) (.const (.int .u8 57)) 5,some (9,true)⟩,
 ⟨some 15,.pick (.tmp 12) (.tmp 14) (.const (.bool false)),some (6,false)⟩,
 ⟨some 16,.pick (.tmp 9) (.const (.bool true)) (.tmp 15),none⟩,
 ⟨some 17,.move (.tmp 16),none⟩,
 ⟨some 18,.move (.tmp 0),some (14,false)⟩,
 ⟨some 19,.binOp .eql 5 (.tmp 18) (.const (.int .u8 95)) 5,some (14,false)⟩,
 ⟨some 20,.pick (.tmp 17) (.const (.bool true)) (.tmp 19),none⟩,
 ⟨some 2,.assign (.tmp 20),none⟩]
def f178_c:LC:=(.seq (.reg f178_r0 [] none) (.seq (.reg f178_r1 [] none) .ret))
theorem f178_lc:Tryz.f178.body.map lc=some f178_c.st:=by kernel_rfl
theorem f178_res:Tryz.f178.results.toList=[.tmp 2]:=by kernel_rfl
theorem f178_nt:Tryz.f178.ntmps=21:=by kernel_rfl
theorem f178_nm : (Tryz.f178.name == "runtime.NumGoroutine") = false := by kernel_rfl
attribute [go_sem] f52_r0 f52_r1 f52_r2 f52_r3 f52_r4 f52_r5 f52_r6 f52_r7 f52_r8 f52_r9 f52_r10 f52_r11 f52_r12 f52_r13 f52_r14 f52_r15 f52_c f53_r0 f53_r1 f53_c f54_r0 f54_r1 f54_c f56_r0 f56_r1 f56_r2 f56_r3 f56_r4 f56_r5 f56_r6 f56_r7 f56_r8 f56_r9 f56_r10 f56_r11 f56_c f57_r0 f57_r1 f57_c f58_r0 f58_r1 f58_r2 f58_r3 f58_r4 f58_r5 f58_r6 f58_r7 f58_r8 f58_r9 f58_r10 f58_c f59_r0 f59_r1 f59_r2 f59_r3 f59_r4 f59_r5 f59_r6 f59_r7 f59_r8 f59_r9 f59_r10 f59_r11 f59_r12 f59_r13 f59_r14 f59_c f63_r0 f63_r1 f63_c f65_r0 f65_r1 f65_c f66_r0 f66_r1 f66_r2 f66_r3 f66_r4 f66_r5 f66_r6 f66_l7 f66_i7 f66_r8 f66_c f69_r0 f69_r1 f69_r2 f69_r3 f69_r4 f69_r5 f69_r6 f69_r7 f69_r8 f69_l9 f69_i9 f69_r10 f69_c f70_r0 f70_r1 f70_r2 f70_r3 f70_r4 f70_r5 f70_r6 f70_l7 f70_i7 f70_r8 f70_c f71_r0 f71_r1 f71_r2 f71_c f72_r0 f72_r1 f72_r2 f72_r3 f72_r4 f72_r5 f72_r6 f72_r7 f72_r8 f72_r9 f72_r10 f72_r11 f72_r12 f72_r13 f72_r14 f72_r15 f72_r16 f72_a17 f72_b17 f72_r18 f72_r19 f72_r20 f72_c f73_r0 f73_r1 f73_r2 f73_r3 f73_c f74_r0 f74_r1 f74_r2 f74_r3 f74_r4 f74_r5 f74_r6 f74_c f75_r0 f75_r1 f75_r2 f75_r3 f75_r4 f75_r5 f75_r6 f75_r7 f75_r8 f75_r9 f75_r10 f75_r11 f75_l12 f75_i12 f75_r13 f75_c f76_r0 f76_r1 f76_c f77_r0 f77_r1 f77_r2 f77_r3 f77_r4 f77_r5 f77_r6 f77_r7 f77_l8 f77_i8 f77_r9 f77_c f78_r0 f78_r1 f78_r2 f78_r3 f78_r4 f78_r5 f78_r6 f78_l7 f78_i7 f78_r8 f78_c f80_r0 f80_r1 f80_r2 f80_r3 f80_r4 f80_r5 f80_r6 f80_r7 f80_l8 f80_i8 f80_r9 f80_r10 f80_r11 f80_c f81_r0 f81_r1 f81_r2 f81_r3 f81_r4 f81_r5 f81_r6 f81_r7 f81_l8 f81_i8 f81_r9 f81_c f82_r0 f82_r1 f82_r2 f82_r3 f82_r4 f82_r5 f82_r6 f82_l7 f82_i7 f82_r8 f82_c f85_r0 f85_r1 f85_r2 f85_r3 f85_r4 f85_r5 f85_r6 f85_l7 f85_i7 f85_r8 f85_c f86_r0 f86_r1 f86_c f87_r0 f87_r1 f87_r2 f87_r3 f87_r4 f87_r5 f87_r6 f87_r7 f87_r8 f87_r9 f87_r10 f87_r11 f87_r12 f87_r13 f87_c f88_r0 f88_r1 f88_r2 f88_r3 f88_r4 f88_r5 f88_r6 f88_l7 f88_i7 f88_r8 f88_c f89_r0 f89_r1 f89_r2 f89_r3 f89_c f90_r0 f90_r1 f90_c f91_r0 f91_r1 f91_c f93_r0 f93_r1 f93_c f94_r0 f94_r1 f94_c f96_r0 f96_r1 f96_c f97_r0 f97_r1 f97_r2 f97_r3 f97_r4 f97_r5 f97_r6 f97_r7 f97_c f98_r0 f98_r1 f98_r2 f98_r3 f98_r4 f98_l5 f98_i5 f98_r6 f98_c f99_r0 f99_r1 f99_l2 f99_i2 f99_c f100_r0 f100_c f101_r0 f101_r1 f101_r2 f101_r3 f101_r4 f101_r5 f101_r6 f101_r7 f101_r8 f101_l9 f101_i9 f101_r10 f101_r11 f101_r12 f101_r13 f101_r14 f101_r15 f101_l16 f101_i16 f101_r17 f101_c f102_r0 f102_r1 f102_r2 f102_r3 f102_r4 f102_r5 f102_r6 f102_l7 f102_i7 f102_r8 f102_c f105_r0 f105_l1 f105_i1 f105_c f106_r0 f106_r1 f106_r2 f106_r3 f106_r4 f106_r5 f106_r6 f106_r7 f106_r8 f106_l9 f106_i9 f106_r10 f106_c f107_r0 f107_r1 f107_r2 f107_r3 f107_r4 f107_r5 f107_r6 f107_l7 f107_i7 f107_r8 f107_c f108_r0 f108_r1 f108_r2 f108_r3 f108_r4 f108_r5 f108_r6 f108_l7 f108_i7 f108_r8 f108_c f111_r0 f111_r1 f111_c f112_r0 f112_r1 f112_c f114_r0 f114_r1 f114_r2 f114_r3 f114_r4 f114_l5 f114_i5 f114_c f115_r0 f115_r1 f115_c f116_r0 f116_r1 f116_c f117_r0 f117_r1 f117_r2 f117_r3 f117_r4 f117_r5 f117_r6 f117_l7 f117_i7 f117_r8 f117_c f118_r0 f118_r1 f118_r2 f118_r3 f118_r4 f118_r5 f118_r6 f118_l7 f118_i7 f118_c f119_r0 f119_r1 f119_c f120_r0 f120_r1 f120_r2 f120_r3 f120_c f122_r0 f122_r1 f122_r2 f122_r3 f122_r4 f122_r5 f122_r6 f122_l7 f122_i7 f122_r8 f122_c f123_r0 f123_r1 f123_r2 f123_r3 f123_l4 f123_i4 f123_r5 f123_c f124_r0 f124_r1 f124_r2 f124_c f125_r0 f125_r1 f125_r2 f125_r3 f125_r4 f125_a5 f125_b5 f125_r6 f125_c f131_r0 f131_r1 f131_r2 f131_r3 f131_a4 f131_b4 f131_r5 f131_c f134_r0 f134_r1 f134_r2 f134_r3 f134_r4 f134_r5 f134_r6 f134_l7 f134_i7 f134_r8 f134_c f136_r0 f136_r1 f136_c f138_r0 f138_r1 f138_r2 f138_r3 f138_r4 f138_r5 f138_r6 f138_r7 f138_r8 f138_r9 f138_r10 f138_r11 f138_r12 f138_r13 f138_c f139_r0 f139_r1 f139_r2 f139_c f140_r0 f140_r1 f140_c f160_r0 f160_r1 f160_r2 f160_c f161_r0 f161_r1 f161_r2 f161_r3 f161_r4 f161_r5 f161_l6 f161_i6 f161_r7 f161_r8 f161_r9 f161_r10 f161_r11 f161_r12 f161_r13 f161_r14 f161_c f162_r0 f162_r1 f162_r2 f162_r3 f162_l4 f162_i4 f162_c f178_r0 f178_r1 f178_c
end Go.Proofs.YtbmedfjmccnclaaGreat.W
