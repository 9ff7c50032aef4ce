/- What the row of LookIs needs besides: light code and summaries. -/
import Derived.Test.YtbmedfjmccnclaaGreatWalkB
import Derived.Test.YtbmedfjmccnclaaGreatBridgeA
import Derived.Test.YtbmedfjmccnclaaGreatGenB
import Derived.Below
import Derived.Carry
import Derived.ChangeAlike
import Derived.ChangeMaps5
import Derived.Deep.Strs
import Derived.Defers
import Derived.HandedShaped
import Derived.JoinedCond
import Derived.KernelRfl
import Derived.Laws.LoneSync
import Derived.Laws.Pointers
import Derived.Laws.StandIn
import Derived.Lib.Bytealg
import Derived.OpenShut
import Derived.ProofKit
import Derived.RegionCalls
import Derived.RegionTactic
import Derived.Shelf.Vars
import Derived.SliceStrings
import Derived.Tactics
import Derived.Tactics2
import Derived.Test.YtbmedfjmccnclaaGreatChecked
import Derived.Test.YtbmedfjmccnclaaGreatRows
set_option linter.unusedVariables false
set_option linter.unusedSimpArgs false
set_option linter.unusedSectionVars false
set_option maxRecDepth 100000
namespace Go.Proofs.YtbmedfjmccnclaaGreat.AWP
open Go
theorem Re.sames_len:∀ (x y:List Re),¬ x.length=y.length→Re.sames x y=false
 | [],[],h=>absurd rfl h
 | [],_ :: _,_=>by simp [Re.sames]
 | _ :: _,[],_=>by simp [Re.sames]
 | x :: l,y :: m,h=>by
  rw [Re.sames,Re.sames_len l m (by simpa using h),Bool.and_false]
end Go.Proofs.YtbmedfjmccnclaaGreat.AWP
namespace Go.Proofs.YtbmedfjmccnclaaGreat.AWP
open Go
instance:Inhabited Cf:=⟨.mk 0 0 []⟩
section
variable {p:Cf→Prop} (h:∀ (k n:Int) (ks:List Cf),(∀ x∈ks,p x)→p (.mk k n ks))
include h
end
instance:Inhabited Gr:=⟨⟨[],[]⟩⟩
theorem Cf.same_mk (k n:Int) (ks:List Cf) (k' n':Int) (ks':List Cf):(Cf.mk k n ks).same (.mk k' n' ks')=(decide (k=k'∧n=n') && Cf.sames ks ks'):=by rw [Cf.same]
theorem Cf.sames_cons (x:Cf) (l:List Cf) (y:Cf) (m:List Cf):Cf.sames (x :: l) (y :: m)=(x.same y && Cf.sames l m):=by rw [Cf.sames]
theorem Cf.sames_len:∀ (x y:List Cf),¬ x.length=y.length→Cf.sames x y=false
 | [],[],h=>absurd rfl h
 | [],_ :: _,_=>by simp [Cf.sames]
 | _ :: _,[],_=>by simp [Cf.sames]
 | x :: l,y :: m,h=>by
  rw [Cf.sames,Cf.sames_len l m (by simpa using h),Bool.and_false]
theorem Cf.same_refl (x:Cf):x.same x=true:=(Cf.same_eq x x).2 rfl
end Go.Proofs.YtbmedfjmccnclaaGreat.AWP
namespace Go.Proofs.YtbmedfjmccnclaaGreat.AWP
open Go Go.ChangeShapes Go.WideShapes Go.ChangeAt Go.RowKit
theorem rdA_2 {E:Env} {d0 d1:D} {v0 v1:Value} (h0:Rd E d0 v0) (h1:Rd E d1 v1):RdA E [d0,d1] #[v0,v1]:=
 rdA_of (vs:=[v0,v1]) rfl fun j d v hj hv=>by
  match j,hj,hv with
  | 0,hj,hv=>simp at hj hv; subst hj; subst hv; exact h0
  | 1,hj,hv=>simp at hj hv; subst hj; subst hv; exact h1
  | j+2,hj,_=>simp at hj
end Go.Proofs.YtbmedfjmccnclaaGreat.AWP
namespace Go.Proofs.YtbmedfjmccnclaaGreat.AWP
open Go Go.ChangeShapes Go.WideShapes Go.ChangeAt Go.RowKit
theorem cells_of_slice {P:Program} {w:World} {r:Reach} {b:Nat} {t e:TypeId} {v:Value} (ht:P.underlying t=some (.slice e)) (h:Value.okWide P w r b t v):v.cells = #[v]:=by
 unfold Value.okWide at h
 rw [ht] at h
 unfold Cell.okWide at h
 rw [ht] at h
 unfold Cell.ok at h
 rw [ht] at h
 cases v <;> first | rfl | (simp at h)
end Go.Proofs.YtbmedfjmccnclaaGreat.AWP
namespace Go.Proofs.YtbmedfjmccnclaaGreat.W
open Go Go.Proofs Go.Proofs.YtbmedfjmccnclaaGreat.AWP
def f5_r0:List LOp:=[
 ⟨some 2,.box 25 (.tmp 0),none⟩,
 ⟨some 4,.assign (.const (.bool false)),none⟩]
def f5_r1:List LOp:=[
 ⟨some 10,.load 25 (.tmp 2),none⟩,
 ⟨some 11,.call ⟨.value (.func 11),#[.tmp 10],#[25]⟩,none⟩,
 ⟨some 12,.move (.tmp 11),none⟩,
 ⟨some 13,.move (.tmp 1),some (2,false)⟩,
 ⟨some 14,.call ⟨.builtin .len,#[.tmp 13],#[26]⟩,some (2,false)⟩,
 ⟨some 15,.binOp .gtr 3 (.tmp 14) (.const (.int .i64 10)) 3,some (2,false)⟩,
 ⟨some 16,.pick (.tmp 12) (.const (.bool true)) (.tmp 15),none⟩]
def f5_r2:List LOp:=[
 ⟨some 17,.call ⟨.value (.func 14),#[],#[]⟩,none⟩,
 ⟨some 4,.assign (.tmp 17),none⟩]
def f5_r3:List LOp:=[
 ⟨some 19,.load 25 (.tmp 2),none⟩,
 ⟨some 20,.call ⟨.value (.func 15),#[.tmp 19],#[25]⟩,none⟩,
 ⟨some 18,.move (.tmp 20),none⟩,
 ⟨some 21,.extract (.tmp 18) 0,none⟩,
 ⟨some 22,.extract (.tmp 18) 1,none⟩,
 ⟨some 5,.assign (.tmp 21),none⟩,
 ⟨some 6,.assign (.tmp 22),none⟩]
def f5_r4:List LOp:=[
 ⟨some 23,.load 25 (.tmp 2),none⟩,
 ⟨some 24,.call ⟨.value (.func 13),#[.tmp 23],#[25]⟩,none⟩,
 ⟨some 25,.unOp .not 4 (.tmp 24),none⟩]
def f5_r5:List LOp:=[
 ⟨some 26,.move (.tmp 6),none⟩,
 ⟨some 27,.binOp .eql 33 (.tmp 26) (.const (.int .i64 1)) 33,none⟩,
 ⟨some 28,.move (.tmp 27),none⟩,
 ⟨some 29,.move (.tmp 5),some (2,true)⟩,
 ⟨some 30,.binOp .eql 32 (.tmp 29) (.const (.pointer none)) 32,some (2,true)⟩,
 ⟨some 31,.pick (.tmp 28) (.tmp 30) (.const (.bool false)),none⟩,
 ⟨some 32,.move (.tmp 31),none⟩,
 ⟨some 33,.call ⟨.value (.func 14),#[],#[]⟩,some (6,true)⟩,
 ⟨some 34,.pick (.tmp 32) (.tmp 33) (.const (.bool false)),none⟩,
 ⟨some 4,.assign (.tmp 34),none⟩]
def f5_r6:List LOp:=[
 ⟨some 35,.move (.tmp 1),none⟩,
 ⟨some 36,.call ⟨.builtin .len,#[.tmp 35],#[26]⟩,none⟩,
 ⟨some 37,.binOp .gtr 3 (.tmp 36) (.const (.int .i64 0)) 3,none⟩,
 ⟨some 38,.move (.tmp 1),none⟩,
 ⟨some 39,.call ⟨.builtin .len,#[.tmp 38],#[26]⟩,none⟩,
 ⟨some 40,.binOp .gtr 3 (.tmp 39) (.const (.int .i64 0)) 3,none⟩,
 ⟨some 7,.assign (.tmp 37),none⟩,
 ⟨some 8,.assign (.tmp 40),none⟩]
def f5_r7:List LOp:=[
 ⟨some 9,.assign (.const (.int .i64 0)),none⟩]
def f5_r8:List LOp:=[
 ⟨some 41,.move (.tmp 9),none⟩,
 ⟨some 42,.move (.tmp 1),none⟩,
 ⟨some 43,.call ⟨.builtin .len,#[.tmp 42],#[26]⟩,none⟩,
 ⟨some 44,.binOp .lss 3 (.tmp 41) (.tmp 43) 3,none⟩]
def f5_r9:List LOp:=[
 ⟨some 47,.move (.tmp 1),none⟩,
 ⟨some 48,.move (.tmp 9),none⟩,
 ⟨some 49,.indexAddr 26 (.tmp 47) (.tmp 48),none⟩,
 ⟨some 50,.load 28 (.tmp 49),none⟩,
 ⟨some 51,.call ⟨.value (.func 12),#[.tmp 50],#[28]⟩,none⟩]
def f5_r10:List LOp:=[
 ⟨some 52,.call ⟨.value (.func 14),#[],#[]⟩,none⟩,
 ⟨some 4,.assign (.tmp 52),none⟩]
def f5_r11:List LOp:=[
 ⟨some 53,.move (.tmp 7),none⟩,
 ⟨some 54,.move (.tmp 53),none⟩,
 ⟨some 55,.load 25 (.tmp 2),some (1,true)⟩,
 ⟨some 56,.move (.tmp 1),some (1,true)⟩,
 ⟨some 57,.move (.tmp 9),some (1,true)⟩,
 ⟨some 58,.indexAddr 26 (.tmp 56) (.tmp 57),some (1,true)⟩,
 ⟨some 59,.load 28 (.tmp 58),some (1,true)⟩,
 ⟨some 60,.call ⟨.value (.func 24),#[.tmp 55,.tmp 59,.const (.bool false)],#[25,28,4]⟩,some (1,true)⟩,
 ⟨some 61,.pick (.tmp 54) (.tmp 60) (.const (.bool false)),none⟩,
 ⟨some 7,.assign (.tmp 61),none⟩]
def f5_r12:List LOp:=[
 ⟨some 62,.move (.tmp 8),none⟩,
 ⟨some 63,.move (.tmp 62),none⟩,
 ⟨some 64,.load 25 (.tmp 2),some (1,true)⟩,
 ⟨some 65,.move (.tmp 1),some (1,true)⟩,
 ⟨some 66,.move (.tmp 9),some (1,true)⟩,
 ⟨some 67,.indexAddr 26 (.tmp 65) (.tmp 66),some (1,true)⟩,
 ⟨some 68,.load 28 (.tmp 67),some (1,true)⟩,
 ⟨some 69,.call ⟨.value (.func 24),#[.tmp 64,.tmp 68,.const (.bool true)],#[25,28,4]⟩,some (1,true)⟩,
 ⟨some 70,.pick (.tmp 63) (.tmp 69) (.const (.bool false)),none⟩,
 ⟨some 8,.assign (.tmp 70),none⟩]
def f5_r13:List LOp:=[
 ⟨some 45,.move (.tmp 9),none⟩,
 ⟨some 46,.binOp .add 3 (.tmp 45) (.const (.int .i64 1)) 3,none⟩,
 ⟨some 9,.assign (.tmp 46),none⟩]
def f5_l14:LC:=(.seq (.seq (.reg f5_r8 [] none) (.cond (.tmp 44) .skip (.exit 0))) (.seq (.block 1 (.seq (.seq (.reg f5_r9 [] none) (.cond (.tmp 51) (.seq (.reg f5_r10 [] none) .ret) .skip)) (.seq (.reg f5_r11 [] (some 7)) (.reg f5_r12 [] (some 7))))) (.reg f5_r13 [] none)))
def f5_i14 (t1 t2 t5 t6 t7 t8 t9:D):List D:=[.any,t1,t2,.any,.any,t5,t6,t7,t8,t9,.any,.any,.any,.any,.any,.any,.any,.any,.any,.any,.any,.any,.any,.any,.any,.any,.any,.any,.any,.any,.any,.any,.any,.any,.any,.any,.any,.any,.any,.any,.any,.any,.any,.any,.any,.any,.any,.any,.any,.any,.any,.any,.any,.any,.any,.any,.any,.any,.any,.any,.any,.any,.any,.any,.any,.any,.any,.any,.any,.any,.any,.any,.any,.any,.any,.any,.any,.any,.any,.any,.any,.any,.any,.any,.any,.any,.any,.any,.any,.any,.any,.any,.any,.any,.any,.any]
def f5_r15:List LOp:=[
 ⟨some 71,.move (.tmp 6),none⟩,
 ⟨some 72,.binOp .eql 33 (.tmp 71) (.const (.int .i64 0)) 33,none⟩,
 ⟨some 73,.move (.tmp 72),none⟩,
 ⟨some 74,.move (.tmp 5),some (2,true)⟩,
 ⟨some 75,.move (.tmp 1),some (2,true)⟩,
 ⟨some 76,.call ⟨.value (.func 22),#[.tmp 74,.tmp 75],#[32,26]⟩,some (2,true)⟩,
 ⟨some 77,.move (.tmp 7),some (2,true)⟩,
 ⟨some 78,.binOp .eql 4 (.tmp 76) (.tmp 77) 4,some (2,true)⟩,
 ⟨some 79,.pick (.tmp 73) (.tmp 78) (.const (.bool false)),none⟩,
 ⟨some 80,.move (.tmp 79),none⟩,
 ⟨some 81,.move (.tmp 5),some (9,true)⟩,
 ⟨some 82,.move (.tmp 1),some (9,true)⟩,
 ⟨some 83,.call ⟨.value (.func 23),#[.tmp 81,.tmp 82],#[32,26]⟩,some (9,true)⟩,
 ⟨some 84,.move (.tmp 8),some (9,true)⟩,
 ⟨some 85,.binOp .eql 4 (.tmp 83) (.tmp 84) 4,some (9,true)⟩,
 ⟨some 86,.pick (.tmp 80) (.tmp 85) (.const (.bool false)),none⟩,
 ⟨some 87,.move (.tmp 86),none⟩,
 ⟨some 88,.move (.tmp 5),some (16,true)⟩,
 ⟨some 89,.call ⟨.value (.func 26),#[.tmp 88],#[32]⟩,some (16,true)⟩,
 ⟨some 90,.load 25 (.tmp 2),some (16,true)⟩,
 ⟨some 91,.call ⟨.value (.func 25),#[.tmp 89,.tmp 90],#[25,25]⟩,some (16,true)⟩,
 ⟨some 92,.pick (.tmp 87) (.tmp 91) (.const (.bool false)),none⟩,
 ⟨some 93,.move (.tmp 92),none⟩,
 ⟨some 94,.call ⟨.value (.func 14),#[],#[]⟩,some (22,true)⟩,
 ⟨some 95,.pick (.tmp 93) (.tmp 94) (.const (.bool false)),none⟩,
 ⟨some 4,.assign (.tmp 95),none⟩]
def f5_c:LC:=(.seq (.reg f5_r0 [] none) (.seq (.seq (.reg f5_r1 [] none) (.cond (.tmp 16) (.seq (.reg f5_r2 [] none) .ret) .skip)) (.seq (.reg f5_r3 [] none) (.seq (.seq (.reg f5_r4 [] none) (.cond (.tmp 25) (.seq (.reg f5_r5 [] none) .ret) .skip)) (.seq (.reg f5_r6 [] none) (.seq (.seq (.reg f5_r7 [] none) (.block 0 (.loop f5_l14))) (.seq (.reg f5_r15 [] (some 25)) .ret)))))))
theorem f5_lc:Tryz.f5.body.map lc=some f5_c.st:=by kernel_rfl
theorem f5_res:Tryz.f5.results.toList=[.tmp 4]:=by kernel_rfl
theorem f5_nt:Tryz.f5.ntmps=96:=by kernel_rfl
theorem f5_nm : (Tryz.f5.name == "runtime.NumGoroutine") = false := by kernel_rfl
def f22_r0:List LOp:=[
 ⟨some 4,.assign (.const (.bool false)),none⟩]
def f22_r1:List LOp:=[
 ⟨some 6,.move (.tmp 0),none⟩,
 ⟨some 7,.move (.tmp 1),none⟩,
 ⟨some 8,.call ⟨.value (.func 48),#[.tmp 6,.tmp 7],#[32,26]⟩,none⟩,
 ⟨some 5,.alloc 96,none⟩,
 ⟨none,.store 96 (.tmp 5) (.tmp 8),none⟩]
def f22_r2:List LOp:=[
 ⟨some 9,.load 96 (.tmp 5),none⟩,
 ⟨some 10,.binOp .neq 96 (.tmp 9) (.const (.pointer none)) 96,none⟩,
 ⟨some 11,.move (.tmp 10),none⟩,
 ⟨some 12,.move (.tmp 1),some (2,true)⟩,
 ⟨some 13,.makeFunc (.func 55) #[] #[.tmp 5],some (2,true)⟩,
 ⟨some 14,.call ⟨.value (.func 54),#[.tmp 12,.tmp 13],#[26,30]⟩,some (2,true)⟩,
 ⟨some 15,.unOp .not 4 (.tmp 14),some (2,true)⟩,
 ⟨some 16,.pick (.tmp 11) (.tmp 15) (.const (.bool false)),none⟩,
 ⟨some 4,.assign (.tmp 16),none⟩]
def f22_c:LC:=(.seq (.reg f22_r0 [] none) (.seq (.reg f22_r1 [] none) (.seq (.reg f22_r2 [] none) .ret)))
theorem f22_lc:Tryz.f22.body.map lc=some f22_c.st:=by kernel_rfl
theorem f22_res:Tryz.f22.results.toList=[.tmp 4]:=by kernel_rfl
theorem f22_nt:Tryz.f22.ntmps=17:=by kernel_rfl
theorem f22_nm : (Tryz.f22.name == "runtime.NumGoroutine") = false := by kernel_rfl
def f24_r0:List LOp:=[
 ⟨some 3,.box 25 (.tmp 0),none⟩,
 ⟨some 4,.box 28 (.tmp 1),none⟩,
 ⟨some 6,.assign (.const (.bool false)),none⟩]
def f24_r1:List LOp:=[
 ⟨some 7,.load 25 (.tmp 3),none⟩,
 ⟨some 8,.load 28 (.tmp 4),none⟩,
 ⟨some 9,.call ⟨.value (.func 44),#[.tmp 7,.tmp 8],#[25,28]⟩,none⟩,
 ⟨some 10,.move (.tmp 9),none⟩,
 ⟨some 11,.load 25 (.tmp 3),some (3,true)⟩,
 ⟨some 12,.call ⟨.value (.func 46),#[.tmp 11],#[25]⟩,some (3,true)⟩,
 ⟨some 13,.load 28 (.tmp 4),some (3,true)⟩,
 ⟨some 14,.move (.tmp 2),some (3,true)⟩,
 ⟨some 15,.call ⟨.value (.func 59),#[.tmp 12,.tmp 13,.tmp 14],#[93,28,4]⟩,some (3,true)⟩,
 ⟨some 16,.pick (.tmp 10) (.tmp 15) (.const (.bool false)),none⟩,
 ⟨some 6,.assign (.tmp 16),none⟩]
def f24_c:LC:=(.seq (.reg f24_r0 [] none) (.seq (.reg f24_r1 [] (some 8)) .ret))
theorem f24_lc:Tryz.f24.body.map lc=some f24_c.st:=by kernel_rfl
theorem f24_res:Tryz.f24.results.toList=[.tmp 6]:=by kernel_rfl
theorem f24_nt:Tryz.f24.ntmps=17:=by kernel_rfl
theorem f24_nm : (Tryz.f24.name == "runtime.NumGoroutine") = false := by kernel_rfl
def f25_r0:List LOp:=[
 ⟨some 2,.box 25 (.tmp 0),none⟩,
 ⟨some 3,.box 25 (.tmp 1),none⟩,
 ⟨some 4,.assign (.const (.bool false)),none⟩]
def f25_r1:List LOp:=[
 ⟨some 7,.fieldAddr 25 (.tmp 2) 0,none⟩,
 ⟨some 8,.load 22 (.tmp 7),none⟩,
 ⟨some 9,.call ⟨.builtin .len,#[.tmp 8],#[22]⟩,none⟩,
 ⟨some 10,.fieldAddr 25 (.tmp 3) 0,none⟩,
 ⟨some 11,.load 22 (.tmp 10),none⟩,
 ⟨some 12,.call ⟨.builtin .len,#[.tmp 11],#[22]⟩,none⟩,
 ⟨some 13,.binOp .neq 3 (.tmp 9) (.tmp 12) 3,none⟩,
 ⟨some 14,.move (.tmp 13),none⟩,
 ⟨some 15,.fieldAddr 25 (.tmp 2) 1,some (7,false)⟩,
 ⟨some 16,.load 23 (.tmp 15),some (7,false)⟩,
 ⟨some 17,.call ⟨.builtin .len,#[.tmp 16],#[23]⟩,some (7,false)⟩,
 ⟨some 18,.fieldAddr 25 (.tmp 3) 1,some (7,false)⟩,
 ⟨some 19,.load 23 (.tmp 18),some (7,false)⟩,
 ⟨some 20,.call ⟨.builtin .len,#[.tmp 19],#[23]⟩,some (7,false)⟩,
 ⟨some 21,.binOp .neq 3 (.tmp 17) (.tmp 20) 3,some (7,false)⟩,
 ⟨some 22,.pick (.tmp 14) (.const (.bool true)) (.tmp 21),none⟩]
def f25_r2:List LOp:=[
 ⟨some 4,.assign (.const (.bool false)),none⟩]
def f25_r3:List LOp:=[
 ⟨some 23,.fieldAddr 25 (.tmp 2) 0,none⟩,
 ⟨some 24,.load 22 (.tmp 23),none⟩,
 ⟨some 25,.call ⟨.builtin .len,#[.tmp 24],#[22]⟩,none⟩,
 ⟨some 26,.move (.const (.int .i64 0)),none⟩]
def f25_r4:List LOp:=[
 ⟨some 27,.binOp .lss 3 (.tmp 26) (.tmp 25) 3,none⟩]
def f25_r5:List LOp:=[
 ⟨some 28,.move (.tmp 26),none⟩,
 ⟨some 5,.assign (.tmp 28),none⟩]
def f25_r6:List LOp:=[
 ⟨some 29,.fieldAddr 25 (.tmp 2) 0,none⟩,
 ⟨some 30,.load 22 (.tmp 29),none⟩,
 ⟨some 31,.move (.tmp 5),none⟩,
 ⟨some 32,.indexAddr 22 (.tmp 30) (.tmp 31),none⟩,
 ⟨some 33,.load 9 (.tmp 32),none⟩,
 ⟨some 34,.fieldAddr 25 (.tmp 3) 0,none⟩,
 ⟨some 35,.load 22 (.tmp 34),none⟩,
 ⟨some 36,.move (.tmp 5),none⟩,
 ⟨some 37,.indexAddr 22 (.tmp 35) (.tmp 36),none⟩,
 ⟨some 38,.load 9 (.tmp 37),none⟩,
 ⟨some 39,.binOp .neq 9 (.tmp 33) (.tmp 38) 9,none⟩]
def f25_r7:List LOp:=[
 ⟨some 4,.assign (.const (.bool false)),none⟩]
def f25_r8:List LOp:=[
 ⟨some 40,.binOp .add 3 (.tmp 26) (.const (.int .i64 1)) 3,none⟩,
 ⟨some 26,.move (.tmp 40),none⟩]
def f25_l9:LC:=(.seq (.reg f25_r4 [] none) (.seq (.cond (.tmp 27) .skip (.exit 0)) (.seq (.block 1 (.seq (.reg f25_r5 [] none) (.seq (.reg f25_r6 [] (some 10)) (.cond (.tmp 39) (.seq (.reg f25_r7 [] none) .ret) .skip)))) (.reg f25_r8 [] none))))
def f25_i9 (t2 t3 t25 t26:D):List D:=[.any,.any,t2,t3,.any,.any,.any,.any,.any,.any,.any,.any,.any,.any,.any,.any,.any,.any,.any,.any,.any,.any,.any,.any,.any,t25,t26,.any,.any,.any,.any,.any,.any,.any,.any,.any,.any,.any,.any,.any,.any,.any,.any,.any,.any,.any,.any,.any,.any,.any,.any,.any,.any,.any,.any,.any,.any,.any,.any,.any,.any,.any,.any,.any,.any,.any,.any,.any,.any,.any,.any,.any,.any,.any,.any,.any,.any]
def f25_r10:List LOp:=[
 ⟨some 41,.fieldAddr 25 (.tmp 2) 1,none⟩,
 ⟨some 42,.load 23 (.tmp 41),none⟩,
 ⟨some 43,.call ⟨.builtin .len,#[.tmp 42],#[23]⟩,none⟩,
 ⟨some 44,.move (.const (.int .i64 0)),none⟩]
def f25_r11:List LOp:=[
 ⟨some 45,.binOp .lss 3 (.tmp 44) (.tmp 43) 3,none⟩]
def f25_r12:List LOp:=[
 ⟨some 46,.move (.tmp 44),none⟩,
 ⟨some 6,.assign (.tmp 46),none⟩]
def f25_r13:List LOp:=[
 ⟨some 47,.fieldAddr 25 (.tmp 2) 1,none⟩,
 ⟨some 48,.load 23 (.tmp 47),none⟩,
 ⟨some 49,.move (.tmp 6),none⟩,
 ⟨some 50,.indexAddr 23 (.tmp 48) (.tmp 49),none⟩,
 ⟨some 51,.fieldAddr 43 (.tmp 50) 0,none⟩,
 ⟨some 52,.load 9 (.tmp 51),none⟩,
 ⟨some 53,.fieldAddr 25 (.tmp 3) 1,none⟩,
 ⟨some 54,.load 23 (.tmp 53),none⟩,
 ⟨some 55,.move (.tmp 6),none⟩,
 ⟨some 56,.indexAddr 23 (.tmp 54) (.tmp 55),none⟩,
 ⟨some 57,.fieldAddr 43 (.tmp 56) 0,none⟩,
 ⟨some 58,.load 9 (.tmp 57),none⟩,
 ⟨some 59,.binOp .neq 9 (.tmp 52) (.tmp 58) 9,none⟩,
 ⟨some 60,.move (.tmp 59),none⟩,
 ⟨some 61,.fieldAddr 25 (.tmp 2) 1,some (13,false)⟩,
 ⟨some 62,.load 23 (.tmp 61),some (13,false)⟩,
 ⟨some 63,.move (.tmp 6),some (13,false)⟩,
 ⟨some 64,.indexAddr 23 (.tmp 62) (.tmp 63),some (13,false)⟩,
 ⟨some 65,.fieldAddr 43 (.tmp 64) 1,some (13,false)⟩,
 ⟨some 66,.load 28 (.tmp 65),some (13,false)⟩,
 ⟨some 67,.fieldAddr 25 (.tmp 3) 1,some (13,false)⟩,
 ⟨some 68,.load 23 (.tmp 67),some (13,false)⟩,
 ⟨some 69,.move (.tmp 6),some (13,false)⟩,
 ⟨some 70,.indexAddr 23 (.tmp 68) (.tmp 69),some (13,false)⟩,
 ⟨some 71,.fieldAddr 43 (.tmp 70) 1,some (13,false)⟩,
 ⟨some 72,.load 28 (.tmp 71),some (13,false)⟩,
 ⟨some 73,.call ⟨.value (.func 60),#[.tmp 66,.tmp 72],#[28,28]⟩,some (13,false)⟩,
 ⟨some 74,.unOp .not 4 (.tmp 73),some (13,false)⟩,
 ⟨some 75,.pick (.tmp 60) (.const (.bool true)) (.tmp 74),none⟩]
def f25_r14:List LOp:=[
 ⟨some 4,.assign (.const (.bool false)),none⟩]
def f25_r15:List LOp:=[
 ⟨some 76,.binOp .add 3 (.tmp 44) (.const (.int .i64 1)) 3,none⟩,
 ⟨some 44,.move (.tmp 76),none⟩]
def f25_l16:LC:=(.seq (.reg f25_r11 [] none) (.seq (.cond (.tmp 45) .skip (.exit 2)) (.seq (.block 3 (.seq (.reg f25_r12 [] none) (.seq (.reg f25_r13 [] (some 29)) (.cond (.tmp 75) (.seq (.reg f25_r14 [] none) .ret) .skip)))) (.reg f25_r15 [] none))))
def f25_i16 (t2 t3 t43 t44:D):List D:=[.any,.any,t2,t3,.any,.any,.any,.any,.any,.any,.any,.any,.any,.any,.any,.any,.any,.any,.any,.any,.any,.any,.any,.any,.any,.any,.any,.any,.any,.any,.any,.any,.any,.any,.any,.any,.any,.any,.any,.any,.any,.any,.any,t43,t44,.any,.any,.any,.any,.any,.any,.any,.any,.any,.any,.any,.any,.any,.any,.any,.any,.any,.any,.any,.any,.any,.any,.any,.any,.any,.any,.any,.any,.any,.any,.any,.any]
def f25_r17:List LOp:=[
 ⟨some 4,.assign (.const (.bool true)),none⟩]
def f25_c:LC:=(.seq (.reg f25_r0 [] none) (.seq (.seq (.reg f25_r1 [] none) (.cond (.tmp 22) (.seq (.reg f25_r2 [] none) .ret) .skip)) (.seq (.seq (.reg f25_r3 [] none) (.block 0 (.loop f25_l9))) (.seq (.seq (.reg f25_r10 [] none) (.block 2 (.loop f25_l16))) (.seq (.reg f25_r17 [] none) .ret)))))
theorem f25_lc:Tryz.f25.body.map lc=some f25_c.st:=by kernel_rfl
theorem f25_res:Tryz.f25.results.toList=[.tmp 4]:=by kernel_rfl
theorem f25_nt:Tryz.f25.ntmps=77:=by kernel_rfl
theorem f25_nm : (Tryz.f25.name == "runtime.NumGoroutine") = false := by kernel_rfl
def f26_r0:List LOp:=[
 ⟨some 2,.alloc 25,none⟩]
def f26_r1:List LOp:=[
 ⟨some 3,.move (.tmp 0),none⟩,
 ⟨some 4,.binOp .eql 32 (.tmp 3) (.const (.pointer none)) 32,none⟩]
def f26_r2:List LOp:=[
 ⟨some 5,.build 25 #[],none⟩,
 ⟨none,.store 25 (.tmp 2) (.tmp 5),none⟩]
def f26_r3:List LOp:=[
 ⟨some 6,.move (.tmp 0),none⟩,
 ⟨some 7,.nilCheck (.tmp 6),none⟩,
 ⟨some 8,.fieldAddr 88 (.tmp 7) 0,none⟩,
 ⟨some 9,.load 25 (.tmp 8),none⟩,
 ⟨some 10,.call ⟨.value (.func 43),#[.tmp 9],#[25]⟩,none⟩,
 ⟨none,.store 25 (.tmp 2) (.tmp 10),none⟩]
def f26_c:LC:=(.seq (.reg f26_r0 [] none) (.seq (.seq (.reg f26_r1 [] none) (.cond (.tmp 4) (.seq (.reg f26_r2 [] none) .ret) .skip)) (.seq (.reg f26_r3 [] none) .ret)))
theorem f26_lc:Tryz.f26.body.map lc=some f26_c.st:=by kernel_rfl
theorem f26_res:Tryz.f26.results.toList=[.cell 2 25]:=by kernel_rfl
theorem f26_nt:Tryz.f26.ntmps=11:=by kernel_rfl
theorem f26_nm : (Tryz.f26.name == "runtime.NumGoroutine") = false := by kernel_rfl
attribute [go_sem] f5_r0 f5_r1 f5_r2 f5_r3 f5_r4 f5_r5 f5_r6 f5_r7 f5_r8 f5_r9 f5_r10 f5_r11 f5_r12 f5_r13 f5_l14 f5_i14 f5_r15 f5_c f11_r0 f11_r1 f11_r2 f11_r3 f11_r4 f11_r5 f11_r6 f11_r7 f11_r8 f11_l9 f11_i9 f11_r10 f11_r11 f11_r12 f11_r13 f11_r14 f11_r15 f11_l16 f11_i16 f11_r17 f11_c f12_r0 f12_r1 f12_c f13_r0 f13_r1 f13_r2 f13_r3 f13_r4 f13_r5 f13_r6 f13_r7 f13_r8 f13_r9 f13_r10 f13_l11 f13_i11 f13_r12 f13_c f14_r0 f14_r1 f14_r2 f14_r3 f14_r4 f14_c f15_r0 f15_r1 f15_r2 f15_r3 f15_c f17_r0 f17_r1 f17_r2 f17_r3 f17_r4 f17_r5 f17_r6 f17_r7 f17_r8 f17_l9 f17_i9 f17_r10 f17_c f18_r0 f18_r1 f18_r2 f18_r3 f18_r4 f18_c f19_r0 f19_r1 f19_r2 f19_r3 f19_r4 f19_c f22_r0 f22_r1 f22_r2 f22_c f23_r0 f23_r1 f23_r2 f23_c f24_r0 f24_r1 f24_c f25_r0 f25_r1 f25_r2 f25_r3 f25_r4 f25_r5 f25_r6 f25_r7 f25_r8 f25_l9 f25_i9 f25_r10 f25_r11 f25_r12 f25_r13 f25_r14 f25_r15 f25_l16 f25_i16 f25_r17 f25_c f26_r0 f26_r1 f26_r2 f26_r3 f26_c f34_r0 f34_r1 f34_r2 f34_r3 f34_r4 f34_r5 f34_r6 f34_l7 f34_i7 f34_r8 f34_c f37_r0 f37_r1 f37_r2 f37_r3 f37_r4 f37_r5 f37_r6 f37_r7 f37_r8 f37_l9 f37_i9 f37_r10 f37_c f38_r0 f38_r1 f38_r2 f38_r3 f38_r4 f38_r5 f38_r6 f38_l7 f38_i7 f38_r8 f38_c f39_r0 f39_r1 f39_r2 f39_r3 f39_r4 f39_r5 f39_r6 f39_l7 f39_i7 f39_r8 f39_c f40_r0 f40_r1 f40_r2 f40_r3 f40_r4 f40_r5 f40_r6 f40_r7 f40_r8 f40_r9 f40_r10 f40_r11 f40_r12 f40_l13 f40_i13 f40_r14 f40_c f41_r0 f41_r1 f41_r2 f41_r3 f41_r4 f41_r5 f41_r6 f41_r7 f41_r8 f41_r9 f41_r10 f41_r11 f41_r12 f41_r13 f41_r14 f41_l15 f41_i15 f41_r16 f41_r17 f41_r18 f41_r19 f41_r20 f41_r21 f41_r22 f41_r23 f41_l24 f41_i24 f41_r25 f41_r26 f41_r27 f41_c f42_r0 f42_r1 f42_c f43_r0 f43_r1 f43_r2 f43_r3 f43_r4 f43_r5 f43_r6 f43_l7 f43_i7 f43_r8 f43_c f44_r0 f44_r1 f44_c f46_r0 f46_r1 f46_r2 f46_r3 f46_r4 f46_r5 f46_r6 f46_r7 f46_l8 f46_i8 f46_r9 f46_r10 f46_r11 f46_r12 f46_r13 f46_r14 f46_r15 f46_r16 f46_l17 f46_i17 f46_r18 f46_l19 f46_i19 f46_r20 f46_r21 f46_r22 f46_r23 f46_r24 f46_r25 f46_r26 f46_l27 f46_i27 f46_r28 f46_l29 f46_i29 f46_r30 f46_r31 f46_r32 f46_r33 f46_r34 f46_r35 f46_r36 f46_l37 f46_i37 f46_r38 f46_l39 f46_i39 f46_r40 f46_c f47_r0 f47_r1 f47_r2 f47_r3 f47_r4 f47_r5 f47_r6 f47_r7 f47_r8 f47_r9 f47_r10 f47_c f48_r0 f48_r1 f48_r2 f48_r3 f48_r4 f48_c f49_r0 f49_r1 f49_r2 f49_r3 f49_r4 f49_r5 f49_r6 f49_r7 f49_l8 f49_i8 f49_r9 f49_c f50_r0 f50_r1 f50_r2 f50_r3 f50_r4 f50_r5 f50_r6 f50_r7 f50_r8 f50_r9 f50_r10 f50_r11 f50_r12 f50_r13 f50_r14 f50_r15 f50_c f51_r0 f51_r1 f51_r2 f51_r3 f51_r4 f51_r5 f51_r6 f51_r7 f51_r8 f51_r9 f51_r10 f51_r11 f51_r12 f51_r13 f51_r14 f51_r15 f51_r16 f51_r17 f51_l18 f51_i18 f51_r19 f51_c T1 T2 T3 T4 T5 T9 T20 T21 T22 T23 T25 T26 T28 T29 T30 T31 T32 T33 T36 T43 T49 T52 T56 T72 T73 T74 T76 T78 T80 T82 T83 T84 T86 T88 T91 T93 T96 T99 T106 T108 T113 T115 T120 T122 T124 T137 T146 T151 T154 T161 T165 T170 T181 T189 T193 T195 T197 T200 T204 ti1 ti2 ti3 ti4 ti5 ti9 ti20 ti21 ti22 ti23 ti25 ti26 ti28 ti29 ti30 ti31 ti32 ti33 ti36 ti43 ti49 ti52 ti56 ti72 ti73 ti74 ti76 ti78 ti80 ti82 ti83 ti84 ti86 ti88 ti91 ti93 ti96 ti99 ti106 ti108 ti113 ti115 ti120 ti122 ti124 ti137 ti146 ti151 ti154 ti161 ti165 ti170 ti181 ti189 ti193 ti195 ti197 ti200 ti204
end Go.Proofs.YtbmedfjmccnclaaGreat.W
namespace Go.Proofs.YtbmedfjmccnclaaGreat.W
open Go Go.Proofs Go.Proofs.YtbmedfjmccnclaaGreat.AWP
def f55_r0:List LOp:=[
 ⟨some 2,.box 28 (.tmp 0),none⟩,
 ⟨some 3,.assign (.const (.bool false)),none⟩]
def f55_r1:List LOp:=[
 ⟨some 4,.load 96 (.tmp 1),none⟩,
 ⟨some 5,.load 28 (.tmp 2),none⟩,
 ⟨some 6,.call ⟨.value (.func 56),#[.tmp 4,.tmp 5],#[96,28]⟩,none⟩,
 ⟨some 7,.unOp .not 4 (.tmp 6),none⟩,
 ⟨some 3,.assign (.tmp 7),none⟩]
def f55_c:LC:=(.seq (.reg f55_r0 [] none) (.seq (.reg f55_r1 [] none) .ret))
theorem f55_lc:Tryz.f55.body.map lc=some f55_c.st:=by kernel_rfl
theorem f55_res:Tryz.f55.results.toList=[.tmp 3]:=by kernel_rfl
theorem f55_nt:Tryz.f55.ntmps=8:=by kernel_rfl
theorem f55_nm : (Tryz.f55.name == "runtime.NumGoroutine") = false := by kernel_rfl
def f60_r0:List LOp:=[
 ⟨some 2,.box 28 (.tmp 0),none⟩,
 ⟨some 3,.box 28 (.tmp 1),none⟩,
 ⟨some 4,.assign (.const (.bool false)),none⟩]
def f60_r1:List LOp:=[
 ⟨some 6,.fieldAddr 28 (.tmp 2) 0,none⟩,
 ⟨some 7,.load 5 (.tmp 6),none⟩,
 ⟨some 8,.fieldAddr 28 (.tmp 3) 0,none⟩,
 ⟨some 9,.load 5 (.tmp 8),none⟩,
 ⟨some 10,.binOp .neq 5 (.tmp 7) (.tmp 9) 5,none⟩,
 ⟨some 11,.move (.tmp 10),none⟩,
 ⟨some 12,.fieldAddr 28 (.tmp 2) 1,some (5,false)⟩,
 ⟨some 13,.load 3 (.tmp 12),some (5,false)⟩,
 ⟨some 14,.fieldAddr 28 (.tmp 3) 1,some (5,false)⟩,
 ⟨some 15,.load 3 (.tmp 14),some (5,false)⟩,
 ⟨some 16,.binOp .neq 3 (.tmp 13) (.tmp 15) 3,some (5,false)⟩,
 ⟨some 17,.pick (.tmp 11) (.const (.bool true)) (.tmp 16),none⟩,
 ⟨some 18,.move (.tmp 17),none⟩,
 ⟨some 19,.fieldAddr 28 (.tmp 2) 2,some (12,false)⟩,
 ⟨some 20,.load 26 (.tmp 19),some (12,false)⟩,
 ⟨some 21,.call ⟨.builtin .len,#[.tmp 20],#[26]⟩,some (12,false)⟩,
 ⟨some 22,.fieldAddr 28 (.tmp 3) 2,some (12,false)⟩,
 ⟨some 23,.load 26 (.tmp 22),some (12,false)⟩,
 ⟨some 24,.call ⟨.builtin .len,#[.tmp 23],#[26]⟩,some (12,false)⟩,
 ⟨some 25,.binOp .neq 3 (.tmp 21) (.tmp 24) 3,some (12,false)⟩,
 ⟨some 26,.pick (.tmp 18) (.const (.bool true)) (.tmp 25),none⟩]
def f60_r2:List LOp:=[
 ⟨some 4,.assign (.const (.bool false)),none⟩]
def f60_r3:List LOp:=[
 ⟨some 27,.fieldAddr 28 (.tmp 2) 2,none⟩,
 ⟨some 28,.load 26 (.tmp 27),none⟩,
 ⟨some 29,.call ⟨.builtin .len,#[.tmp 28],#[26]⟩,none⟩,
 ⟨some 30,.move (.const (.int .i64 0)),none⟩]
def f60_r4:List LOp:=[
 ⟨some 31,.binOp .lss 3 (.tmp 30) (.tmp 29) 3,none⟩]
def f60_r5:List LOp:=[
 ⟨some 32,.move (.tmp 30),none⟩,
 ⟨some 5,.assign (.tmp 32),none⟩]
def f60_r6:List LOp:=[
 ⟨some 33,.fieldAddr 28 (.tmp 2) 2,none⟩,
 ⟨some 34,.load 26 (.tmp 33),none⟩,
 ⟨some 35,.move (.tmp 5),none⟩,
 ⟨some 36,.indexAddr 26 (.tmp 34) (.tmp 35),none⟩,
 ⟨some 37,.load 28 (.tmp 36),none⟩,
 ⟨some 38,.fieldAddr 28 (.tmp 3) 2,none⟩,
 ⟨some 39,.load 26 (.tmp 38),none⟩,
 ⟨some 40,.move (.tmp 5),none⟩,
 ⟨some 41,.indexAddr 26 (.tmp 39) (.tmp 40),none⟩,
 ⟨some 42,.load 28 (.tmp 41),none⟩,
 ⟨some 43,.call ⟨.value (.func 60),#[.tmp 37,.tmp 42],#[28,28]⟩,none⟩,
 ⟨some 44,.unOp .not 4 (.tmp 43),none⟩]
def f60_r7:List LOp:=[
 ⟨some 4,.assign (.const (.bool false)),none⟩]
def f60_r8:List LOp:=[
 ⟨some 45,.binOp .add 3 (.tmp 30) (.const (.int .i64 1)) 3,none⟩,
 ⟨some 30,.move (.tmp 45),none⟩]
def f60_l9:LC:=(.seq (.reg f60_r4 [] none) (.seq (.cond (.tmp 31) .skip (.exit 0)) (.seq (.block 1 (.seq (.reg f60_r5 [] none) (.seq (.reg f60_r6 [] (some 10)) (.cond (.tmp 44) (.seq (.reg f60_r7 [] none) .ret) .skip)))) (.reg f60_r8 [] none))))
def f60_i9 (t2 t3 t29 t30:D):List D:=[.any,.any,t2,t3,.any,.any,.any,.any,.any,.any,.any,.any,.any,.any,.any,.any,.any,.any,.any,.any,.any,.any,.any,.any,.any,.any,.any,.any,.any,t29,t30,.any,.any,.any,.any,.any,.any,.any,.any,.any,.any,.any,.any,.any,.any,.any]
def f60_r10:List LOp:=[
 ⟨some 4,.assign (.const (.bool true)),none⟩]
def f60_c:LC:=(.seq (.reg f60_r0 [] none) (.seq (.seq (.reg f60_r1 [] none) (.cond (.tmp 26) (.seq (.reg f60_r2 [] none) .ret) .skip)) (.seq (.seq (.reg f60_r3 [] none) (.block 0 (.loop f60_l9))) (.seq (.reg f60_r10 [] none) .ret))))
theorem f60_lc:Tryz.f60.body.map lc=some f60_c.st:=by kernel_rfl
theorem f60_res:Tryz.f60.results.toList=[.tmp 4]:=by kernel_rfl
theorem f60_nt:Tryz.f60.ntmps=46:=by kernel_rfl
theorem f60_nm : (Tryz.f60.name == "runtime.NumGoroutine") = false := by kernel_rfl
attribute [go_sem] f52_r0 f52_r1 f52_r2 f52_r3 f52_r4 f52_r5 f52_r6 f52_r7 f52_r8 f52_r9 f52_r10 f52_r11 f52_r12 f52_r13 f52_r14 f52_r15 f52_c f54_r0 f54_r1 f54_c f55_r0 f55_r1 f55_c f56_r0 f56_r1 f56_r2 f56_r3 f56_r4 f56_r5 f56_r6 f56_r7 f56_r8 f56_r9 f56_r10 f56_r11 f56_c f57_r0 f57_r1 f57_c f58_r0 f58_r1 f58_r2 f58_r3 f58_r4 f58_r5 f58_r6 f58_r7 f58_r8 f58_r9 f58_r10 f58_c f59_r0 f59_r1 f59_r2 f59_r3 f59_r4 f59_r5 f59_r6 f59_r7 f59_r8 f59_r9 f59_r10 f59_r11 f59_r12 f59_r13 f59_r14 f59_c f60_r0 f60_r1 f60_r2 f60_r3 f60_r4 f60_r5 f60_r6 f60_r7 f60_r8 f60_l9 f60_i9 f60_r10 f60_c f63_r0 f63_r1 f63_c f65_r0 f65_r1 f65_c f66_r0 f66_r1 f66_r2 f66_r3 f66_r4 f66_r5 f66_r6 f66_l7 f66_i7 f66_r8 f66_c f69_r0 f69_r1 f69_r2 f69_r3 f69_r4 f69_r5 f69_r6 f69_r7 f69_r8 f69_l9 f69_i9 f69_r10 f69_c f70_r0 f70_r1 f70_r2 f70_r3 f70_r4 f70_r5 f70_r6 f70_l7 f70_i7 f70_r8 f70_c f71_r0 f71_r1 f71_r2 f71_c f72_r0 f72_r1 f72_r2 f72_r3 f72_r4 f72_r5 f72_r6 f72_r7 f72_r8 f72_r9 f72_r10 f72_r11 f72_r12 f72_r13 f72_r14 f72_r15 f72_r16 f72_a17 f72_b17 f72_r18 f72_r19 f72_r20 f72_c f73_r0 f73_r1 f73_r2 f73_r3 f73_c f74_r0 f74_r1 f74_r2 f74_r3 f74_r4 f74_r5 f74_r6 f74_c f75_r0 f75_r1 f75_r2 f75_r3 f75_r4 f75_r5 f75_r6 f75_r7 f75_r8 f75_r9 f75_r10 f75_r11 f75_l12 f75_i12 f75_r13 f75_c f76_r0 f76_r1 f76_c f77_r0 f77_r1 f77_r2 f77_r3 f77_r4 f77_r5 f77_r6 f77_r7 f77_l8 f77_i8 f77_r9 f77_c f78_r0 f78_r1 f78_r2 f78_r3 f78_r4 f78_r5 f78_r6 f78_l7 f78_i7 f78_r8 f78_c f80_r0 f80_r1 f80_r2 f80_r3 f80_r4 f80_r5 f80_r6 f80_r7 f80_l8 f80_i8 f80_r9 f80_r10 f80_r11 f80_c f81_r0 f81_r1 f81_r2 f81_r3 f81_r4 f81_r5 f81_r6 f81_r7 f81_l8 f81_i8 f81_r9 f81_c f85_r0 f85_r1 f85_r2 f85_r3 f85_r4 f85_r5 f85_r6 f85_l7 f85_i7 f85_r8 f85_c f86_r0 f86_r1 f86_c f87_r0 f87_r1 f87_r2 f87_r3 f87_r4 f87_r5 f87_r6 f87_r7 f87_r8 f87_r9 f87_r10 f87_r11 f87_r12 f87_r13 f87_c f88_r0 f88_r1 f88_r2 f88_r3 f88_r4 f88_r5 f88_r6 f88_l7 f88_i7 f88_r8 f88_c f89_r0 f89_r1 f89_r2 f89_r3 f89_c f90_r0 f90_r1 f90_c f91_r0 f91_r1 f91_c f93_r0 f93_r1 f93_c f94_r0 f94_r1 f94_c f96_r0 f96_r1 f96_c f97_r0 f97_r1 f97_r2 f97_r3 f97_r4 f97_r5 f97_r6 f97_r7 f97_c f98_r0 f98_r1 f98_r2 f98_r3 f98_r4 f98_l5 f98_i5 f98_r6 f98_c f99_r0 f99_r1 f99_l2 f99_i2 f99_c f100_r0 f100_c f101_r0 f101_r1 f101_r2 f101_r3 f101_r4 f101_r5 f101_r6 f101_r7 f101_r8 f101_l9 f101_i9 f101_r10 f101_r11 f101_r12 f101_r13 f101_r14 f101_r15 f101_l16 f101_i16 f101_r17 f101_c f102_r0 f102_r1 f102_r2 f102_r3 f102_r4 f102_r5 f102_r6 f102_l7 f102_i7 f102_r8 f102_c f105_r0 f105_l1 f105_i1 f105_c f106_r0 f106_r1 f106_r2 f106_r3 f106_r4 f106_r5 f106_r6 f106_r7 f106_r8 f106_l9 f106_i9 f106_r10 f106_c f107_r0 f107_r1 f107_r2 f107_r3 f107_r4 f107_r5 f107_r6 f107_l7 f107_i7 f107_r8 f107_c f108_r0 f108_r1 f108_r2 f108_r3 f108_r4 f108_r5 f108_r6 f108_l7 f108_i7 f108_r8 f108_c f111_r0 f111_r1 f111_c f112_r0 f112_r1 f112_c f114_r0 f114_r1 f114_r2 f114_r3 f114_r4 f114_l5 f114_i5 f114_c f115_r0 f115_r1 f115_c f116_r0 f116_r1 f116_c f117_r0 f117_r1 f117_r2 f117_r3 f117_r4 f117_r5 f117_r6 f117_l7 f117_i7 f117_r8 f117_c f118_r0 f118_r1 f118_r2 f118_r3 f118_r4 f118_r5 f118_r6 f118_l7 f118_i7 f118_c f119_r0 f119_r1 f119_c f120_r0 f120_r1 f120_r2 f120_r3 f120_c f122_r0 f122_r1 f122_r2 f122_r3 f122_r4 f122_r5 f122_r6 f122_l7 f122_i7 f122_r8 f122_c f123_r0 f123_r1 f123_r2 f123_r3 f123_l4 f123_i4 f123_r5 f123_c f124_r0 f124_r1 f124_r2 f124_c f125_r0 f125_r1 f125_r2 f125_r3 f125_r4 f125_a5 f125_b5 f125_r6 f125_c f131_r0 f131_r1 f131_r2 f131_r3 f131_a4 f131_b4 f131_r5 f131_c f134_r0 f134_r1 f134_r2 f134_r3 f134_r4 f134_r5 f134_r6 f134_l7 f134_i7 f134_r8 f134_c f136_r0 f136_r1 f136_c f138_r0 f138_r1 f138_r2 f138_r3 f138_r4 f138_r5 f138_r6 f138_r7 f138_r8 f138_r9 f138_r10 f138_r11 f138_r12 f138_r13 f138_c f139_r0 f139_r1 f139_r2 f139_c f140_r0 f140_r1 f140_c f160_r0 f160_r1 f160_r2 f160_c f161_r0 f161_r1 f161_r2 f161_r3 f161_r4 f161_r5 f161_l6 f161_i6 f161_r7 f161_r8 f161_r9 f161_r10 f161_r11 f161_r12 f161_r13 f161_r14 f161_c f162_r0 f162_r1 f162_r2 f162_r3 f162_l4 f162_i4 f162_c f178_r0 f178_r1 f178_c
end Go.Proofs.YtbmedfjmccnclaaGreat.W
namespace Go.Proofs.YtbmedfjmccnclaaGreat.W
open Go Go.Proofs Go.Proofs.YtbmedfjmccnclaaGreat.AWP
open Int renaming reduceEq→iEq,reduceLE→iLE,reduceLT→iLT,reduceToNat→iTN
open List renaming length_map→lMp
open _root_.Bool renaming false_and → za
open _root_.Nat renaming zero_le → zb
attribute [local irreducible] xl hide aop aops aopQ qops guardP condP
theorem bneF {α:Type} [BEq α] [LawfulBEq α] (a:α):(a != a)=false:=by simp
theorem rSame (a:Cf):∀ b:Cf,AP Tryz.prog 60 [.agg a.c,.agg b.c] (.b (a.same b)):=by
 refine Cf.ind (p:=fun a=>∀ b:Cf,AP Tryz.prog 60 [.agg a.c,.agg b.c] (.b (a.same b))) (fun k n l IH b=>?_) a
 obtain ⟨k',n',l'⟩:=b
 refine AC.wf rfl fun hw=>?_
 have hl:l.length≤9223372036854775807:=by
  have h1:=(hw (.agg (Cf.mk k n l).c) (List.mem_cons_self ..)).agg_mem (Cfs l) (by rw [Cf.c_mk]; simp)
  have:=h1.sl_len
  rwa [cfs_len] at this
 have hqa:∀ (r:Cf) om (F:Nat→Bool) (ks:List (Option Nat)),Cv om F ks (.pel r.c) (.pel r.c):=fun r om F ks=>.same (Cf.pel_bl r)
 rw [Cf.same_mk]
 refine AC.lbody hT hm Tryz.func60 f60_nm f60_lc f60_res f60_nt ?_
 simp only [go_sem,iEq,iLE,iLT,iTN,Cf.c_mk,cfs_len,lMp]
 by_cases hk:k=k'
 case neg=>
  have e:(k != k')=true:=by simp [hk]
  simp only [go_sem,iEq,iLE,iLT,iTN,e]
  exact Fin.v (by rw [decide_eq_false (fun h=>hk h.1),za])
 subst hk
 by_cases hn:n=n'
 case neg=>
  have e:(n != n')=true:=by simp [hn]
  simp only [go_sem,iEq,iLE,iLT,iTN,bneF,e]
  exact Fin.v (by rw [decide_eq_false (fun h=>hn h),za])
 subst hn
 by_cases hll:l.length=l'.length
 case neg=>
  have e:((l.length:Int) != (l'.length:Int))=true:=by simp; omega
  simp only [go_sem,iEq,iLE,iLT,iTN,bneF,e,lMp,cfs_len]
  exact Fin.v (by rw [Cf.sames_len l l' hll])
 have e:((l.length:Int) != (l'.length:Int))=false:=by simp; omega
 rw [decide_eq_true (show k=k∧n=n from ⟨rfl,rfl⟩),Bool.true_and]
 simp only [go_sem,iEq,iLE,iLT,iTN,bneF,e,lMp,cfs_len]
 have hqP:∀ (l:List Cf) om (F:Nat→Bool) (ks:List (Option Nat)),Cv om F ks (.pel [.v (.int .u8 k),.v (.int .i64 n),.sl 3 (l.map Cf.c)]) (.pel [.v (.int .u8 k),.v (.int .i64 n),.sl 3 (l.map Cf.c)]):=fun l om F ks=>by
  have:=hqa (.mk k n l) om F ks
  rwa [Cf.c_mk,Cf.cs_eq] at this
 refine xl_loopM hT hm (fun i:Nat=>⟨f60_i9 (.pel [.v (.int .u8 k),.v (.int .i64 n),.sl 3 (l.map Cf.c)]) (.pel [.v (.int .u8 k),.v (.int .i64 n),.sl 3 (l'.map Cf.c)]) (.i l.length) (.i i),[]⟩)
  (fun i=>i≤l.length∧Cf.sames l l'=Cf.sames (l.drop i) (l'.drop i)) (fun i=>l.length - i) 0 ⟨zb _,rfl⟩ (Mv.none (by simp only [f60_i9,CvL]; simp [hqP])) ?_
 rintro i ⟨hi,hs⟩
 simp only [go_sem,iEq,iLE,iLT,iTN,lMp]
 by_cases h:i<l.length
 case neg=>
  simp only [go_sem,iEq,iLE,iLT,iTN,h]
  rw [List.drop_of_length_le (by omega),List.drop_of_length_le (by omega)] at hs
  exact Fin.v (by rw [hs,Cf.sames])
 obtain ⟨x,hx⟩:=get_ex h
 obtain ⟨y,hy⟩:=get_ex (l:=l') (show i<l'.length by omega)
 have hlt:i<l'.length:=by omega
 rw [drop_get hx,drop_get hy,Cf.sames_cons] at hs
 have hwi:=wrap_succ i (by omega)
 simp only [go_sem,iEq,iLE,iLT,iTN,h,hlt,hx,hy,lMp,Cf.c_take]
 refine (IH x (List.mem_of_getElem? hx) y).pv ⟨.same (Cf.d_bl x),.same (Cf.d_bl y),trivial⟩ ?_
 cases hxy:x.same y
 ·simp only [go_sem,iEq,iLE,iLT,iTN,Bool.not_false]
  exact Fin.v (by rw [hs,hxy,za])
 ·simp only [go_sem,iEq,iLE,iLT,iTN,Bool.not_true,hwi]
  exact ⟨i+1,⟨h,by rw [hs,hxy,Bool.true_and]⟩,by omega,Mv.none (by simp only [CvL]; simp [hqP])⟩
theorem ba_bne (a:ByteArray):(a.data.toList != a.data.toList)=false:=by simp
set_option maxHeartbeats 1000000 in
theorem rSameAll (g:Gr) (hk:g.kinds.length≤1000000) (hd:g.defs.length≤1000000):AP Tryz.prog 25 [.agg g.c,.agg g.c] (.b true):=by
 have hq:=pelG g
 have ek:((g.kinds.length:Int) != (g.kinds.length:Int))=false:=by simp
 have ed:((g.defs.length:Int) != (g.defs.length:Int))=false:=by simp
 refine AC.lbody hT hm Tryz.func25 f25_nm f25_lc f25_res f25_nt ?_
 simp only [go_sem,iEq,iLE,iLT,iTN,lMp,ek,ed]
 refine xl_loopM hT hm (fun i:Nat=>⟨f25_i9 (.pel g.c) (.pel g.c) (.i g.kinds.length) (.i i),[]⟩)
  (fun i=>i≤g.kinds.length) (fun i=>g.kinds.length - i) 0 (zb _) (Mv.none (by simp only [f25_i9,CvL]; simp [hq])) ?_
 intro i hi
 simp only [go_sem,iEq,iLE,iLT,iTN,lMp]
 by_cases h:i<g.kinds.length
 ·obtain ⟨x,hx⟩:=get_ex h
  have hwi:=wrap_succ i (by omega)
  have hxx:=ba_bne x
  simp only [go_sem,iEq,iLE,iLT,iTN,h,hx,lMp,hxx,hwi]
  exact ⟨i+1,h,by omega,Mv.none (by simp only [CvL]; simp [hq])⟩
 simp only [go_sem,iEq,iLE,iLT,iTN,h,lMp]
 clear h hi
 refine xl_loopM hT hm (fun i:Nat=>⟨f25_i16 (.pel g.c) (.pel g.c) (.i g.defs.length) (.i i),[]⟩)
  (fun i=>i≤g.defs.length) (fun i=>g.defs.length - i) 0 (zb _) (Mv.none (by simp only [f25_i16,CvL]; simp [hq])) ?_
 intro i hi
 simp only [go_sem,iEq,iLE,iLT,iTN,lMp]
 by_cases h:i<g.defs.length
 ·obtain ⟨x,hx⟩:=get_ex h
  have hwi:=wrap_succ i (by omega)
  have hxx:=ba_bne x.1
  have hS:=rSame x.2 x.2
  rw [Cf.same_refl] at hS
  simp only [go_sem,iEq,iLE,iLT,iTN,h,hx,lMp,df_0,df_drop,df_len,hxx,Cf.c_take]
  refine hS.qv ⟨.same (Cf.d_bl _),.same (Cf.d_bl _),trivial⟩ ?_
  simp only [go_sem,iEq,iLE,iLT,iTN,Bool.not_true,hwi]
  exact ⟨i+1,h,by omega,Mv.none (by simp only [CvL]; simp [hq])⟩
 simp only [go_sem,iEq,iLE,iLT,iTN,h,lMp]
 exact Fin.v rfl
end Go.Proofs.YtbmedfjmccnclaaGreat.W
set_option maxRecDepth 100000
